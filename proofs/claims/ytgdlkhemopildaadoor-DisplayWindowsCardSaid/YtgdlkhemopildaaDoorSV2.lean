/- Written by this repo's own program out of its texts. -/
import Derived.Test.YtgdlkhemopildaaDoorSV1
namespace Go.Proofs.YtgdlkhemopildaaDoor
set_option linter.unusedVariables false
set_option linter.unusedSimpArgs false
def sg_law54_DisplayWindows : Sig := ⟨6, 0, [(true, [(.int .i64), (.int .i64), (.slice false [(.slice true [.str, .bool, (.int .i64)])]), (.int .i64), (.int .i64), .bool]), (false, [.bool]), (false, [(.int .u8)])], [(false, [(.bool, none)])]⟩
def qiw (k : Nat) : Sig := ⟨sg_law54_DisplayWindows.f, k, sg_law54_DisplayWindows.args, sg_law54_DisplayWindows.res⟩
def qiv : List (FuncId × Nat × Head) := [(6, 6, ⟨[1, 3, 7, 8, 39, 40], [.slot 3 true 26 false [], .slot 7 true 30 false [], .slot 8 true 23 false []], [40], [], [(2, 3), (2, 2), (2, 1), (2, 0)], []⟩), (6, 12, ⟨[1, 3, 7, 8, 9, 10, 11, 39, 40], [.slot 3 true 26 false [], .slot 7 true 30 false [], .slot 8 true 23 false []], [10, 11], [], [(2, 3), (2, 2), (2, 1), (2, 0)], [10]⟩), (6, 19, ⟨[1, 3, 7, 8, 9, 10, 12, 14, 39, 40, 89, 90], [.slot 3 true 26 false [], .slot 7 true 30 false [], .slot 8 true 23 false [], .slot 12 true 5 false [(.int .u8)]], [90], [], [], []⟩)]
def qiu : List (FuncId × Nat × Nat × Plan) := [(6, 21, 26, (.op true 0 (.op true 1 (.op true 2 (.op true 3 (.op true 4 (.op true 5 (.op true 6 (.op true 7 (.op true 8 (.op true 9 (.op true 10 (.op true 11 (.op true 12 (.op true 13 (.op true 14 (.op true 15 (.op true 16 (.op true 17 (.op true 18 (.op true 19 (.op true 20 (.op true 21 (.op true 22 (.op true 23 (.op true 24 (.op true 25 .nil)))))))))))))))))))))))))))]
noncomputable def cx_law54_DisplayWindows : Cx := ⟨Tryd.prog, gtabU, [zsf 0, qb1 1, qb7 2, qca 3, qea 4, qb2 5], [], qiv, qiu, []⟩
def tr_law54_DisplayWindows : Tree := (.call 1 [(.o1 .agg (.cons (.o1 (.proj 0) (.v 0)) (.cons (.o1 (.proj 1) (.v 0)) (.cons (.o1 (.proj 2) (.v 0)) (.cons (.o1 (.proj 3) (.v 0)) (.cons (.o1 (.proj 4) (.v 0)) (.cons (.o1 (.proj 5) (.v 0)) .nil)))))))]
  (.br (.v 3)
    (.call 5 []
      (.ret (.v 4)))
    (.br (.o2 .lti (.int 6) (.o1 .len (.o1 (.proj 2) (.v 0))))
      (.call 5 []
        (.ret (.v 4)))
      (.call 2 [(.o1 .agg (.cons (.o1 (.proj 0) (.v 0)) (.cons (.o1 (.proj 1) (.v 0)) (.cons (.o1 (.proj 2) (.v 0)) (.cons (.o1 (.proj 3) (.v 0)) (.cons (.o1 (.proj 4) (.v 0)) (.cons (.o1 (.proj 5) (.v 0)) .nil)))))))]
        (.br (.o1 .no (.o2 .eqi (.v 4) (.int 0)))
          (.call 5 []
            (.ret (.v 5)))
          (.loop [(.int 0), (.o2 (.add .i64) (.int 1) (.o2 .rem (.o1 (.wrap .i64) (.v 2)) (.int 80))), (.int 0), (.int 0), (.bool false)]
            (.br (.o2 .lti (.v 5) (.o1 .len (.o1 (.proj 2) (.v 0))))
              (.req (.o2 .lei (.int 0) (.v 5)) (.req (.o2 .lti (.v 5) (.o1 .len (.o1 (.proj 2) (.v 0)))) (.br (.o2 .lti (.int 40) (.o1 .len (.o2 .idx (.o1 (.proj 2) (.v 0)) (.v 5))))
                (.call 5 []
                  (.ret (.v 10)))
                (.req (.o2 .lei (.int 0) (.v 5)) (.req (.o2 .lti (.v 5) (.o1 .len (.o1 (.proj 2) (.v 0)))) (.call 0 [(.o2 .idx (.o1 (.proj 2) (.v 0)) (.v 5)), (.v 1)]
                  (.loop [(.o1 (.proj 0) (.v 10)), (.bool true), (.v 6), (.v 7), (.v 8), (.v 9)]
                    (.br (.v 12)
                      (.call 3 [(.o1 .agg (.cons (.v 13) (.cons (.v 14) (.cons (.v 15) (.cons (.v 16) .nil))))), (.o1 .agg (.cons (.o1 (.proj 0) (.v 0)) (.cons (.o1 (.proj 1) (.v 0)) (.cons (.o1 (.proj 2) (.v 0)) (.cons (.o1 (.proj 3) (.v 0)) (.cons (.o1 (.proj 4) (.v 0)) (.cons (.o1 (.proj 5) (.v 0)) .nil))))))), (.o1 .agg (.cons (.int 0) (.cons (.bool false) (.cons (.bool false) (.cons (.int 0) (.cons (.v 1) (.cons (.int 0) .nil)))))))]
                        (.br (.o1 .no (.o2 .eqi (.v 14) (.v 5)))
                          (.ret (.bool false))
                          (.br (.o1 .no (.o2 .eqi (.o1 .len (.o1 (.proj 0) (.v 17))) (.v 13)))
                            (.ret (.bool false))
                            (.loop [(.int 0)]
                              (.br (.o2 .lti (.v 18) (.o1 .len (.o1 (.proj 0) (.v 17))))
                                (.br (.o2 .lti (.v 18) (.o2 .min (.o1 .len (.v 11)) (.v 13)))
                                  (.req (.o2 .lei (.int 0) (.v 18)) (.req (.o2 .lti (.v 18) (.o1 .len (.o1 (.proj 0) (.v 17)))) (.req (.o2 .lei (.int 0) (.v 18)) (.req (.o2 .lti (.v 18) (.o1 .len (.v 11))) (.br (.o1 .no (.o2 .eqi (.o2 .idx (.o1 (.proj 0) (.v 17)) (.v 18)) (.o2 .idx (.v 11) (.v 18))))
                                    (.ret (.bool false))
                                    (.br (.o2 .lei (.o2 .min (.o1 .len (.v 11)) (.v 13)) (.v 18))
                                      (.req (.o2 .lei (.int 0) (.v 18)) (.req (.o2 .lti (.v 18) (.o1 .len (.o1 (.proj 0) (.v 17)))) (.br (.o1 .no (.o2 .eqi (.o2 .idx (.o1 (.proj 0) (.v 17)) (.v 18)) (.int 0)))
                                        (.ret (.bool false))
                                        (.back 2 [(.o2 (.add .i64) (.v 18) (.int 1))]))))
                                      (.back 2 [(.o2 (.add .i64) (.v 18) (.int 1))])))))))
                                  (.br (.o2 .lei (.o2 .min (.o1 .len (.v 11)) (.v 13)) (.v 18))
                                    (.req (.o2 .lei (.int 0) (.v 18)) (.req (.o2 .lti (.v 18) (.o1 .len (.o1 (.proj 0) (.v 17)))) (.br (.o1 .no (.o2 .eqi (.o2 .idx (.o1 (.proj 0) (.v 17)) (.v 18)) (.int 0)))
                                      (.ret (.bool false))
                                      (.back 2 [(.o2 (.add .i64) (.v 18) (.int 1))]))))
                                    (.back 2 [(.o2 (.add .i64) (.v 18) (.int 1))])))
                                (.req (.o2 .lei (.int 0) (.o2 .min (.o1 .len (.v 11)) (.v 13))) (.req (.o2 .lei (.o2 .min (.o1 .len (.v 11)) (.v 13)) (.o1 .len (.v 11))) (.call 4 [(.o1 .agg (.cons (.v 13) (.cons (.v 14) (.cons (.v 15) (.cons (.v 16) .nil))))), (.o1 .agg (.cons (.o1 (.proj 0) (.v 0)) (.cons (.o1 (.proj 1) (.v 0)) (.cons (.o1 (.proj 2) (.v 0)) (.cons (.o1 (.proj 3) (.v 0)) (.cons (.o1 (.proj 4) (.v 0)) (.cons (.o1 (.proj 5) (.v 0)) .nil))))))), (.o1 .agg (.cons (.int 0) (.cons (.bool false) (.cons (.bool false) (.cons (.int 0) (.cons (.v 1) (.cons (.int 0) .nil))))))), (.int 1)]
                                  (.br (.o2 .lti (.o1 (.proj 0) (.v 19)) (.int 1))
                                    (.ret (.bool false))
                                    (.br (.o1 (.proj 3) (.v 19))
                                      (.ret (.bool false))
                                      (.back 1 [(.o3 .sub (.v 11) (.o2 .min (.o1 .len (.v 11)) (.v 13)) (.o1 .len (.v 11))), (.bool false), (.o1 (.proj 0) (.v 19)), (.o1 (.proj 1) (.v 19)), (.o1 (.proj 2) (.v 19)), (.o1 (.proj 3) (.v 19))])))))))))))
                      (.br (.o2 .lti (.int 0) (.o1 .len (.v 11)))
                        (.call 3 [(.o1 .agg (.cons (.v 13) (.cons (.v 14) (.cons (.v 15) (.cons (.v 16) .nil))))), (.o1 .agg (.cons (.o1 (.proj 0) (.v 0)) (.cons (.o1 (.proj 1) (.v 0)) (.cons (.o1 (.proj 2) (.v 0)) (.cons (.o1 (.proj 3) (.v 0)) (.cons (.o1 (.proj 4) (.v 0)) (.cons (.o1 (.proj 5) (.v 0)) .nil))))))), (.o1 .agg (.cons (.int 0) (.cons (.bool false) (.cons (.bool false) (.cons (.int 0) (.cons (.v 1) (.cons (.int 0) .nil)))))))]
                          (.br (.o1 .no (.o2 .eqi (.v 14) (.v 5)))
                            (.ret (.bool false))
                            (.br (.o1 .no (.o2 .eqi (.o1 .len (.o1 (.proj 0) (.v 17))) (.v 13)))
                              (.ret (.bool false))
                              (.loop [(.int 0)]
                                (.br (.o2 .lti (.v 18) (.o1 .len (.o1 (.proj 0) (.v 17))))
                                  (.br (.o2 .lti (.v 18) (.o2 .min (.o1 .len (.v 11)) (.v 13)))
                                    (.req (.o2 .lei (.int 0) (.v 18)) (.req (.o2 .lti (.v 18) (.o1 .len (.o1 (.proj 0) (.v 17)))) (.req (.o2 .lei (.int 0) (.v 18)) (.req (.o2 .lti (.v 18) (.o1 .len (.v 11))) (.br (.o1 .no (.o2 .eqi (.o2 .idx (.o1 (.proj 0) (.v 17)) (.v 18)) (.o2 .idx (.v 11) (.v 18))))
                                      (.ret (.bool false))
                                      (.br (.o2 .lei (.o2 .min (.o1 .len (.v 11)) (.v 13)) (.v 18))
                                        (.req (.o2 .lei (.int 0) (.v 18)) (.req (.o2 .lti (.v 18) (.o1 .len (.o1 (.proj 0) (.v 17)))) (.br (.o1 .no (.o2 .eqi (.o2 .idx (.o1 (.proj 0) (.v 17)) (.v 18)) (.int 0)))
                                          (.ret (.bool false))
                                          (.back 2 [(.o2 (.add .i64) (.v 18) (.int 1))]))))
                                        (.back 2 [(.o2 (.add .i64) (.v 18) (.int 1))])))))))
                                    (.br (.o2 .lei (.o2 .min (.o1 .len (.v 11)) (.v 13)) (.v 18))
                                      (.req (.o2 .lei (.int 0) (.v 18)) (.req (.o2 .lti (.v 18) (.o1 .len (.o1 (.proj 0) (.v 17)))) (.br (.o1 .no (.o2 .eqi (.o2 .idx (.o1 (.proj 0) (.v 17)) (.v 18)) (.int 0)))
                                        (.ret (.bool false))
                                        (.back 2 [(.o2 (.add .i64) (.v 18) (.int 1))]))))
                                      (.back 2 [(.o2 (.add .i64) (.v 18) (.int 1))])))
                                  (.req (.o2 .lei (.int 0) (.o2 .min (.o1 .len (.v 11)) (.v 13))) (.req (.o2 .lei (.o2 .min (.o1 .len (.v 11)) (.v 13)) (.o1 .len (.v 11))) (.call 4 [(.o1 .agg (.cons (.v 13) (.cons (.v 14) (.cons (.v 15) (.cons (.v 16) .nil))))), (.o1 .agg (.cons (.o1 (.proj 0) (.v 0)) (.cons (.o1 (.proj 1) (.v 0)) (.cons (.o1 (.proj 2) (.v 0)) (.cons (.o1 (.proj 3) (.v 0)) (.cons (.o1 (.proj 4) (.v 0)) (.cons (.o1 (.proj 5) (.v 0)) .nil))))))), (.o1 .agg (.cons (.int 0) (.cons (.bool false) (.cons (.bool false) (.cons (.int 0) (.cons (.v 1) (.cons (.int 0) .nil))))))), (.int 1)]
                                    (.br (.o2 .lti (.o1 (.proj 0) (.v 19)) (.int 1))
                                      (.ret (.bool false))
                                      (.br (.o1 (.proj 3) (.v 19))
                                        (.ret (.bool false))
                                        (.back 1 [(.o3 .sub (.v 11) (.o2 .min (.o1 .len (.v 11)) (.v 13)) (.o1 .len (.v 11))), (.bool false), (.o1 (.proj 0) (.v 19)), (.o1 (.proj 1) (.v 19)), (.o1 (.proj 2) (.v 19)), (.o1 (.proj 3) (.v 19))])))))))))))
                        (.back 0 [(.o2 (.add .i64) (.v 5) (.int 1)), (.v 13), (.v 14), (.v 15), (.v 16)]))))))))))
              (.call 5 []
                (.ret (.v 10))))))))))
set_option maxRecDepth 100000 in
theorem qit : za4 cx_law54_DisplayWindows 4 sg_law54_DisplayWindows Tryd.f6 (Tryd.f6.body.getD .skip) = tr_law54_DisplayWindows := by kernel_rfl
theorem qis {Γ : CEnv} (hg : ∀ n, Γ.glob n = globT n) (hs : ∀ s ∈ cx_law54_DisplayWindows.sigs, Contract Tryd.prog Γ gtabU s (Γ.pre s.no) (Γ.post s.no)) : CxOk cx_law54_DisplayWindows Γ := ⟨by kernel_rfl, hs, (fun x hx => by cases hx), (fun x hx => by cases hx)⟩
theorem qix {Γ : CEnv} (hg : ∀ n, Γ.glob n = globT n) (hs : ∀ s ∈ cx_law54_DisplayWindows.sigs, Contract Tryd.prog Γ gtabU s (Γ.pre s.no) (Γ.post s.no)) (k : Nat) {pre : List TV → Prop} {post : List TV → TV → Prop} (h : ∀ ts, ts.length = 3 → pre ts → tr_law54_DisplayWindows.den Γ (post ts) ts []) : Contract Tryd.prog Γ gtabU (qiw k) pre post :=
  Contract.renum (zas (qis hg hs) 4 sg_law54_DisplayWindows Tryd.func6 (by kernel_rfl) (by kernel_rfl) fun ts hl hp => by rw [qit]; exact h ts hl hp) k
end Go.Proofs.YtgdlkhemopildaaDoor


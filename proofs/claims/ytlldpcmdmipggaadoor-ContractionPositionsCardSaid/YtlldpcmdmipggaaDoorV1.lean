/- Written by a program of ours (Gen): the trees of the symbolic runs of functions, and their contracts' frames. -/
import Derived.Test.YtlldpcmdmipggaaDoorL1
namespace Go.Proofs.YtlldpcmdmipggaaDoor
set_option linter.unusedVariables false
set_option linter.unusedSimpArgs false

/-! narrator/utf8stream.Valid -/
def sg_utf8stream_Valid : Sig := ⟨24, 0, [(false, [.str])], [(false, [(.bool, none)])]⟩
def sn_utf8stream_Valid (k : Nat) : Sig := ⟨sg_utf8stream_Valid.f, k, sg_utf8stream_Valid.args, sg_utf8stream_Valid.res⟩
def hd_utf8stream_Valid : List (FuncId × Nat × Head) := []
def pl_utf8stream_Valid : List (FuncId × Nat × Nat × Plan) := []
noncomputable def cx_utf8stream_Valid : Cx := ⟨Tryd.prog, gtabU, [sn_unicode_utf8_ValidString 0], [], hd_utf8stream_Valid, pl_utf8stream_Valid, []⟩
def tr_utf8stream_Valid : Tree := (.call 0 [(.v 0)]
  (.ret (.v 1)))
set_option maxRecDepth 100000 in
theorem tree_utf8stream_Valid : fnTree cx_utf8stream_Valid 4 sg_utf8stream_Valid Tryd.f24 (Tryd.f24.body.getD .skip) = tr_utf8stream_Valid := by kernel_rfl
theorem cxok_utf8stream_Valid {Γ : CEnv} (hg : ∀ n, Γ.glob n = globT n) (hs : ∀ s ∈ cx_utf8stream_Valid.sigs, Contract Tryd.prog Γ gtabU s (Γ.pre s.no) (Γ.post s.no)) : CxOk cx_utf8stream_Valid Γ := ⟨by kernel_rfl, hs, (fun x hx => by cases hx), (fun x hx => by cases hx)⟩
theorem contract_utf8stream_Valid {Γ : CEnv} (hg : ∀ n, Γ.glob n = globT n) (hs : ∀ s ∈ cx_utf8stream_Valid.sigs, Contract Tryd.prog Γ gtabU s (Γ.pre s.no) (Γ.post s.no)) (k : Nat) {pre : List TV → Prop} {post : List TV → TV → Prop} (h : ∀ ts, ts.length = 1 → pre ts → tr_utf8stream_Valid.den Γ (post ts) ts []) : Contract Tryd.prog Γ gtabU (sn_utf8stream_Valid k) pre post :=
  Contract.renum (contract_of (cxok_utf8stream_Valid hg hs) 4 sg_utf8stream_Valid Tryd.func24 (by kernel_rfl) (by kernel_rfl) fun ts hl hp => by rw [tree_utf8stream_Valid]; exact h ts hl hp) k

/-! narrator/narratorlaw52.ContractionPositions -/
def sg_law52_ContractionPositions : Sig := ⟨8, 0, [(false, [.str])], [(false, [(.bool, none)])]⟩
def sn_law52_ContractionPositions (k : Nat) : Sig := ⟨sg_law52_ContractionPositions.f, k, sg_law52_ContractionPositions.args, sg_law52_ContractionPositions.res⟩
def hd_law52_ContractionPositions : List (FuncId × Nat × Head) := [(8, 8, ⟨[3, 4, 5, 6], [.slot 3 true 5 false [(.int .u8)], .slot 4 true 3 false [(.int .i64)], .slot 5 true 21 false [(.int .i32)]], [6], [], [], []⟩), (8, 10, ⟨[3, 4, 5, 6, 7], [.slot 3 true 5 false [(.int .u8)], .slot 4 true 3 false [(.int .i64)], .slot 5 true 21 false [(.int .i32)]], [7], [], [], []⟩)]
def pl_law52_ContractionPositions : List (FuncId × Nat × Nat × Plan) := [(8, 10, 15, (.op true 0 (.op true 1 (.op true 2 (.op true 3 (.op true 4 (.op true 5 (.op true 6 (.op true 7 (.op true 8 (.op true 9 (.op true 10 (.op true 11 (.op true 12 (.op true 13 (.op true 14 .nil))))))))))))))))]
noncomputable def cx_law52_ContractionPositions : Cx := ⟨Tryd.prog, gtabU, [sn_utf8stream_Encode 0, sn_contraction_Translate 1, sn_contraction_Back 2, sn_law52_awake 3, sn_utf8stream_Valid 4], [], hd_law52_ContractionPositions, pl_law52_ContractionPositions, []⟩
def tr_law52_ContractionPositions : Tree := (.br (.o2 .lti (.int 100) (.o1 .slen (.v 0)))
  (.call 3 []
    (.ret (.v 1)))
  (.call 4 [(.v 0)]
    (.br (.o1 .no (.v 1))
      (.call 3 []
        (.ret (.v 2)))
      (.call 1 [(.v 0)]
        (.req (.o2 .lei (.o1 .slen (.v 0)) (.int 1099511627776)) (.br (.o1 .no (.o2 .eqi (.o1 .len (.o1 (.proj 0) (.v 2))) (.o1 .len (.o1 (.proj 1) (.v 2)))))
          (.ret (.bool false))
          (.br (.o1 .no (.o2 .eqb (.o2 .eqi (.o1 .len (.o1 .runesOf (.v 0))) (.int 0)) (.o2 .eqi (.o1 .len (.o1 (.proj 0) (.v 2))) (.int 0))))
            (.ret (.bool false))
            (.br (.o2 .lti (.int 0) (.o1 .len (.o1 (.proj 1) (.v 2))))
              (.req (.o2 .lti (.int 0) (.o1 .len (.o1 (.proj 1) (.v 2)))) (.br (.o1 .no (.o2 .eqi (.o2 .idx (.o1 (.proj 1) (.v 2)) (.int 0)) (.int 0)))
                (.ret (.bool false))
                (.loop [(.int 0)]
                  (.br (.o2 .lti (.v 3) (.o1 .len (.o1 (.proj 1) (.v 2))))
                    (.loop [(.v 3)]
                      (.br (.o2 .lti (.v 4) (.o1 .len (.o1 (.proj 1) (.v 2))))
                        (.req (.o2 .lei (.int 0) (.v 4)) (.req (.o2 .lti (.v 4) (.o1 .len (.o1 (.proj 1) (.v 2)))) (.req (.o2 .lei (.int 0) (.v 3)) (.req (.o2 .lti (.v 3) (.o1 .len (.o1 (.proj 1) (.v 2)))) (.br (.o2 .eqi (.o2 .idx (.o1 (.proj 1) (.v 2)) (.v 4)) (.o2 .idx (.o1 (.proj 1) (.v 2)) (.v 3)))
                          (.back 1 [(.o2 (.add .i64) (.v 4) (.int 1))])
                          (.br (.o2 .lti (.v 4) (.o1 .len (.o1 (.proj 1) (.v 2))))
                            (.req (.o2 .lei (.int 0) (.v 4)) (.req (.o2 .lti (.v 4) (.o1 .len (.o1 (.proj 1) (.v 2)))) (.req (.o2 .lei (.int 0) (.v 3)) (.req (.o2 .lti (.v 3) (.o1 .len (.o1 (.proj 1) (.v 2)))) (.br (.o2 .lei (.o2 .idx (.o1 (.proj 1) (.v 2)) (.v 4)) (.o2 .idx (.o1 (.proj 1) (.v 2)) (.v 3)))
                              (.ret (.bool false))
                              (.br (.o2 .lti (.o1 .len (.o1 .runesOf (.v 0))) (.o2 .idx (.o1 (.proj 1) (.v 2)) (.v 4)))
                                (.ret (.bool false))
                                (.req (.o2 .lei (.int 0) (.v 3)) (.req (.o2 .lei (.v 3) (.v 4)) (.req (.o2 .lei (.int 0) (.v 4)) (.req (.o2 .lei (.v 4) (.o1 .len (.o1 (.proj 0) (.v 2)))) (.call 2 [(.o3 .sub (.o1 (.proj 0) (.v 2)) (.v 3) (.v 4))]
                                  (.req (.o2 .lei (.int 0) (.v 3)) (.req (.o2 .lti (.v 3) (.o1 .len (.o1 (.proj 1) (.v 2)))) (.req (.o2 .lei (.int 0) (.o2 .idx (.o1 (.proj 1) (.v 2)) (.v 3))) (.req (.o2 .lei (.o2 .idx (.o1 (.proj 1) (.v 2)) (.v 3)) (.o2 .idx (.o1 (.proj 1) (.v 2)) (.v 4))) (.req (.o2 .lei (.int 0) (.o2 .idx (.o1 (.proj 1) (.v 2)) (.v 4))) (.req (.o2 .lei (.o2 .idx (.o1 (.proj 1) (.v 2)) (.v 4)) (.o1 .len (.o1 .runesOf (.v 0)))) (.call 0 [(.o3 .sub (.o1 .runesOf (.v 0)) (.o2 .idx (.o1 (.proj 1) (.v 2)) (.v 3)) (.o2 .idx (.o1 (.proj 1) (.v 2)) (.v 4)))]
                                    (.br (.o1 .no (.o2 .eqi (.o1 (.proj 1) (.v 5)) (.int 0)))
                                      (.ret (.bool false))
                                      (.br (.o1 .no (.o2 .eqs (.o1 (.proj 0) (.v 5)) (.v 6)))
                                        (.ret (.bool false))
                                        (.req (.o2 .lei (.int 0) (.v 3)) (.req (.o2 .lti (.v 3) (.o1 .len (.o1 (.proj 1) (.v 2)))) (.br (.o2 .lti (.int 4) (.o2 (.sub .i64) (.o2 .idx (.o1 (.proj 1) (.v 2)) (.v 4)) (.o2 .idx (.o1 (.proj 1) (.v 2)) (.v 3))))
                                          (.ret (.bool false))
                                          (.back 0 [(.v 4)]))))))))))))))))))))))))
                            (.req (.o2 .lei (.int 0) (.v 3)) (.req (.o2 .lti (.v 3) (.o1 .len (.o1 (.proj 1) (.v 2)))) (.br (.o2 .lei (.o1 .len (.o1 .runesOf (.v 0))) (.o2 .idx (.o1 (.proj 1) (.v 2)) (.v 3)))
                              (.ret (.bool false))
                              (.br (.o2 .lti (.o1 .len (.o1 .runesOf (.v 0))) (.o1 .len (.o1 .runesOf (.v 0))))
                                (.ret (.bool false))
                                (.req (.o2 .lei (.int 0) (.v 3)) (.req (.o2 .lei (.v 3) (.v 4)) (.req (.o2 .lei (.int 0) (.v 4)) (.req (.o2 .lei (.v 4) (.o1 .len (.o1 (.proj 0) (.v 2)))) (.call 2 [(.o3 .sub (.o1 (.proj 0) (.v 2)) (.v 3) (.v 4))]
                                  (.req (.o2 .lei (.int 0) (.v 3)) (.req (.o2 .lti (.v 3) (.o1 .len (.o1 (.proj 1) (.v 2)))) (.req (.o2 .lei (.int 0) (.o2 .idx (.o1 (.proj 1) (.v 2)) (.v 3))) (.req (.o2 .lei (.o2 .idx (.o1 (.proj 1) (.v 2)) (.v 3)) (.o1 .len (.o1 .runesOf (.v 0)))) (.req (.o2 .lei (.int 0) (.o1 .len (.o1 .runesOf (.v 0)))) (.req (.o2 .lei (.o1 .len (.o1 .runesOf (.v 0))) (.o1 .len (.o1 .runesOf (.v 0)))) (.call 0 [(.o3 .sub (.o1 .runesOf (.v 0)) (.o2 .idx (.o1 (.proj 1) (.v 2)) (.v 3)) (.o1 .len (.o1 .runesOf (.v 0))))]
                                    (.br (.o1 .no (.o2 .eqi (.o1 (.proj 1) (.v 5)) (.int 0)))
                                      (.ret (.bool false))
                                      (.br (.o1 .no (.o2 .eqs (.o1 (.proj 0) (.v 5)) (.v 6)))
                                        (.ret (.bool false))
                                        (.req (.o2 .lei (.int 0) (.v 3)) (.req (.o2 .lti (.v 3) (.o1 .len (.o1 (.proj 1) (.v 2)))) (.br (.o2 .lti (.int 4) (.o2 (.sub .i64) (.o1 .len (.o1 .runesOf (.v 0))) (.o2 .idx (.o1 (.proj 1) (.v 2)) (.v 3))))
                                          (.ret (.bool false))
                                          (.back 0 [(.v 4)]))))))))))))))))))))))))))))
                        (.br (.o2 .lti (.v 4) (.o1 .len (.o1 (.proj 1) (.v 2))))
                          (.req (.o2 .lei (.int 0) (.v 4)) (.req (.o2 .lti (.v 4) (.o1 .len (.o1 (.proj 1) (.v 2)))) (.req (.o2 .lei (.int 0) (.v 3)) (.req (.o2 .lti (.v 3) (.o1 .len (.o1 (.proj 1) (.v 2)))) (.br (.o2 .lei (.o2 .idx (.o1 (.proj 1) (.v 2)) (.v 4)) (.o2 .idx (.o1 (.proj 1) (.v 2)) (.v 3)))
                            (.ret (.bool false))
                            (.br (.o2 .lti (.o1 .len (.o1 .runesOf (.v 0))) (.o2 .idx (.o1 (.proj 1) (.v 2)) (.v 4)))
                              (.ret (.bool false))
                              (.req (.o2 .lei (.int 0) (.v 3)) (.req (.o2 .lei (.v 3) (.v 4)) (.req (.o2 .lei (.int 0) (.v 4)) (.req (.o2 .lei (.v 4) (.o1 .len (.o1 (.proj 0) (.v 2)))) (.call 2 [(.o3 .sub (.o1 (.proj 0) (.v 2)) (.v 3) (.v 4))]
                                (.req (.o2 .lei (.int 0) (.v 3)) (.req (.o2 .lti (.v 3) (.o1 .len (.o1 (.proj 1) (.v 2)))) (.req (.o2 .lei (.int 0) (.o2 .idx (.o1 (.proj 1) (.v 2)) (.v 3))) (.req (.o2 .lei (.o2 .idx (.o1 (.proj 1) (.v 2)) (.v 3)) (.o2 .idx (.o1 (.proj 1) (.v 2)) (.v 4))) (.req (.o2 .lei (.int 0) (.o2 .idx (.o1 (.proj 1) (.v 2)) (.v 4))) (.req (.o2 .lei (.o2 .idx (.o1 (.proj 1) (.v 2)) (.v 4)) (.o1 .len (.o1 .runesOf (.v 0)))) (.call 0 [(.o3 .sub (.o1 .runesOf (.v 0)) (.o2 .idx (.o1 (.proj 1) (.v 2)) (.v 3)) (.o2 .idx (.o1 (.proj 1) (.v 2)) (.v 4)))]
                                  (.br (.o1 .no (.o2 .eqi (.o1 (.proj 1) (.v 5)) (.int 0)))
                                    (.ret (.bool false))
                                    (.br (.o1 .no (.o2 .eqs (.o1 (.proj 0) (.v 5)) (.v 6)))
                                      (.ret (.bool false))
                                      (.req (.o2 .lei (.int 0) (.v 3)) (.req (.o2 .lti (.v 3) (.o1 .len (.o1 (.proj 1) (.v 2)))) (.br (.o2 .lti (.int 4) (.o2 (.sub .i64) (.o2 .idx (.o1 (.proj 1) (.v 2)) (.v 4)) (.o2 .idx (.o1 (.proj 1) (.v 2)) (.v 3))))
                                        (.ret (.bool false))
                                        (.back 0 [(.v 4)]))))))))))))))))))))))))
                          (.req (.o2 .lei (.int 0) (.v 3)) (.req (.o2 .lti (.v 3) (.o1 .len (.o1 (.proj 1) (.v 2)))) (.br (.o2 .lei (.o1 .len (.o1 .runesOf (.v 0))) (.o2 .idx (.o1 (.proj 1) (.v 2)) (.v 3)))
                            (.ret (.bool false))
                            (.br (.o2 .lti (.o1 .len (.o1 .runesOf (.v 0))) (.o1 .len (.o1 .runesOf (.v 0))))
                              (.ret (.bool false))
                              (.req (.o2 .lei (.int 0) (.v 3)) (.req (.o2 .lei (.v 3) (.v 4)) (.req (.o2 .lei (.int 0) (.v 4)) (.req (.o2 .lei (.v 4) (.o1 .len (.o1 (.proj 0) (.v 2)))) (.call 2 [(.o3 .sub (.o1 (.proj 0) (.v 2)) (.v 3) (.v 4))]
                                (.req (.o2 .lei (.int 0) (.v 3)) (.req (.o2 .lti (.v 3) (.o1 .len (.o1 (.proj 1) (.v 2)))) (.req (.o2 .lei (.int 0) (.o2 .idx (.o1 (.proj 1) (.v 2)) (.v 3))) (.req (.o2 .lei (.o2 .idx (.o1 (.proj 1) (.v 2)) (.v 3)) (.o1 .len (.o1 .runesOf (.v 0)))) (.req (.o2 .lei (.int 0) (.o1 .len (.o1 .runesOf (.v 0)))) (.req (.o2 .lei (.o1 .len (.o1 .runesOf (.v 0))) (.o1 .len (.o1 .runesOf (.v 0)))) (.call 0 [(.o3 .sub (.o1 .runesOf (.v 0)) (.o2 .idx (.o1 (.proj 1) (.v 2)) (.v 3)) (.o1 .len (.o1 .runesOf (.v 0))))]
                                  (.br (.o1 .no (.o2 .eqi (.o1 (.proj 1) (.v 5)) (.int 0)))
                                    (.ret (.bool false))
                                    (.br (.o1 .no (.o2 .eqs (.o1 (.proj 0) (.v 5)) (.v 6)))
                                      (.ret (.bool false))
                                      (.req (.o2 .lei (.int 0) (.v 3)) (.req (.o2 .lti (.v 3) (.o1 .len (.o1 (.proj 1) (.v 2)))) (.br (.o2 .lti (.int 4) (.o2 (.sub .i64) (.o1 .len (.o1 .runesOf (.v 0))) (.o2 .idx (.o1 (.proj 1) (.v 2)) (.v 3))))
                                        (.ret (.bool false))
                                        (.back 0 [(.v 4)])))))))))))))))))))))))))
                    (.call 3 []
                      (.ret (.v 4)))))))
              (.loop [(.int 0)]
                (.br (.o2 .lti (.v 3) (.o1 .len (.o1 (.proj 1) (.v 2))))
                  (.loop [(.v 3)]
                    (.br (.o2 .lti (.v 4) (.o1 .len (.o1 (.proj 1) (.v 2))))
                      (.req (.o2 .lei (.int 0) (.v 4)) (.req (.o2 .lti (.v 4) (.o1 .len (.o1 (.proj 1) (.v 2)))) (.req (.o2 .lei (.int 0) (.v 3)) (.req (.o2 .lti (.v 3) (.o1 .len (.o1 (.proj 1) (.v 2)))) (.br (.o2 .eqi (.o2 .idx (.o1 (.proj 1) (.v 2)) (.v 4)) (.o2 .idx (.o1 (.proj 1) (.v 2)) (.v 3)))
                        (.back 1 [(.o2 (.add .i64) (.v 4) (.int 1))])
                        (.br (.o2 .lti (.v 4) (.o1 .len (.o1 (.proj 1) (.v 2))))
                          (.req (.o2 .lei (.int 0) (.v 4)) (.req (.o2 .lti (.v 4) (.o1 .len (.o1 (.proj 1) (.v 2)))) (.req (.o2 .lei (.int 0) (.v 3)) (.req (.o2 .lti (.v 3) (.o1 .len (.o1 (.proj 1) (.v 2)))) (.br (.o2 .lei (.o2 .idx (.o1 (.proj 1) (.v 2)) (.v 4)) (.o2 .idx (.o1 (.proj 1) (.v 2)) (.v 3)))
                            (.ret (.bool false))
                            (.br (.o2 .lti (.o1 .len (.o1 .runesOf (.v 0))) (.o2 .idx (.o1 (.proj 1) (.v 2)) (.v 4)))
                              (.ret (.bool false))
                              (.req (.o2 .lei (.int 0) (.v 3)) (.req (.o2 .lei (.v 3) (.v 4)) (.req (.o2 .lei (.int 0) (.v 4)) (.req (.o2 .lei (.v 4) (.o1 .len (.o1 (.proj 0) (.v 2)))) (.call 2 [(.o3 .sub (.o1 (.proj 0) (.v 2)) (.v 3) (.v 4))]
                                (.req (.o2 .lei (.int 0) (.v 3)) (.req (.o2 .lti (.v 3) (.o1 .len (.o1 (.proj 1) (.v 2)))) (.req (.o2 .lei (.int 0) (.o2 .idx (.o1 (.proj 1) (.v 2)) (.v 3))) (.req (.o2 .lei (.o2 .idx (.o1 (.proj 1) (.v 2)) (.v 3)) (.o2 .idx (.o1 (.proj 1) (.v 2)) (.v 4))) (.req (.o2 .lei (.int 0) (.o2 .idx (.o1 (.proj 1) (.v 2)) (.v 4))) (.req (.o2 .lei (.o2 .idx (.o1 (.proj 1) (.v 2)) (.v 4)) (.o1 .len (.o1 .runesOf (.v 0)))) (.call 0 [(.o3 .sub (.o1 .runesOf (.v 0)) (.o2 .idx (.o1 (.proj 1) (.v 2)) (.v 3)) (.o2 .idx (.o1 (.proj 1) (.v 2)) (.v 4)))]
                                  (.br (.o1 .no (.o2 .eqi (.o1 (.proj 1) (.v 5)) (.int 0)))
                                    (.ret (.bool false))
                                    (.br (.o1 .no (.o2 .eqs (.o1 (.proj 0) (.v 5)) (.v 6)))
                                      (.ret (.bool false))
                                      (.req (.o2 .lei (.int 0) (.v 3)) (.req (.o2 .lti (.v 3) (.o1 .len (.o1 (.proj 1) (.v 2)))) (.br (.o2 .lti (.int 4) (.o2 (.sub .i64) (.o2 .idx (.o1 (.proj 1) (.v 2)) (.v 4)) (.o2 .idx (.o1 (.proj 1) (.v 2)) (.v 3))))
                                        (.ret (.bool false))
                                        (.back 0 [(.v 4)]))))))))))))))))))))))))
                          (.req (.o2 .lei (.int 0) (.v 3)) (.req (.o2 .lti (.v 3) (.o1 .len (.o1 (.proj 1) (.v 2)))) (.br (.o2 .lei (.o1 .len (.o1 .runesOf (.v 0))) (.o2 .idx (.o1 (.proj 1) (.v 2)) (.v 3)))
                            (.ret (.bool false))
                            (.br (.o2 .lti (.o1 .len (.o1 .runesOf (.v 0))) (.o1 .len (.o1 .runesOf (.v 0))))
                              (.ret (.bool false))
                              (.req (.o2 .lei (.int 0) (.v 3)) (.req (.o2 .lei (.v 3) (.v 4)) (.req (.o2 .lei (.int 0) (.v 4)) (.req (.o2 .lei (.v 4) (.o1 .len (.o1 (.proj 0) (.v 2)))) (.call 2 [(.o3 .sub (.o1 (.proj 0) (.v 2)) (.v 3) (.v 4))]
                                (.req (.o2 .lei (.int 0) (.v 3)) (.req (.o2 .lti (.v 3) (.o1 .len (.o1 (.proj 1) (.v 2)))) (.req (.o2 .lei (.int 0) (.o2 .idx (.o1 (.proj 1) (.v 2)) (.v 3))) (.req (.o2 .lei (.o2 .idx (.o1 (.proj 1) (.v 2)) (.v 3)) (.o1 .len (.o1 .runesOf (.v 0)))) (.req (.o2 .lei (.int 0) (.o1 .len (.o1 .runesOf (.v 0)))) (.req (.o2 .lei (.o1 .len (.o1 .runesOf (.v 0))) (.o1 .len (.o1 .runesOf (.v 0)))) (.call 0 [(.o3 .sub (.o1 .runesOf (.v 0)) (.o2 .idx (.o1 (.proj 1) (.v 2)) (.v 3)) (.o1 .len (.o1 .runesOf (.v 0))))]
                                  (.br (.o1 .no (.o2 .eqi (.o1 (.proj 1) (.v 5)) (.int 0)))
                                    (.ret (.bool false))
                                    (.br (.o1 .no (.o2 .eqs (.o1 (.proj 0) (.v 5)) (.v 6)))
                                      (.ret (.bool false))
                                      (.req (.o2 .lei (.int 0) (.v 3)) (.req (.o2 .lti (.v 3) (.o1 .len (.o1 (.proj 1) (.v 2)))) (.br (.o2 .lti (.int 4) (.o2 (.sub .i64) (.o1 .len (.o1 .runesOf (.v 0))) (.o2 .idx (.o1 (.proj 1) (.v 2)) (.v 3))))
                                        (.ret (.bool false))
                                        (.back 0 [(.v 4)]))))))))))))))))))))))))))))
                      (.br (.o2 .lti (.v 4) (.o1 .len (.o1 (.proj 1) (.v 2))))
                        (.req (.o2 .lei (.int 0) (.v 4)) (.req (.o2 .lti (.v 4) (.o1 .len (.o1 (.proj 1) (.v 2)))) (.req (.o2 .lei (.int 0) (.v 3)) (.req (.o2 .lti (.v 3) (.o1 .len (.o1 (.proj 1) (.v 2)))) (.br (.o2 .lei (.o2 .idx (.o1 (.proj 1) (.v 2)) (.v 4)) (.o2 .idx (.o1 (.proj 1) (.v 2)) (.v 3)))
                          (.ret (.bool false))
                          (.br (.o2 .lti (.o1 .len (.o1 .runesOf (.v 0))) (.o2 .idx (.o1 (.proj 1) (.v 2)) (.v 4)))
                            (.ret (.bool false))
                            (.req (.o2 .lei (.int 0) (.v 3)) (.req (.o2 .lei (.v 3) (.v 4)) (.req (.o2 .lei (.int 0) (.v 4)) (.req (.o2 .lei (.v 4) (.o1 .len (.o1 (.proj 0) (.v 2)))) (.call 2 [(.o3 .sub (.o1 (.proj 0) (.v 2)) (.v 3) (.v 4))]
                              (.req (.o2 .lei (.int 0) (.v 3)) (.req (.o2 .lti (.v 3) (.o1 .len (.o1 (.proj 1) (.v 2)))) (.req (.o2 .lei (.int 0) (.o2 .idx (.o1 (.proj 1) (.v 2)) (.v 3))) (.req (.o2 .lei (.o2 .idx (.o1 (.proj 1) (.v 2)) (.v 3)) (.o2 .idx (.o1 (.proj 1) (.v 2)) (.v 4))) (.req (.o2 .lei (.int 0) (.o2 .idx (.o1 (.proj 1) (.v 2)) (.v 4))) (.req (.o2 .lei (.o2 .idx (.o1 (.proj 1) (.v 2)) (.v 4)) (.o1 .len (.o1 .runesOf (.v 0)))) (.call 0 [(.o3 .sub (.o1 .runesOf (.v 0)) (.o2 .idx (.o1 (.proj 1) (.v 2)) (.v 3)) (.o2 .idx (.o1 (.proj 1) (.v 2)) (.v 4)))]
                                (.br (.o1 .no (.o2 .eqi (.o1 (.proj 1) (.v 5)) (.int 0)))
                                  (.ret (.bool false))
                                  (.br (.o1 .no (.o2 .eqs (.o1 (.proj 0) (.v 5)) (.v 6)))
                                    (.ret (.bool false))
                                    (.req (.o2 .lei (.int 0) (.v 3)) (.req (.o2 .lti (.v 3) (.o1 .len (.o1 (.proj 1) (.v 2)))) (.br (.o2 .lti (.int 4) (.o2 (.sub .i64) (.o2 .idx (.o1 (.proj 1) (.v 2)) (.v 4)) (.o2 .idx (.o1 (.proj 1) (.v 2)) (.v 3))))
                                      (.ret (.bool false))
                                      (.back 0 [(.v 4)]))))))))))))))))))))))))
                        (.req (.o2 .lei (.int 0) (.v 3)) (.req (.o2 .lti (.v 3) (.o1 .len (.o1 (.proj 1) (.v 2)))) (.br (.o2 .lei (.o1 .len (.o1 .runesOf (.v 0))) (.o2 .idx (.o1 (.proj 1) (.v 2)) (.v 3)))
                          (.ret (.bool false))
                          (.br (.o2 .lti (.o1 .len (.o1 .runesOf (.v 0))) (.o1 .len (.o1 .runesOf (.v 0))))
                            (.ret (.bool false))
                            (.req (.o2 .lei (.int 0) (.v 3)) (.req (.o2 .lei (.v 3) (.v 4)) (.req (.o2 .lei (.int 0) (.v 4)) (.req (.o2 .lei (.v 4) (.o1 .len (.o1 (.proj 0) (.v 2)))) (.call 2 [(.o3 .sub (.o1 (.proj 0) (.v 2)) (.v 3) (.v 4))]
                              (.req (.o2 .lei (.int 0) (.v 3)) (.req (.o2 .lti (.v 3) (.o1 .len (.o1 (.proj 1) (.v 2)))) (.req (.o2 .lei (.int 0) (.o2 .idx (.o1 (.proj 1) (.v 2)) (.v 3))) (.req (.o2 .lei (.o2 .idx (.o1 (.proj 1) (.v 2)) (.v 3)) (.o1 .len (.o1 .runesOf (.v 0)))) (.req (.o2 .lei (.int 0) (.o1 .len (.o1 .runesOf (.v 0)))) (.req (.o2 .lei (.o1 .len (.o1 .runesOf (.v 0))) (.o1 .len (.o1 .runesOf (.v 0)))) (.call 0 [(.o3 .sub (.o1 .runesOf (.v 0)) (.o2 .idx (.o1 (.proj 1) (.v 2)) (.v 3)) (.o1 .len (.o1 .runesOf (.v 0))))]
                                (.br (.o1 .no (.o2 .eqi (.o1 (.proj 1) (.v 5)) (.int 0)))
                                  (.ret (.bool false))
                                  (.br (.o1 .no (.o2 .eqs (.o1 (.proj 0) (.v 5)) (.v 6)))
                                    (.ret (.bool false))
                                    (.req (.o2 .lei (.int 0) (.v 3)) (.req (.o2 .lti (.v 3) (.o1 .len (.o1 (.proj 1) (.v 2)))) (.br (.o2 .lti (.int 4) (.o2 (.sub .i64) (.o1 .len (.o1 .runesOf (.v 0))) (.o2 .idx (.o1 (.proj 1) (.v 2)) (.v 3))))
                                      (.ret (.bool false))
                                      (.back 0 [(.v 4)])))))))))))))))))))))))))
                  (.call 3 []
                    (.ret (.v 4)))))))))))))
set_option maxRecDepth 100000 in
theorem tree_law52_ContractionPositions : fnTree cx_law52_ContractionPositions 4 sg_law52_ContractionPositions Tryd.f8 (Tryd.f8.body.getD .skip) = tr_law52_ContractionPositions := by kernel_rfl
theorem cxok_law52_ContractionPositions {Γ : CEnv} (hg : ∀ n, Γ.glob n = globT n) (hs : ∀ s ∈ cx_law52_ContractionPositions.sigs, Contract Tryd.prog Γ gtabU s (Γ.pre s.no) (Γ.post s.no)) : CxOk cx_law52_ContractionPositions Γ := ⟨by kernel_rfl, hs, (fun x hx => by cases hx), (fun x hx => by cases hx)⟩
theorem contract_law52_ContractionPositions {Γ : CEnv} (hg : ∀ n, Γ.glob n = globT n) (hs : ∀ s ∈ cx_law52_ContractionPositions.sigs, Contract Tryd.prog Γ gtabU s (Γ.pre s.no) (Γ.post s.no)) (k : Nat) {pre : List TV → Prop} {post : List TV → TV → Prop} (h : ∀ ts, ts.length = 1 → pre ts → tr_law52_ContractionPositions.den Γ (post ts) ts []) : Contract Tryd.prog Γ gtabU (sn_law52_ContractionPositions k) pre post :=
  Contract.renum (contract_of (cxok_law52_ContractionPositions hg hs) 4 sg_law52_ContractionPositions Tryd.func8 (by kernel_rfl) (by kernel_rfl) fun ts hl hp => by rw [tree_law52_ContractionPositions]; exact h ts hl hp) k

/-! narrator/narratorlaw52.ContractionJoins -/
def sg_law52_ContractionJoins : Sig := ⟨9, 0, [(false, [.str]), (false, [.str])], [(false, [(.bool, none)])]⟩
def sn_law52_ContractionJoins (k : Nat) : Sig := ⟨sg_law52_ContractionJoins.f, k, sg_law52_ContractionJoins.args, sg_law52_ContractionJoins.res⟩
def hd_law52_ContractionJoins : List (FuncId × Nat × Head) := []
def pl_law52_ContractionJoins : List (FuncId × Nat × Nat × Plan) := []
noncomputable def cx_law52_ContractionJoins : Cx := ⟨Tryd.prog, gtabU, [sn_contraction_Translate 0, sn_contraction_Back 1, sn_contraction_Length 2, sn_law52_awake 3, sn_utf8stream_Valid 4], [], hd_law52_ContractionJoins, pl_law52_ContractionJoins, []⟩
def tr_law52_ContractionJoins : Tree := (.br (.o2 .lti (.int 60) (.o1 .slen (.v 0)))
  (.call 3 []
    (.ret (.v 2)))
  (.br (.o2 .lti (.int 60) (.o1 .slen (.v 1)))
    (.call 3 []
      (.ret (.v 2)))
    (.call 4 [(.v 0)]
      (.br (.o1 .no (.v 2))
        (.call 3 []
          (.ret (.v 3)))
        (.call 4 [(.v 1)]
          (.br (.o1 .no (.v 3))
            (.call 3 []
              (.ret (.v 4)))
            (.call 0 [(.v 0)]
              (.call 0 [(.v 1)]
                (.req (.o2 .lei (.o1 .len (.o2 .app .nil (.o1 (.proj 0) (.v 4)))) (.int 1099511627776)) (.req (.o2 .lei (.o1 .len (.o2 .app (.o2 .app .nil (.o1 (.proj 0) (.v 4))) (.o1 (.proj 0) (.v 5)))) (.int 1099511627776)) (.call 1 [(.o2 .app (.o2 .app .nil (.o1 (.proj 0) (.v 4))) (.o1 (.proj 0) (.v 5)))]
                  (.br (.o2 .eqi (.o1 (.proj 1) (.v 6)) (.int 0))
                    (.req (.o2 .lei (.o1 .slen (.o2 .cat (.v 0) (.v 1))) (.int 9223372036854775807)) (.br (.o2 .eqs (.o1 (.proj 0) (.v 6)) (.o2 .cat (.v 0) (.v 1)))
                      (.req (.o2 .lei (.o1 .slen (.o2 .cat (.v 0) (.v 1))) (.int 9223372036854775807)) (.call 2 [(.o2 .cat (.v 0) (.v 1))]
                        (.br (.o2 .lei (.v 7) (.o2 (.add .i64) (.o1 .len (.o1 (.proj 0) (.v 4))) (.o1 .len (.o1 (.proj 0) (.v 5)))))
                          (.call 3 []
                            (.ret (.v 8)))
                          (.ret (.bool false)))))
                      (.ret (.bool false))))
                    (.ret (.bool false))))))))))))))
set_option maxRecDepth 100000 in
theorem tree_law52_ContractionJoins : fnTree cx_law52_ContractionJoins 4 sg_law52_ContractionJoins Tryd.f9 (Tryd.f9.body.getD .skip) = tr_law52_ContractionJoins := by kernel_rfl
theorem cxok_law52_ContractionJoins {Γ : CEnv} (hg : ∀ n, Γ.glob n = globT n) (hs : ∀ s ∈ cx_law52_ContractionJoins.sigs, Contract Tryd.prog Γ gtabU s (Γ.pre s.no) (Γ.post s.no)) : CxOk cx_law52_ContractionJoins Γ := ⟨by kernel_rfl, hs, (fun x hx => by cases hx), (fun x hx => by cases hx)⟩
theorem contract_law52_ContractionJoins {Γ : CEnv} (hg : ∀ n, Γ.glob n = globT n) (hs : ∀ s ∈ cx_law52_ContractionJoins.sigs, Contract Tryd.prog Γ gtabU s (Γ.pre s.no) (Γ.post s.no)) (k : Nat) {pre : List TV → Prop} {post : List TV → TV → Prop} (h : ∀ ts, ts.length = 2 → pre ts → tr_law52_ContractionJoins.den Γ (post ts) ts []) : Contract Tryd.prog Γ gtabU (sn_law52_ContractionJoins k) pre post :=
  Contract.renum (contract_of (cxok_law52_ContractionJoins hg hs) 4 sg_law52_ContractionJoins Tryd.func9 (by kernel_rfl) (by kernel_rfl) fun ts hl hp => by rw [tree_law52_ContractionJoins]; exact h ts hl hp) k
end Go.Proofs.YtlldpcmdmipggaaDoor

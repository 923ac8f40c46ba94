/- Written by this repo's own program out of its texts. -/
import Derived.Test.YtlhagkbhojmjpaaDoorTE1
import Derived.Test.YtlhagkbhojmjpaaDoorTB1
namespace Go.Proofs.YtlhagkbhojmjpaaDoor
set_option linter.unusedVariables false
set_option linter.unusedSimpArgs false
def sg_brailleline_Glyphs : Sig := ⟨22, 0, [(false, [(.slice false [(.int .u8)])]), (true, [(.int .i64), .bool, .bool, (.int .i64), .bool, (.int .i64)])], [(false, [((.slice true [.str, .bool, (.int .i64)]), some 107)]), (false, [((.int .i64), none)])]⟩
def zd8 (k : Nat) : Sig := ⟨sg_brailleline_Glyphs.f, k, sg_brailleline_Glyphs.args, sg_brailleline_Glyphs.res⟩
def zvr : List (FuncId × Nat × Head) := [(22, 12, ⟨[10, 29, 30, 31], [.slot 29 true 9 false [.str], .slot 10 true 107 true [.str, .bool, (.int .i64)]], [31], [1], [], []⟩), (99, 2, ⟨[0, 1, 7, 8], [.blk 0, .blk 1], [8], [], [], []⟩)]
def zus : List (FuncId × Nat × Nat × Plan) := []
noncomputable def cx_brailleline_Glyphs : Cx := ⟨Tryd.prog, gtabU, [zbz 0, zce 1, ze6 2, zcc 3, zh6 4, zh0 5], [(53, Tryd.f53), (99, Tryd.f99), (54, Tryd.f54)], zvr, zus, []⟩
def tr_brailleline_Glyphs : Tree := (.br (.o1 (.proj 4) (.v 1))
  (.call 2 [(.v 0)]
    (.br (.o1 .no (.o2 .eqi (.o1 (.proj 1) (.v 2)) (.int 0)))
      (.ret (.o1 .agg (.cons .nil (.cons (.o1 (.proj 1) (.v 2)) .nil))))
      (.call 0 [(.o1 (.proj 0) (.v 2))]
        (.loop [(.int 0)]
          (.br (.o2 .lti (.v 4) (.o1 .len (.v 3)))
            (.req (.o2 .lei (.int 0) (.v 4)) (.req (.o2 .lti (.v 4) (.o1 .len (.v 3))) (.call 3 [(.o2 .idx (.v 3) (.v 4))]
              (.br (.o2 .lti (.v 5) (.int 0))
                (.br (.o2 .lei (.int 0) (.v 4))
                  (.ret (.o1 .agg (.cons .nil (.cons (.int 17) .nil))))
                  (.call 5 [(.v 3)]
                    (.loop [(.int 0), .nil]
                      (.br (.o2 .lti (.v 7) (.o1 .len (.v 6)))
                        (.req (.o2 .lei (.int 0) (.v 7)) (.req (.o2 .lti (.v 7) (.o1 .len (.v 6))) (.call 4 [(.o2 .idx (.v 6) (.v 7))]
                          (.req (.o2 .lei (.o1 .len (.o2 .app (.v 8) (.cons (.o1 .agg (.cons (.o2 .idx (.v 6) (.v 7)) (.cons (.o2 .eqi (.v 9) (.int 2)) (.cons (.int 0) .nil)))) .nil))) (.int 1099511627776)) (.back 1 [(.o2 (.add .i64) (.v 7) (.int 1)), (.o2 .app (.v 8) (.cons (.o1 .agg (.cons (.o2 .idx (.v 6) (.v 7)) (.cons (.o2 .eqi (.v 9) (.int 2)) (.cons (.int 0) .nil)))) .nil))])))))
                        (.ret (.o1 .agg (.cons (.v 8) (.cons (.int 0) .nil))))))))
                (.back 0 [(.o2 (.add .i64) (.v 4) (.int 1))])))))
            (.call 5 [(.v 3)]
              (.loop [(.int 0), .nil]
                (.br (.o2 .lti (.v 6) (.o1 .len (.v 5)))
                  (.req (.o2 .lei (.int 0) (.v 6)) (.req (.o2 .lti (.v 6) (.o1 .len (.v 5))) (.call 4 [(.o2 .idx (.v 5) (.v 6))]
                    (.req (.o2 .lei (.o1 .len (.o2 .app (.v 7) (.cons (.o1 .agg (.cons (.o2 .idx (.v 5) (.v 6)) (.cons (.o2 .eqi (.v 8) (.int 2)) (.cons (.int 0) .nil)))) .nil))) (.int 1099511627776)) (.back 1 [(.o2 (.add .i64) (.v 6) (.int 1)), (.o2 .app (.v 7) (.cons (.o1 .agg (.cons (.o2 .idx (.v 5) (.v 6)) (.cons (.o2 .eqi (.v 8) (.int 2)) (.cons (.int 0) .nil)))) .nil))])))))
                  (.ret (.o1 .agg (.cons (.v 7) (.cons (.int 0) .nil))))))))))))
  (.call 1 [(.v 0)]
    (.br (.o1 .no (.o2 .eqi (.o1 (.proj 1) (.v 2)) (.int 0)))
      (.ret (.o1 .agg (.cons .nil (.cons (.o1 (.proj 1) (.v 2)) .nil))))
      (.call 0 [(.o1 (.proj 0) (.v 2))]
        (.loop [(.int 0)]
          (.br (.o2 .lti (.v 4) (.o1 .len (.v 3)))
            (.req (.o2 .lei (.int 0) (.v 4)) (.req (.o2 .lti (.v 4) (.o1 .len (.v 3))) (.call 3 [(.o2 .idx (.v 3) (.v 4))]
              (.br (.o2 .lti (.v 5) (.int 0))
                (.br (.o2 .lei (.int 0) (.v 4))
                  (.ret (.o1 .agg (.cons .nil (.cons (.int 17) .nil))))
                  (.call 5 [(.v 3)]
                    (.loop [(.int 0), .nil]
                      (.br (.o2 .lti (.v 7) (.o1 .len (.v 6)))
                        (.req (.o2 .lei (.int 0) (.v 7)) (.req (.o2 .lti (.v 7) (.o1 .len (.v 6))) (.call 4 [(.o2 .idx (.v 6) (.v 7))]
                          (.req (.o2 .lei (.o1 .len (.o2 .app (.v 8) (.cons (.o1 .agg (.cons (.o2 .idx (.v 6) (.v 7)) (.cons (.o2 .eqi (.v 9) (.int 2)) (.cons (.int 0) .nil)))) .nil))) (.int 1099511627776)) (.back 1 [(.o2 (.add .i64) (.v 7) (.int 1)), (.o2 .app (.v 8) (.cons (.o1 .agg (.cons (.o2 .idx (.v 6) (.v 7)) (.cons (.o2 .eqi (.v 9) (.int 2)) (.cons (.int 0) .nil)))) .nil))])))))
                        (.ret (.o1 .agg (.cons (.v 8) (.cons (.int 0) .nil))))))))
                (.back 0 [(.o2 (.add .i64) (.v 4) (.int 1))])))))
            (.call 5 [(.v 3)]
              (.loop [(.int 0), .nil]
                (.br (.o2 .lti (.v 6) (.o1 .len (.v 5)))
                  (.req (.o2 .lei (.int 0) (.v 6)) (.req (.o2 .lti (.v 6) (.o1 .len (.v 5))) (.call 4 [(.o2 .idx (.v 5) (.v 6))]
                    (.req (.o2 .lei (.o1 .len (.o2 .app (.v 7) (.cons (.o1 .agg (.cons (.o2 .idx (.v 5) (.v 6)) (.cons (.o2 .eqi (.v 8) (.int 2)) (.cons (.int 0) .nil)))) .nil))) (.int 1099511627776)) (.back 1 [(.o2 (.add .i64) (.v 6) (.int 1)), (.o2 .app (.v 7) (.cons (.o1 .agg (.cons (.o2 .idx (.v 5) (.v 6)) (.cons (.o2 .eqi (.v 8) (.int 2)) (.cons (.int 0) .nil)))) .nil))])))))
                  (.ret (.o1 .agg (.cons (.v 7) (.cons (.int 0) .nil)))))))))))))
set_option maxRecDepth 100000 in
theorem ztm : za4 cx_brailleline_Glyphs 4 sg_brailleline_Glyphs Tryd.f22 (Tryd.f22.body.getD .skip) = tr_brailleline_Glyphs := by kernel_rfl
theorem ztj {Γ : CEnv} (hg : ∀ n, Γ.glob n = globT n) (hs : ∀ s ∈ cx_brailleline_Glyphs.sigs, Contract Tryd.prog Γ gtabU s (Γ.pre s.no) (Γ.post s.no)) : CxOk cx_brailleline_Glyphs Γ := ⟨by kernel_rfl, hs, (fun x hx => by
  simp only [cx_brailleline_Glyphs, List.mem_cons, List.not_mem_nil, or_false] at hx
  rcases hx with rfl | rfl | rfl
  · exact ⟨Tryd.func53, by kernel_rfl⟩
  · exact ⟨Tryd.func99, by kernel_rfl⟩
  · exact ⟨Tryd.func54, by kernel_rfl⟩), (fun x hx => by cases hx)⟩
theorem zn3 {Γ : CEnv} (hg : ∀ n, Γ.glob n = globT n) (hs : ∀ s ∈ cx_brailleline_Glyphs.sigs, Contract Tryd.prog Γ gtabU s (Γ.pre s.no) (Γ.post s.no)) (k : Nat) {pre : List TV → Prop} {post : List TV → TV → Prop} (h : ∀ ts, ts.length = 2 → pre ts → tr_brailleline_Glyphs.den Γ (post ts) ts []) : Contract Tryd.prog Γ gtabU (zd8 k) pre post :=
  Contract.renum (zas (ztj hg hs) 4 sg_brailleline_Glyphs Tryd.func22 (by kernel_rfl) (by kernel_rfl) fun ts hl hp => by rw [ztm]; exact h ts hl hp) k
def sg_ref15_Glyph : Sig := ⟨81, 0, [(true, [.str, .bool, (.int .i64)])], [(false, [((.int .i64), none)])]⟩
def zpw (k : Nat) : Sig := ⟨sg_ref15_Glyph.f, k, sg_ref15_Glyph.args, sg_ref15_Glyph.res⟩
def hd_ref15_Glyph : List (FuncId × Nat × Head) := []
def pl_ref15_Glyph : List (FuncId × Nat × Nat × Plan) := [(81, 3, 27, (.op true 0 (.op true 1 (.op true 2 (.op true 3 (.op false 4 (.op false 5 (.op false 6 (.op false 7 (.op true 8 (.op true 9 (.op true 10 (.op false 11 (.op false 12 (.op true 13 (.op true 14 (.op true 15 (.op false 16 (.op false 17 (.op true 18 (.op true 19 (.op true 20 (.op true 21 (.op true 22 (.op true 23 (.op true 24 (.op true 25 (.op false 26 .nil))))))))))))))))))))))))))))]
noncomputable def cx_ref15_Glyph : Cx := ⟨Tryd.prog, gtabU, [zhl 0, zhj 1], [], hd_ref15_Glyph, pl_ref15_Glyph, []⟩
def tr_ref15_Glyph : Tree := (.call 0 [(.o1 (.proj 0) (.v 0))]
  (.br (.o1 .no (.o2 .eqi (.v 1) (.int 0)))
    (.ret (.int 3))
    (.call 1 [(.o1 (.proj 0) (.v 0))]
      (.br (.o1 .no (.o2 .eqb (.o1 (.proj 1) (.v 0)) (.o2 .eqi (.v 2) (.int 2))))
        (.ret (.int 9))
        (.br (.o2 .lti (.o1 (.proj 2) (.v 0)) (.int 0))
          (.ret (.int 9))
          (.br (.o2 .lti (.int 3) (.o1 (.proj 2) (.v 0)))
            (.ret (.int 9))
            (.br (.o2 .eqi (.o1 (.proj 2) (.v 0)) (.int 3))
              (.br (.o1 .no (.o2 .eqs (.o1 (.proj 0) (.v 0)) (.str [42])))
                (.ret (.int 9))
                (.ret (.int 0)))
              (.ret (.int 0)))))))))
set_option maxRecDepth 100000 in
theorem z5x : za4 cx_ref15_Glyph 4 sg_ref15_Glyph Tryd.f81 (Tryd.f81.body.getD .skip) = tr_ref15_Glyph := by kernel_rfl
theorem z6i {Γ : CEnv} (hg : ∀ n, Γ.glob n = globT n) (hs : ∀ s ∈ cx_ref15_Glyph.sigs, Contract Tryd.prog Γ gtabU s (Γ.pre s.no) (Γ.post s.no)) : CxOk cx_ref15_Glyph Γ := ⟨by kernel_rfl, hs, (fun x hx => by cases hx), (fun x hx => by cases hx)⟩
theorem zxp {Γ : CEnv} (hg : ∀ n, Γ.glob n = globT n) (hs : ∀ s ∈ cx_ref15_Glyph.sigs, Contract Tryd.prog Γ gtabU s (Γ.pre s.no) (Γ.post s.no)) (k : Nat) {pre : List TV → Prop} {post : List TV → TV → Prop} (h : ∀ ts, ts.length = 1 → pre ts → tr_ref15_Glyph.den Γ (post ts) ts []) : Contract Tryd.prog Γ gtabU (zpw k) pre post :=
  Contract.renum (zas (z6i hg hs) 4 sg_ref15_Glyph Tryd.func81 (by kernel_rfl) (by kernel_rfl) fun ts hl hp => by rw [z5x]; exact h ts hl hp) k
end Go.Proofs.YtlhagkbhojmjpaaDoor


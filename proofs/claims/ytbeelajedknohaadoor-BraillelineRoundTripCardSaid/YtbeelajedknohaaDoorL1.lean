/- Written by a program of ours (Gen): the trees of the symbolic runs of functions, and their contracts' frames. -/
import Derived.Test.YtbeelajedknohaaDoorE1
import Derived.Test.YtbeelajedknohaaDoorB1
namespace Go.Proofs.YtbeelajedknohaaDoor
set_option linter.unusedVariables false
set_option linter.unusedSimpArgs false

def sg_brailleline_Glyphs : Sig := ⟨22, 0, [(false, [(.slice false [(.int .u8)])]), (true, [(.int .i64), .bool, .bool, (.int .i64), .bool, (.int .i64)])], [(false, [((.slice true [.str, .bool, (.int .i64)]), some 39)]), (false, [((.int .i64), none)])]⟩
def zd8 (k : Nat) : Sig := ⟨sg_brailleline_Glyphs.f, k, sg_brailleline_Glyphs.args, sg_brailleline_Glyphs.res⟩
def zvr : List (FuncId × Nat × Head) := [(22, 12, ⟨[10, 29, 30, 31], [.slot 29 true 9 false [.str], .slot 10 true 39 true [.str, .bool, (.int .i64)]], [31], [1], [], []⟩), (70, 2, ⟨[0, 1, 7, 8], [.blk 0, .blk 1], [8], [], [], []⟩)]
def zus : List (FuncId × Nat × Nat × Plan) := []
noncomputable def cx_brailleline_Glyphs : Cx := ⟨Tryd.prog, gtabU, [zbz 0, zce 1, ze6 2, zcc 3, zh6 4, zh0 5], [(38, Tryd.f38), (70, Tryd.f70), (39, Tryd.f39)], zvr, zus, []⟩
def tr_brailleline_Glyphs : Tree := (.br (.o1 (.proj 4) (.v 1))
  (.call 2 [(.v 0)]
    (.br (.o1 .no (.o2 .eqi (.o1 (.proj 1) (.v 2)) (.int 0)))
      (.ret (.o1 .agg (.cons .nil (.cons (.o1 (.proj 1) (.v 2)) .nil))))
      (.call 0 [(.o1 (.proj 0) (.v 2))]
        (.loop [(.int 0)]
          (.br (.o2 .lti (.v 4) (.o1 .len (.v 3)))
            (.req (.o2 .lei (.int 0) (.v 4)) (.req (.o2 .lti (.v 4) (.o1 .len (.v 3))) (.call 3 [(.o2 .idx (.v 3) (.v 4))]
              (.br (.o2 .lti (.v 5) (.int 0))
                (.br (.o2 .lei (.int 0) (.v 4))
                  (.ret (.o1 .agg (.cons .nil (.cons (.int 17) .nil))))
                  (.call 5 [(.v 3)]
                    (.loop [(.int 0), .nil]
                      (.br (.o2 .lti (.v 7) (.o1 .len (.v 6)))
                        (.req (.o2 .lei (.int 0) (.v 7)) (.req (.o2 .lti (.v 7) (.o1 .len (.v 6))) (.call 4 [(.o2 .idx (.v 6) (.v 7))]
                          (.req (.o2 .lei (.o1 .len (.o2 .app (.v 8) (.cons (.o1 .agg (.cons (.o2 .idx (.v 6) (.v 7)) (.cons (.o2 .eqi (.v 9) (.int 2)) (.cons (.int 0) .nil)))) .nil))) (.int 1099511627776)) (.back 1 [(.o2 (.add .i64) (.v 7) (.int 1)), (.o2 .app (.v 8) (.cons (.o1 .agg (.cons (.o2 .idx (.v 6) (.v 7)) (.cons (.o2 .eqi (.v 9) (.int 2)) (.cons (.int 0) .nil)))) .nil))])))))
                        (.ret (.o1 .agg (.cons (.v 8) (.cons (.int 0) .nil))))))))
                (.back 0 [(.o2 (.add .i64) (.v 4) (.int 1))])))))
            (.call 5 [(.v 3)]
              (.loop [(.int 0), .nil]
                (.br (.o2 .lti (.v 6) (.o1 .len (.v 5)))
                  (.req (.o2 .lei (.int 0) (.v 6)) (.req (.o2 .lti (.v 6) (.o1 .len (.v 5))) (.call 4 [(.o2 .idx (.v 5) (.v 6))]
                    (.req (.o2 .lei (.o1 .len (.o2 .app (.v 7) (.cons (.o1 .agg (.cons (.o2 .idx (.v 5) (.v 6)) (.cons (.o2 .eqi (.v 8) (.int 2)) (.cons (.int 0) .nil)))) .nil))) (.int 1099511627776)) (.back 1 [(.o2 (.add .i64) (.v 6) (.int 1)), (.o2 .app (.v 7) (.cons (.o1 .agg (.cons (.o2 .idx (.v 5) (.v 6)) (.cons (.o2 .eqi (.v 8) (.int 2)) (.cons (.int 0) .nil)))) .nil))])))))
                  (.ret (.o1 .agg (.cons (.v 7) (.cons (.int 0) .nil))))))))))))
  (.call 1 [(.v 0)]
    (.br (.o1 .no (.o2 .eqi (.o1 (.proj 1) (.v 2)) (.int 0)))
      (.ret (.o1 .agg (.cons .nil (.cons (.o1 (.proj 1) (.v 2)) .nil))))
      (.call 0 [(.o1 (.proj 0) (.v 2))]
        (.loop [(.int 0)]
          (.br (.o2 .lti (.v 4) (.o1 .len (.v 3)))
            (.req (.o2 .lei (.int 0) (.v 4)) (.req (.o2 .lti (.v 4) (.o1 .len (.v 3))) (.call 3 [(.o2 .idx (.v 3) (.v 4))]
              (.br (.o2 .lti (.v 5) (.int 0))
                (.br (.o2 .lei (.int 0) (.v 4))
                  (.ret (.o1 .agg (.cons .nil (.cons (.int 17) .nil))))
                  (.call 5 [(.v 3)]
                    (.loop [(.int 0), .nil]
                      (.br (.o2 .lti (.v 7) (.o1 .len (.v 6)))
                        (.req (.o2 .lei (.int 0) (.v 7)) (.req (.o2 .lti (.v 7) (.o1 .len (.v 6))) (.call 4 [(.o2 .idx (.v 6) (.v 7))]
                          (.req (.o2 .lei (.o1 .len (.o2 .app (.v 8) (.cons (.o1 .agg (.cons (.o2 .idx (.v 6) (.v 7)) (.cons (.o2 .eqi (.v 9) (.int 2)) (.cons (.int 0) .nil)))) .nil))) (.int 1099511627776)) (.back 1 [(.o2 (.add .i64) (.v 7) (.int 1)), (.o2 .app (.v 8) (.cons (.o1 .agg (.cons (.o2 .idx (.v 6) (.v 7)) (.cons (.o2 .eqi (.v 9) (.int 2)) (.cons (.int 0) .nil)))) .nil))])))))
                        (.ret (.o1 .agg (.cons (.v 8) (.cons (.int 0) .nil))))))))
                (.back 0 [(.o2 (.add .i64) (.v 4) (.int 1))])))))
            (.call 5 [(.v 3)]
              (.loop [(.int 0), .nil]
                (.br (.o2 .lti (.v 6) (.o1 .len (.v 5)))
                  (.req (.o2 .lei (.int 0) (.v 6)) (.req (.o2 .lti (.v 6) (.o1 .len (.v 5))) (.call 4 [(.o2 .idx (.v 5) (.v 6))]
                    (.req (.o2 .lei (.o1 .len (.o2 .app (.v 7) (.cons (.o1 .agg (.cons (.o2 .idx (.v 5) (.v 6)) (.cons (.o2 .eqi (.v 8) (.int 2)) (.cons (.int 0) .nil)))) .nil))) (.int 1099511627776)) (.back 1 [(.o2 (.add .i64) (.v 6) (.int 1)), (.o2 .app (.v 7) (.cons (.o1 .agg (.cons (.o2 .idx (.v 5) (.v 6)) (.cons (.o2 .eqi (.v 8) (.int 2)) (.cons (.int 0) .nil)))) .nil))])))))
                  (.ret (.o1 .agg (.cons (.v 7) (.cons (.int 0) .nil)))))))))))))
set_option maxRecDepth 100000 in
theorem ztm : za4 cx_brailleline_Glyphs 4 sg_brailleline_Glyphs Tryd.f22 (Tryd.f22.body.getD .skip) = tr_brailleline_Glyphs := by kernel_rfl
theorem ztj {Γ : CEnv} (hg : ∀ n, Γ.glob n = globT n) (hs : ∀ s ∈ cx_brailleline_Glyphs.sigs, Contract Tryd.prog Γ gtabU s (Γ.pre s.no) (Γ.post s.no)) : CxOk cx_brailleline_Glyphs Γ := ⟨by kernel_rfl, hs, (fun x hx => by
  simp only [cx_brailleline_Glyphs, List.mem_cons, List.not_mem_nil, or_false] at hx
  rcases hx with rfl | rfl | rfl
  · exact ⟨Tryd.func38, by kernel_rfl⟩
  · exact ⟨Tryd.func70, by kernel_rfl⟩
  · exact ⟨Tryd.func39, by kernel_rfl⟩), (fun x hx => by cases hx)⟩
theorem zn3 {Γ : CEnv} (hg : ∀ n, Γ.glob n = globT n) (hs : ∀ s ∈ cx_brailleline_Glyphs.sigs, Contract Tryd.prog Γ gtabU s (Γ.pre s.no) (Γ.post s.no)) (k : Nat) {pre : List TV → Prop} {post : List TV → TV → Prop} (h : ∀ ts, ts.length = 2 → pre ts → tr_brailleline_Glyphs.den Γ (post ts) ts []) : Contract Tryd.prog Γ gtabU (zd8 k) pre post :=
  Contract.renum (zas (ztj hg hs) 4 sg_brailleline_Glyphs Tryd.func22 (by kernel_rfl) (by kernel_rfl) fun ts hl hp => by rw [ztm]; exact h ts hl hp) k

def sg_ref53_Glyphs : Sig := ⟨23, 0, [(false, [(.slice false [(.int .u8)])]), (false, [.bool])], [(false, [((.slice true [.str, .bool, (.int .i64)]), some 39)]), (false, [((.int .i64), none)])]⟩
def znk (k : Nat) : Sig := ⟨sg_ref53_Glyphs.f, k, sg_ref53_Glyphs.args, sg_ref53_Glyphs.res⟩
def qaj : List (FuncId × Nat × Head) := [(23, 20, ⟨[13, 14, 15], [.slot 13 true 39 true [.str, .bool, (.int .i64)], .slot 14 true 9 false [.str]], [15], [0], [], []⟩), (23, 13, ⟨[11, 12], [.slot 11 true 21 false [(.int .i32)]], [12], [], [], []⟩)]
def z7l : List (FuncId × Nat × Nat × Plan) := [(23, 22, 13, (.op true 0 (.op true 1 (.op true 2 (.op true 3 (.op true 4 (.op true 5 (.op true 6 (.op true 7 (.op true 8 (.op false 9 (.op false 10 (.op false 11 (.op false 12 .nil))))))))))))))]
noncomputable def cx_ref53_Glyphs : Cx := ⟨Tryd.prog, gtabU, [zb4 0, zjb 1, zm1 2, zed 3, zhj 4, zkk 5], [], qaj, z7l, []⟩
def tr_ref53_Glyphs : Tree := (.br (.v 1)
  (.call 2 [(.v 0)]
    (.br (.o1 .no (.o2 .eqi (.o1 (.proj 1) (.v 2)) (.int 0)))
      (.ret (.o1 .agg (.cons .nil (.cons (.o1 (.proj 1) (.v 2)) .nil))))
      (.call 0 [(.o1 (.proj 0) (.v 2))]
        (.loop [(.int 0)]
          (.br (.o2 .lti (.v 4) (.o1 .len (.v 3)))
            (.req (.o2 .lei (.int 0) (.v 4)) (.req (.o2 .lti (.v 4) (.o1 .len (.v 3))) (.call 3 [(.o2 .idx (.v 3) (.v 4))]
              (.br (.o2 .lti (.v 5) (.int 0))
                (.ret (.o1 .agg (.cons .nil (.cons (.int 17) .nil))))
                (.back 0 [(.o2 (.add .i64) (.v 4) (.int 1))])))))
            (.call 5 [(.v 3)]
              (.loop [(.int 0), .nil]
                (.br (.o2 .lti (.v 6) (.o1 .len (.v 5)))
                  (.req (.o2 .lei (.int 0) (.v 6)) (.req (.o2 .lti (.v 6) (.o1 .len (.v 5))) (.req (.o2 .lei (.int 0) (.v 6)) (.req (.o2 .lti (.v 6) (.o1 .len (.v 5))) (.call 4 [(.o2 .idx (.v 5) (.v 6))]
                    (.req (.o2 .lei (.o1 .len (.o2 .app (.v 7) (.cons (.o1 .agg (.cons (.o2 .idx (.v 5) (.v 6)) (.cons (.o2 .eqi (.v 8) (.int 2)) (.cons (.int 0) .nil)))) .nil))) (.int 1099511627776)) (.back 1 [(.o2 (.add .i64) (.v 6) (.int 1)), (.o2 .app (.v 7) (.cons (.o1 .agg (.cons (.o2 .idx (.v 5) (.v 6)) (.cons (.o2 .eqi (.v 8) (.int 2)) (.cons (.int 0) .nil)))) .nil))])))))))
                  (.ret (.o1 .agg (.cons (.v 7) (.cons (.int 0) .nil))))))))))))
  (.call 1 [(.v 0)]
    (.br (.o1 .no (.o2 .eqi (.o1 (.proj 1) (.v 2)) (.int 0)))
      (.ret (.o1 .agg (.cons .nil (.cons (.o1 (.proj 1) (.v 2)) .nil))))
      (.call 0 [(.o1 (.proj 0) (.v 2))]
        (.loop [(.int 0)]
          (.br (.o2 .lti (.v 4) (.o1 .len (.v 3)))
            (.req (.o2 .lei (.int 0) (.v 4)) (.req (.o2 .lti (.v 4) (.o1 .len (.v 3))) (.call 3 [(.o2 .idx (.v 3) (.v 4))]
              (.br (.o2 .lti (.v 5) (.int 0))
                (.ret (.o1 .agg (.cons .nil (.cons (.int 17) .nil))))
                (.back 0 [(.o2 (.add .i64) (.v 4) (.int 1))])))))
            (.call 5 [(.v 3)]
              (.loop [(.int 0), .nil]
                (.br (.o2 .lti (.v 6) (.o1 .len (.v 5)))
                  (.req (.o2 .lei (.int 0) (.v 6)) (.req (.o2 .lti (.v 6) (.o1 .len (.v 5))) (.req (.o2 .lei (.int 0) (.v 6)) (.req (.o2 .lti (.v 6) (.o1 .len (.v 5))) (.call 4 [(.o2 .idx (.v 5) (.v 6))]
                    (.req (.o2 .lei (.o1 .len (.o2 .app (.v 7) (.cons (.o1 .agg (.cons (.o2 .idx (.v 5) (.v 6)) (.cons (.o2 .eqi (.v 8) (.int 2)) (.cons (.int 0) .nil)))) .nil))) (.int 1099511627776)) (.back 1 [(.o2 (.add .i64) (.v 6) (.int 1)), (.o2 .app (.v 7) (.cons (.o1 .agg (.cons (.o2 .idx (.v 5) (.v 6)) (.cons (.o2 .eqi (.v 8) (.int 2)) (.cons (.int 0) .nil)))) .nil))])))))))
                  (.ret (.o1 .agg (.cons (.v 7) (.cons (.int 0) .nil)))))))))))))
set_option maxRecDepth 100000 in
theorem z4h : za4 cx_ref53_Glyphs 4 sg_ref53_Glyphs Tryd.f23 (Tryd.f23.body.getD .skip) = tr_ref53_Glyphs := by kernel_rfl
theorem z3y {Γ : CEnv} (hg : ∀ n, Γ.glob n = globT n) (hs : ∀ s ∈ cx_ref53_Glyphs.sigs, Contract Tryd.prog Γ gtabU s (Γ.pre s.no) (Γ.post s.no)) : CxOk cx_ref53_Glyphs Γ := ⟨by kernel_rfl, hs, (fun x hx => by cases hx), (fun x hx => by cases hx)⟩
theorem zwy {Γ : CEnv} (hg : ∀ n, Γ.glob n = globT n) (hs : ∀ s ∈ cx_ref53_Glyphs.sigs, Contract Tryd.prog Γ gtabU s (Γ.pre s.no) (Γ.post s.no)) (k : Nat) {pre : List TV → Prop} {post : List TV → TV → Prop} (h : ∀ ts, ts.length = 2 → pre ts → tr_ref53_Glyphs.den Γ (post ts) ts []) : Contract Tryd.prog Γ gtabU (znk k) pre post :=
  Contract.renum (zas (z3y hg hs) 4 sg_ref53_Glyphs Tryd.func23 (by kernel_rfl) (by kernel_rfl) fun ts hl hp => by rw [z4h]; exact h ts hl hp) k

def sg_ref15_Glyph : Sig := ⟨25, 0, [(true, [.str, .bool, (.int .i64)])], [(false, [((.int .i64), none)])]⟩
def zpw (k : Nat) : Sig := ⟨sg_ref15_Glyph.f, k, sg_ref15_Glyph.args, sg_ref15_Glyph.res⟩
def hd_ref15_Glyph : List (FuncId × Nat × Head) := []
def pl_ref15_Glyph : List (FuncId × Nat × Nat × Plan) := [(25, 3, 27, (.op true 0 (.op true 1 (.op true 2 (.op true 3 (.op false 4 (.op false 5 (.op false 6 (.op false 7 (.op true 8 (.op true 9 (.op true 10 (.op false 11 (.op false 12 (.op true 13 (.op true 14 (.op true 15 (.op false 16 (.op false 17 (.op true 18 (.op true 19 (.op true 20 (.op true 21 (.op true 22 (.op true 23 (.op true 24 (.op true 25 (.op false 26 .nil))))))))))))))))))))))))))))]
noncomputable def cx_ref15_Glyph : Cx := ⟨Tryd.prog, gtabU, [zhl 0, zhj 1], [], hd_ref15_Glyph, pl_ref15_Glyph, []⟩
def tr_ref15_Glyph : Tree := (.call 0 [(.o1 (.proj 0) (.v 0))]
  (.br (.o1 .no (.o2 .eqi (.v 1) (.int 0)))
    (.ret (.int 3))
    (.call 1 [(.o1 (.proj 0) (.v 0))]
      (.br (.o1 .no (.o2 .eqb (.o1 (.proj 1) (.v 0)) (.o2 .eqi (.v 2) (.int 2))))
        (.ret (.int 9))
        (.br (.o2 .lti (.o1 (.proj 2) (.v 0)) (.int 0))
          (.ret (.int 9))
          (.br (.o2 .lti (.int 3) (.o1 (.proj 2) (.v 0)))
            (.ret (.int 9))
            (.br (.o2 .eqi (.o1 (.proj 2) (.v 0)) (.int 3))
              (.br (.o1 .no (.o2 .eqs (.o1 (.proj 0) (.v 0)) (.str [42])))
                (.ret (.int 9))
                (.ret (.int 0)))
              (.ret (.int 0)))))))))
set_option maxRecDepth 100000 in
theorem z5x : za4 cx_ref15_Glyph 4 sg_ref15_Glyph Tryd.f25 (Tryd.f25.body.getD .skip) = tr_ref15_Glyph := by kernel_rfl
theorem z6i {Γ : CEnv} (hg : ∀ n, Γ.glob n = globT n) (hs : ∀ s ∈ cx_ref15_Glyph.sigs, Contract Tryd.prog Γ gtabU s (Γ.pre s.no) (Γ.post s.no)) : CxOk cx_ref15_Glyph Γ := ⟨by kernel_rfl, hs, (fun x hx => by cases hx), (fun x hx => by cases hx)⟩
theorem zxp {Γ : CEnv} (hg : ∀ n, Γ.glob n = globT n) (hs : ∀ s ∈ cx_ref15_Glyph.sigs, Contract Tryd.prog Γ gtabU s (Γ.pre s.no) (Γ.post s.no)) (k : Nat) {pre : List TV → Prop} {post : List TV → TV → Prop} (h : ∀ ts, ts.length = 1 → pre ts → tr_ref15_Glyph.den Γ (post ts) ts []) : Contract Tryd.prog Γ gtabU (zpw k) pre post :=
  Contract.renum (zas (z6i hg hs) 4 sg_ref15_Glyph Tryd.func25 (by kernel_rfl) (by kernel_rfl) fun ts hl hp => by rw [z5x]; exact h ts hl hp) k

def sg_ref15_SameRow : Sig := ⟨24, 0, [(false, [(.slice true [.str, .bool, (.int .i64)])]), (false, [(.slice true [.str, .bool, (.int .i64)])])], [(false, [(.bool, none)])]⟩
def zh1 (k : Nat) : Sig := ⟨sg_ref15_SameRow.f, k, sg_ref15_SameRow.args, sg_ref15_SameRow.res⟩
def z6c : List (FuncId × Nat × Head) := [(24, 4, ⟨[0, 1, 5], [], [5], [], [], []⟩)]
def z6a : List (FuncId × Nat × Nat × Plan) := [(24, 6, 9, (.op true 0 (.op true 1 (.op true 2 (.op true 3 (.op true 4 (.op true 5 (.op true 6 (.op true 7 (.op true 8 .nil))))))))))]
noncomputable def cx_ref15_SameRow : Cx := ⟨Tryd.prog, gtabU, [], [], z6c, z6a, []⟩
def tr_ref15_SameRow : Tree := (.br (.o1 .no (.o2 .eqi (.o1 .len (.v 0)) (.o1 .len (.v 1))))
  (.ret (.bool false))
  (.loop [(.int 0)]
    (.br (.o2 .lti (.v 2) (.o1 .len (.v 0)))
      (.req (.o2 .lei (.int 0) (.v 2)) (.req (.o2 .lti (.v 2) (.o1 .len (.v 0))) (.req (.o2 .lei (.int 0) (.v 2)) (.req (.o2 .lti (.v 2) (.o1 .len (.v 1))) (.br (.o1 .no (.o3 .ite (.o2 .eqs (.o1 (.proj 0) (.o2 .idx (.v 0) (.v 2))) (.o1 (.proj 0) (.o2 .idx (.v 1) (.v 2)))) (.o3 .ite (.o2 .eqb (.o1 (.proj 1) (.o2 .idx (.v 0) (.v 2))) (.o1 (.proj 1) (.o2 .idx (.v 1) (.v 2)))) (.o3 .ite (.o2 .eqi (.o1 (.proj 2) (.o2 .idx (.v 0) (.v 2))) (.o1 (.proj 2) (.o2 .idx (.v 1) (.v 2)))) (.bool true) (.bool false)) (.bool false)) (.bool false)))
        (.ret (.bool false))
        (.back 0 [(.o2 (.add .i64) (.v 2) (.int 1))]))))))
      (.ret (.bool true)))))
set_option maxRecDepth 100000 in
theorem z0x : za4 cx_ref15_SameRow 4 sg_ref15_SameRow Tryd.f24 (Tryd.f24.body.getD .skip) = tr_ref15_SameRow := by kernel_rfl
theorem z1l {Γ : CEnv} (hg : ∀ n, Γ.glob n = globT n) (hs : ∀ s ∈ cx_ref15_SameRow.sigs, Contract Tryd.prog Γ gtabU s (Γ.pre s.no) (Γ.post s.no)) : CxOk cx_ref15_SameRow Γ := ⟨by kernel_rfl, hs, (fun x hx => by cases hx), (fun x hx => by cases hx)⟩
theorem zua {Γ : CEnv} (hg : ∀ n, Γ.glob n = globT n) (hs : ∀ s ∈ cx_ref15_SameRow.sigs, Contract Tryd.prog Γ gtabU s (Γ.pre s.no) (Γ.post s.no)) (k : Nat) {pre : List TV → Prop} {post : List TV → TV → Prop} (h : ∀ ts, ts.length = 2 → pre ts → tr_ref15_SameRow.den Γ (post ts) ts []) : Contract Tryd.prog Γ gtabU (zh1 k) pre post :=
  Contract.renum (zas (z1l hg hs) 4 sg_ref15_SameRow Tryd.func24 (by kernel_rfl) (by kernel_rfl) fun ts hl hp => by rw [z0x]; exact h ts hl hp) k

def sg_law53_fine : Sig := ⟨16, 0, [(false, [(.slice true [.str, .bool, (.int .i64)])])], [(false, [(.bool, none)])]⟩
def zd5 (k : Nat) : Sig := ⟨sg_law53_fine.f, k, sg_law53_fine.args, sg_law53_fine.res⟩
def hd_law53_fine : List (FuncId × Nat × Head) := [(16, 4, ⟨[8, 9, 10], [], [10], [], [], []⟩)]
def pl_law53_fine : List (FuncId × Nat × Nat × Plan) := []
noncomputable def cx_law53_fine : Cx := ⟨Tryd.prog, gtabU, [zcr 0], [], hd_law53_fine, pl_law53_fine, []⟩
def tr_law53_fine : Tree := (.br (.o2 .lti (.int 30) (.o1 .len (.v 0)))
  (.ret (.bool false))
  (.loop [(.int 0)]
    (.br (.o2 .lti (.v 1) (.o1 .len (.v 0)))
      (.req (.o2 .lei (.int 0) (.v 1)) (.req (.o2 .lti (.v 1) (.o1 .len (.v 0))) (.br (.o2 .lti (.int 20) (.o1 .slen (.o1 (.proj 0) (.o2 .idx (.v 0) (.v 1)))))
        (.ret (.bool false))
        (.call 0 [(.o1 (.proj 0) (.o2 .idx (.v 0) (.v 1)))]
          (.br (.o1 .no (.v 2))
            (.ret (.bool false))
            (.back 0 [(.o2 (.add .i64) (.v 1) (.int 1))]))))))
      (.ret (.bool true)))))
set_option maxRecDepth 100000 in
theorem z7f : za4 cx_law53_fine 4 sg_law53_fine Tryd.f16 (Tryd.f16.body.getD .skip) = tr_law53_fine := by kernel_rfl
theorem qae {Γ : CEnv} (hg : ∀ n, Γ.glob n = globT n) (hs : ∀ s ∈ cx_law53_fine.sigs, Contract Tryd.prog Γ gtabU s (Γ.pre s.no) (Γ.post s.no)) : CxOk cx_law53_fine Γ := ⟨by kernel_rfl, hs, (fun x hx => by cases hx), (fun x hx => by cases hx)⟩
theorem zyj {Γ : CEnv} (hg : ∀ n, Γ.glob n = globT n) (hs : ∀ s ∈ cx_law53_fine.sigs, Contract Tryd.prog Γ gtabU s (Γ.pre s.no) (Γ.post s.no)) (k : Nat) {pre : List TV → Prop} {post : List TV → TV → Prop} (h : ∀ ts, ts.length = 1 → pre ts → tr_law53_fine.den Γ (post ts) ts []) : Contract Tryd.prog Γ gtabU (zd5 k) pre post :=
  Contract.renum (zas (qae hg hs) 4 sg_law53_fine Tryd.func16 (by kernel_rfl) (by kernel_rfl) fun ts hl hp => by rw [z7f]; exact h ts hl hp) k

def sg_law53_BraillelineOf : Sig := ⟨4, 0, [(false, [(.slice true [.str, .bool, (.int .i64)])]), (false, [.bool])], [(false, [(.bool, none)])]⟩
def zjs (k : Nat) : Sig := ⟨sg_law53_BraillelineOf.f, k, sg_law53_BraillelineOf.args, sg_law53_BraillelineOf.res⟩
def zt7 : List (FuncId × Nat × Head) := []
def zt3 : List (FuncId × Nat × Nat × Plan) := []
noncomputable def cx_law53_BraillelineOf : Cx := ⟨Tryd.prog, gtabU, [zbs 0, zsf 1, zgo 2, zbr 3, zb2 4, zd5 5], [], zt7, zt3, []⟩
def tr_law53_BraillelineOf : Tree := (.call 5 [(.v 0)]
  (.br (.o1 .no (.v 2))
    (.call 4 []
      (.br (.v 3)
        (.ret (.bool true))
        (.call 5 [(.v 0)]
          (.br (.v 4)
            (.call 3 [(.v 1)]
              (.call 0 [(.v 0), (.o1 .agg (.cons (.o1 (.proj 0) (.v 5)) (.cons (.o1 (.proj 1) (.v 5)) (.cons (.o1 (.proj 2) (.v 5)) (.cons (.o1 (.proj 3) (.v 5)) (.cons (.o1 (.proj 4) (.v 5)) (.cons (.o1 (.proj 5) (.v 5)) .nil)))))))]
                (.call 1 [(.v 0), (.v 1)]
                  (.call 2 [(.o1 .agg (.cons (.o1 (.proj 0) (.v 6)) (.cons (.o1 (.proj 1) (.v 6)) .nil))), (.o1 .agg (.cons (.o1 (.proj 0) (.v 7)) (.cons (.o1 (.proj 1) (.v 7)) .nil)))]
                    (.br (.v 8)
                      (.call 4 []
                        (.ret (.v 9)))
                      (.ret (.bool false)))))))
            (.ret (.bool false))))))
    (.call 5 [(.v 0)]
      (.br (.v 3)
        (.call 3 [(.v 1)]
          (.call 0 [(.v 0), (.o1 .agg (.cons (.o1 (.proj 0) (.v 4)) (.cons (.o1 (.proj 1) (.v 4)) (.cons (.o1 (.proj 2) (.v 4)) (.cons (.o1 (.proj 3) (.v 4)) (.cons (.o1 (.proj 4) (.v 4)) (.cons (.o1 (.proj 5) (.v 4)) .nil)))))))]
            (.call 1 [(.v 0), (.v 1)]
              (.call 2 [(.o1 .agg (.cons (.o1 (.proj 0) (.v 5)) (.cons (.o1 (.proj 1) (.v 5)) .nil))), (.o1 .agg (.cons (.o1 (.proj 0) (.v 6)) (.cons (.o1 (.proj 1) (.v 6)) .nil)))]
                (.br (.v 7)
                  (.call 4 []
                    (.ret (.v 8)))
                  (.ret (.bool false)))))))
        (.ret (.bool false))))))
set_option maxRecDepth 100000 in
theorem zqf : za4 cx_law53_BraillelineOf 4 sg_law53_BraillelineOf Tryd.f4 (Tryd.f4.body.getD .skip) = tr_law53_BraillelineOf := by kernel_rfl
theorem zr1 {Γ : CEnv} (hg : ∀ n, Γ.glob n = globT n) (hs : ∀ s ∈ cx_law53_BraillelineOf.sigs, Contract Tryd.prog Γ gtabU s (Γ.pre s.no) (Γ.post s.no)) : CxOk cx_law53_BraillelineOf Γ := ⟨by kernel_rfl, hs, (fun x hx => by cases hx), (fun x hx => by cases hx)⟩
theorem zmh {Γ : CEnv} (hg : ∀ n, Γ.glob n = globT n) (hs : ∀ s ∈ cx_law53_BraillelineOf.sigs, Contract Tryd.prog Γ gtabU s (Γ.pre s.no) (Γ.post s.no)) (k : Nat) {pre : List TV → Prop} {post : List TV → TV → Prop} (h : ∀ ts, ts.length = 2 → pre ts → tr_law53_BraillelineOf.den Γ (post ts) ts []) : Contract Tryd.prog Γ gtabU (zjs k) pre post :=
  Contract.renum (zas (zr1 hg hs) 4 sg_law53_BraillelineOf Tryd.func4 (by kernel_rfl) (by kernel_rfl) fun ts hl hp => by rw [zqf]; exact h ts hl hp) k

def sg_law53_BraillelinePositions : Sig := ⟨5, 0, [(false, [(.slice true [.str, .bool, (.int .i64)])]), (false, [.bool])], [(false, [(.bool, none)])]⟩
def zfh (k : Nat) : Sig := ⟨sg_law53_BraillelinePositions.f, k, sg_law53_BraillelinePositions.args, sg_law53_BraillelinePositions.res⟩
def zlr : List (FuncId × Nat × Head) := [(5, 7, ⟨[0, 5, 39, 40], [.slot 5 true 25 false [], .cell 5 0 true 5 false [(.int .u8)], .cell 5 1 true 3 false [(.int .i64)]], [40], [], [], []⟩)]
def zlp : List (FuncId × Nat × Nat × Plan) := []
noncomputable def cx_law53_BraillelinePositions : Cx := ⟨Tryd.prog, gtabU, [zbs 0, zb5 1, zby 2, zbr 3, zb2 4, zd5 5], [], zlr, zlp, []⟩
def tr_law53_BraillelinePositions : Tree := (.call 5 [(.v 0)]
  (.br (.o1 .no (.v 2))
    (.call 4 []
      (.ret (.v 3)))
    (.call 3 [(.v 1)]
      (.call 0 [(.v 0), (.o1 .agg (.cons (.o1 (.proj 0) (.v 3)) (.cons (.o1 (.proj 1) (.v 3)) (.cons (.o1 (.proj 2) (.v 3)) (.cons (.o1 (.proj 3) (.v 3)) (.cons (.o1 (.proj 4) (.v 3)) (.cons (.o1 (.proj 5) (.v 3)) .nil)))))))]
        (.br (.o1 .no (.o2 .eqi (.o1 .len (.o1 (.proj 1) (.v 4))) (.o2 (.add .i64) (.o1 .len (.o1 (.proj 0) (.v 4))) (.int 1))))
          (.ret (.bool false))
          (.req (.o2 .lei (.int 0) (.o1 .len (.o1 (.proj 0) (.v 4)))) (.req (.o2 .lti (.o1 .len (.o1 (.proj 0) (.v 4))) (.o1 .len (.o1 (.proj 1) (.v 4)))) (.br (.o1 .no (.o2 .eqi (.o2 .idx (.o1 (.proj 1) (.v 4)) (.o1 .len (.o1 (.proj 0) (.v 4)))) (.o1 .len (.v 0))))
            (.ret (.bool false))
            (.loop [(.int 0)]
              (.br (.o2 .lti (.v 5) (.o1 .len (.o1 (.proj 0) (.v 4))))
                (.call 2 [(.o1 .agg (.cons (.o1 (.proj 0) (.v 4)) (.cons (.o1 (.proj 1) (.v 4)) .nil))), (.v 5)]
                  (.call 1 [(.o1 .agg (.cons (.o1 (.proj 0) (.v 4)) (.cons (.o1 (.proj 1) (.v 4)) .nil))), (.v 6)]
                    (.req (.o2 .lei (.int 0) (.v 5)) (.req (.o2 .lti (.v 5) (.o1 .len (.o1 (.proj 1) (.v 4)))) (.br (.o1 .no (.o2 .eqi (.v 6) (.o2 .idx (.o1 (.proj 1) (.v 4)) (.v 5))))
                      (.ret (.bool false))
                      (.br (.o2 .lti (.v 6) (.int 0))
                        (.ret (.bool false))
                        (.br (.o2 .lei (.o1 .len (.v 0)) (.v 6))
                          (.ret (.bool false))
                          (.req (.o2 .lei (.int 0) (.o2 (.add .i64) (.v 5) (.int 1))) (.req (.o2 .lti (.o2 (.add .i64) (.v 5) (.int 1)) (.o1 .len (.o1 (.proj 1) (.v 4)))) (.br (.o2 .lti (.o2 .idx (.o1 (.proj 1) (.v 4)) (.o2 (.add .i64) (.v 5) (.int 1))) (.v 6))
                            (.ret (.bool false))
                            (.br (.o2 .lti (.v 7) (.int 0))
                              (.ret (.bool false))
                              (.br (.o2 .lti (.v 5) (.v 7))
                                (.ret (.bool false))
                                (.req (.o2 .lei (.int 0) (.v 7)) (.req (.o2 .lti (.v 7) (.o1 .len (.o1 (.proj 1) (.v 4)))) (.br (.o1 .no (.o2 .eqi (.o2 .idx (.o1 (.proj 1) (.v 4)) (.v 7)) (.v 6)))
                                  (.ret (.bool false))
                                  (.br (.o2 .lti (.int 0) (.v 7))
                                    (.req (.o2 .lei (.int 0) (.o2 (.sub .i64) (.v 7) (.int 1))) (.req (.o2 .lti (.o2 (.sub .i64) (.v 7) (.int 1)) (.o1 .len (.o1 (.proj 1) (.v 4)))) (.br (.o2 .eqi (.o2 .idx (.o1 (.proj 1) (.v 4)) (.o2 (.sub .i64) (.v 7) (.int 1))) (.v 6))
                                      (.ret (.bool false))
                                      (.back 0 [(.o2 (.add .i64) (.v 5) (.int 1))]))))
                                    (.back 0 [(.o2 (.add .i64) (.v 5) (.int 1))])))))))))))))))))
                (.call 4 []
                  (.ret (.v 6)))))))))))))
set_option maxRecDepth 100000 in
theorem zj0 : za4 cx_law53_BraillelinePositions 4 sg_law53_BraillelinePositions Tryd.f5 (Tryd.f5.body.getD .skip) = tr_law53_BraillelinePositions := by kernel_rfl
theorem zkf {Γ : CEnv} (hg : ∀ n, Γ.glob n = globT n) (hs : ∀ s ∈ cx_law53_BraillelinePositions.sigs, Contract Tryd.prog Γ gtabU s (Γ.pre s.no) (Γ.post s.no)) : CxOk cx_law53_BraillelinePositions Γ := ⟨by kernel_rfl, hs, (fun x hx => by cases hx), (fun x hx => by cases hx)⟩
theorem zh9 {Γ : CEnv} (hg : ∀ n, Γ.glob n = globT n) (hs : ∀ s ∈ cx_law53_BraillelinePositions.sigs, Contract Tryd.prog Γ gtabU s (Γ.pre s.no) (Γ.post s.no)) (k : Nat) {pre : List TV → Prop} {post : List TV → TV → Prop} (h : ∀ ts, ts.length = 2 → pre ts → tr_law53_BraillelinePositions.den Γ (post ts) ts []) : Contract Tryd.prog Γ gtabU (zfh k) pre post :=
  Contract.renum (zas (zkf hg hs) 4 sg_law53_BraillelinePositions Tryd.func5 (by kernel_rfl) (by kernel_rfl) fun ts hl hp => by rw [zj0]; exact h ts hl hp) k

def sg_law53_BraillelineStyles : Sig := ⟨6, 0, [(false, [(.slice true [.str, .bool, (.int .i64)])]), (false, [(.slice false [(.int .u8)])]), (false, [.bool])], [(false, [(.bool, none)])]⟩
def zg4 (k : Nat) : Sig := ⟨sg_law53_BraillelineStyles.f, k, sg_law53_BraillelineStyles.args, sg_law53_BraillelineStyles.res⟩
def zo4 : List (FuncId × Nat × Head) := [(6, 5, ⟨[0, 1, 2, 7, 22, 23, 24], [.slot 7 true 39 true [.str, .bool, (.int .i64)]], [24], [0], [], []⟩)]
def zoz : List (FuncId × Nat × Nat × Plan) := [(6, 12, 11, (.op true 0 (.op true 1 (.op true 3 (.op true 4 (.op false 2 (.op false 5 (.op false 6 (.op false 7 (.op false 8 (.op false 9 (.op false 10 .nil))))))))))))]
noncomputable def cx_law53_BraillelineStyles : Cx := ⟨Tryd.prog, gtabU, [zbs 0, zgo 1, zbr 2, zb2 3, zd5 4], [], zo4, zoz, []⟩
def tr_law53_BraillelineStyles : Tree := (.call 4 [(.v 0)]
  (.br (.o1 .no (.v 3))
    (.call 3 []
      (.ret (.v 4)))
    (.br (.o2 .eqi (.o1 .len (.v 1)) (.int 0))
      (.call 3 []
        (.ret (.v 4)))
      (.loop [(.int 0), .nil]
        (.br (.o2 .lti (.v 4) (.o1 .len (.v 0)))
          (.req (.o2 .lei (.int 0) (.v 4)) (.req (.o2 .lti (.v 4) (.o1 .len (.v 0))) (.req (.o1 .no (.o2 .eqi (.o1 .len (.v 1)) (.int 0))) (.req (.o2 .lei (.int 0) (.o2 .rem (.v 4) (.o1 .len (.v 1)))) (.req (.o2 .lti (.o2 .rem (.v 4) (.o1 .len (.v 1))) (.o1 .len (.v 1))) (.req (.o2 .lei (.o1 .len (.o2 .app (.v 5) (.cons (.o1 .agg (.cons (.o1 (.proj 0) (.o2 .idx (.v 0) (.v 4))) (.cons (.o2 .lti (.int 3) (.o2 .rem (.o2 .idx (.v 1) (.o2 .rem (.v 4) (.o1 .len (.v 1)))) (.int 8))) (.cons (.o1 (.wrap .i64) (.o2 .rem (.o2 .idx (.v 1) (.o2 .rem (.v 4) (.o1 .len (.v 1)))) (.int 4))) .nil)))) .nil))) (.int 1099511627776)) (.back 0 [(.o2 (.add .i64) (.v 4) (.int 1)), (.o2 .app (.v 5) (.cons (.o1 .agg (.cons (.o1 (.proj 0) (.o2 .idx (.v 0) (.v 4))) (.cons (.o2 .lti (.int 3) (.o2 .rem (.o2 .idx (.v 1) (.o2 .rem (.v 4) (.o1 .len (.v 1)))) (.int 8))) (.cons (.o1 (.wrap .i64) (.o2 .rem (.o2 .idx (.v 1) (.o2 .rem (.v 4) (.o1 .len (.v 1)))) (.int 4))) .nil)))) .nil))])))))))
          (.call 2 [(.v 2)]
            (.call 0 [(.v 0), (.o1 .agg (.cons (.o1 (.proj 0) (.v 6)) (.cons (.o1 (.proj 1) (.v 6)) (.cons (.o1 (.proj 2) (.v 6)) (.cons (.o1 (.proj 3) (.v 6)) (.cons (.o1 (.proj 4) (.v 6)) (.cons (.o1 (.proj 5) (.v 6)) .nil)))))))]
              (.call 0 [(.v 5), (.o1 .agg (.cons (.o1 (.proj 0) (.v 6)) (.cons (.o1 (.proj 1) (.v 6)) (.cons (.o1 (.proj 2) (.v 6)) (.cons (.o1 (.proj 3) (.v 6)) (.cons (.o1 (.proj 4) (.v 6)) (.cons (.o1 (.proj 5) (.v 6)) .nil)))))))]
                (.call 1 [(.o1 .agg (.cons (.o1 (.proj 0) (.v 7)) (.cons (.o1 (.proj 1) (.v 7)) .nil))), (.o1 .agg (.cons (.o1 (.proj 0) (.v 8)) (.cons (.o1 (.proj 1) (.v 8)) .nil)))]
                  (.br (.v 9)
                    (.call 3 []
                      (.ret (.v 10)))
                    (.ret (.bool false))))))))))))
set_option maxRecDepth 100000 in
theorem zmc : za4 cx_law53_BraillelineStyles 4 sg_law53_BraillelineStyles Tryd.f6 (Tryd.f6.body.getD .skip) = tr_law53_BraillelineStyles := by kernel_rfl
theorem zmd {Γ : CEnv} (hg : ∀ n, Γ.glob n = globT n) (hs : ∀ s ∈ cx_law53_BraillelineStyles.sigs, Contract Tryd.prog Γ gtabU s (Γ.pre s.no) (Γ.post s.no)) : CxOk cx_law53_BraillelineStyles Γ := ⟨by kernel_rfl, hs, (fun x hx => by cases hx), (fun x hx => by cases hx)⟩
theorem zjo {Γ : CEnv} (hg : ∀ n, Γ.glob n = globT n) (hs : ∀ s ∈ cx_law53_BraillelineStyles.sigs, Contract Tryd.prog Γ gtabU s (Γ.pre s.no) (Γ.post s.no)) (k : Nat) {pre : List TV → Prop} {post : List TV → TV → Prop} (h : ∀ ts, ts.length = 3 → pre ts → tr_law53_BraillelineStyles.den Γ (post ts) ts []) : Contract Tryd.prog Γ gtabU (zg4 k) pre post :=
  Contract.renum (zas (zmd hg hs) 4 sg_law53_BraillelineStyles Tryd.func6 (by kernel_rfl) (by kernel_rfl) fun ts hl hp => by rw [zmc]; exact h ts hl hp) k

def sg_law53_BraillelineParts : Sig := ⟨7, 0, [(false, [(.slice true [.str, .bool, (.int .i64)])]), (false, [(.slice true [.str, .bool, (.int .i64)])])], [(false, [(.bool, none)])]⟩
def zhh (k : Nat) : Sig := ⟨sg_law53_BraillelineParts.f, k, sg_law53_BraillelineParts.args, sg_law53_BraillelineParts.res⟩
def zp4 : List (FuncId × Nat × Head) := []
def zpu : List (FuncId × Nat × Nat × Plan) := [(7, 6, 9999, .nil)]
noncomputable def cx_law53_BraillelineParts : Cx := ⟨Tryd.prog, gtabU, [zi2 0, zbs 1, zbr 2, zb2 3, zd5 4], [], zp4, zpu, []⟩
def tr_law53_BraillelineParts : Tree := (.call 4 [(.v 0)]
  (.br (.o1 .no (.v 2))
    (.call 3 []
      (.ret (.v 3)))
    (.call 4 [(.v 1)]
      (.br (.o1 .no (.v 3))
        (.call 3 []
          (.ret (.v 4)))
        (.req (.o2 .lei (.o1 .len (.o2 .app .nil (.v 0))) (.int 1099511627776)) (.req (.o2 .lei (.o1 .len (.o2 .app (.o2 .app .nil (.v 0)) (.v 1))) (.int 1099511627776)) (.call 2 [(.bool false)]
          (.call 1 [(.v 0), (.o1 .agg (.cons (.o1 (.proj 0) (.v 4)) (.cons (.o1 (.proj 1) (.v 4)) (.cons (.o1 (.proj 2) (.v 4)) (.cons (.o1 (.proj 3) (.v 4)) (.cons (.o1 (.proj 4) (.v 4)) (.cons (.o1 (.proj 5) (.v 4)) .nil)))))))]
            (.call 2 [(.bool false)]
              (.call 1 [(.v 1), (.o1 .agg (.cons (.o1 (.proj 0) (.v 6)) (.cons (.o1 (.proj 1) (.v 6)) (.cons (.o1 (.proj 2) (.v 6)) (.cons (.o1 (.proj 3) (.v 6)) (.cons (.o1 (.proj 4) (.v 6)) (.cons (.o1 (.proj 5) (.v 6)) .nil)))))))]
                (.call 2 [(.bool false)]
                  (.call 1 [(.o2 .app (.o2 .app .nil (.v 0)) (.v 1)), (.o1 .agg (.cons (.o1 (.proj 0) (.v 8)) (.cons (.o1 (.proj 1) (.v 8)) (.cons (.o1 (.proj 2) (.v 8)) (.cons (.o1 (.proj 3) (.v 8)) (.cons (.o1 (.proj 4) (.v 8)) (.cons (.o1 (.proj 5) (.v 8)) .nil)))))))]
                    (.call 2 [(.bool true)]
                      (.call 1 [(.o2 .app (.o2 .app .nil (.v 0)) (.v 1)), (.o1 .agg (.cons (.o1 (.proj 0) (.v 10)) (.cons (.o1 (.proj 1) (.v 10)) (.cons (.o1 (.proj 2) (.v 10)) (.cons (.o1 (.proj 3) (.v 10)) (.cons (.o1 (.proj 4) (.v 10)) (.cons (.o1 (.proj 5) (.v 10)) .nil)))))))]
                        (.req (.o2 .lei (.o1 .len (.o2 .app .nil (.o1 (.proj 0) (.v 5)))) (.int 1099511627776)) (.req (.o2 .lei (.o1 .len (.o2 .app (.o2 .app .nil (.o1 (.proj 0) (.v 5))) (.o1 (.proj 0) (.v 7)))) (.int 1099511627776)) (.call 0 [(.o1 (.proj 0) (.v 9)), (.o2 .app (.o2 .app .nil (.o1 (.proj 0) (.v 5))) (.o1 (.proj 0) (.v 7)))]
                          (.both
                            (.br (.v 12)
                              (.both
                                (.both
                                  (.br (.o2 .lei (.o1 .len (.o1 (.proj 0) (.v 11))) (.o1 .len (.o1 (.proj 0) (.v 9))))
                                    (.call 3 []
                                      (.ret (.v 13)))
                                    (.ret (.bool false)))
                                  (.both
                                    (.br (.o2 .lei (.o1 .len (.o1 (.proj 0) (.v 11))) (.o1 .len (.o1 (.proj 0) (.v 9))))
                                      (.call 3 []
                                        (.ret (.v 13)))
                                      (.ret (.bool false)))
                                    (.both
                                      (.br (.o2 .lei (.o1 .len (.o1 (.proj 0) (.v 11))) (.o1 .len (.o1 (.proj 0) (.v 9))))
                                        (.call 3 []
                                          (.ret (.v 13)))
                                        (.ret (.bool false)))
                                      (.br (.o2 .lei (.o1 .len (.o1 (.proj 0) (.v 11))) (.o1 .len (.o1 (.proj 0) (.v 9))))
                                        (.call 3 []
                                          (.ret (.v 13)))
                                        (.ret (.bool false))))))
                                (.both
                                  (.both
                                    (.br (.o2 .lei (.o1 .len (.o1 (.proj 0) (.v 11))) (.o1 .len (.o1 (.proj 0) (.v 9))))
                                      (.call 3 []
                                        (.ret (.v 13)))
                                      (.ret (.bool false)))
                                    (.both
                                      (.br (.o2 .lei (.o1 .len (.o1 (.proj 0) (.v 11))) (.o1 .len (.o1 (.proj 0) (.v 9))))
                                        (.call 3 []
                                          (.ret (.v 13)))
                                        (.ret (.bool false)))
                                      (.br (.o2 .lei (.o1 .len (.o1 (.proj 0) (.v 11))) (.o1 .len (.o1 (.proj 0) (.v 9))))
                                        (.call 3 []
                                          (.ret (.v 13)))
                                        (.ret (.bool false)))))
                                  (.both
                                    (.both
                                      (.br (.o2 .lei (.o1 .len (.o1 (.proj 0) (.v 11))) (.o1 .len (.o1 (.proj 0) (.v 9))))
                                        (.call 3 []
                                          (.ret (.v 13)))
                                        (.ret (.bool false)))
                                      (.br (.o2 .lei (.o1 .len (.o1 (.proj 0) (.v 11))) (.o1 .len (.o1 (.proj 0) (.v 9))))
                                        (.call 3 []
                                          (.ret (.v 13)))
                                        (.ret (.bool false))))
                                    (.br (.o2 .lei (.o1 .len (.o1 (.proj 0) (.v 11))) (.o1 .len (.o1 (.proj 0) (.v 9))))
                                      (.call 3 []
                                        (.ret (.v 13)))
                                      (.ret (.bool false))))))
                              (.both
                                (.both
                                  (.ret (.bool false))
                                  (.both
                                    (.ret (.bool false))
                                    (.both
                                      (.ret (.bool false))
                                      (.ret (.bool false)))))
                                (.both
                                  (.both
                                    (.ret (.bool false))
                                    (.both
                                      (.ret (.bool false))
                                      (.ret (.bool false))))
                                  (.both
                                    (.both
                                      (.ret (.bool false))
                                      (.ret (.bool false)))
                                    (.ret (.bool false))))))
                            (.br (.v 12)
                              (.both
                                (.both
                                  (.both
                                    (.br (.o2 .lei (.o1 .len (.o1 (.proj 0) (.v 11))) (.o1 .len (.o1 (.proj 0) (.v 9))))
                                      (.call 3 []
                                        (.ret (.v 13)))
                                      (.ret (.bool false)))
                                    (.both
                                      (.br (.o2 .lei (.o1 .len (.o1 (.proj 0) (.v 11))) (.o1 .len (.o1 (.proj 0) (.v 9))))
                                        (.call 3 []
                                          (.ret (.v 13)))
                                        (.ret (.bool false)))
                                      (.br (.o2 .lei (.o1 .len (.o1 (.proj 0) (.v 11))) (.o1 .len (.o1 (.proj 0) (.v 9))))
                                        (.call 3 []
                                          (.ret (.v 13)))
                                        (.ret (.bool false)))))
                                  (.both
                                    (.both
                                      (.br (.o2 .lei (.o1 .len (.o1 (.proj 0) (.v 11))) (.o1 .len (.o1 (.proj 0) (.v 9))))
                                        (.call 3 []
                                          (.ret (.v 13)))
                                        (.ret (.bool false)))
                                      (.br (.o2 .lei (.o1 .len (.o1 (.proj 0) (.v 11))) (.o1 .len (.o1 (.proj 0) (.v 9))))
                                        (.call 3 []
                                          (.ret (.v 13)))
                                        (.ret (.bool false))))
                                    (.br (.o2 .lei (.o1 .len (.o1 (.proj 0) (.v 11))) (.o1 .len (.o1 (.proj 0) (.v 9))))
                                      (.call 3 []
                                        (.ret (.v 13)))
                                      (.ret (.bool false)))))
                                (.both
                                  (.both
                                    (.both
                                      (.br (.o2 .lei (.o1 .len (.o1 (.proj 0) (.v 11))) (.o1 .len (.o1 (.proj 0) (.v 9))))
                                        (.call 3 []
                                          (.ret (.v 13)))
                                        (.ret (.bool false)))
                                      (.br (.o2 .lei (.o1 .len (.o1 (.proj 0) (.v 11))) (.o1 .len (.o1 (.proj 0) (.v 9))))
                                        (.call 3 []
                                          (.ret (.v 13)))
                                        (.ret (.bool false))))
                                    (.br (.o2 .lei (.o1 .len (.o1 (.proj 0) (.v 11))) (.o1 .len (.o1 (.proj 0) (.v 9))))
                                      (.call 3 []
                                        (.ret (.v 13)))
                                      (.ret (.bool false))))
                                  (.br (.o2 .lei (.o1 .len (.o1 (.proj 0) (.v 11))) (.o1 .len (.o1 (.proj 0) (.v 9))))
                                    (.call 3 []
                                      (.ret (.v 13)))
                                    (.ret (.bool false)))))
                              (.both
                                (.both
                                  (.both
                                    (.ret (.bool false))
                                    (.both
                                      (.ret (.bool false))
                                      (.ret (.bool false))))
                                  (.both
                                    (.both
                                      (.ret (.bool false))
                                      (.ret (.bool false)))
                                    (.ret (.bool false))))
                                (.both
                                  (.both
                                    (.both
                                      (.ret (.bool false))
                                      (.ret (.bool false)))
                                    (.ret (.bool false)))
                                  (.ret (.bool false)))))))))))))))))))))))
set_option maxRecDepth 100000 in
theorem zoj : za4 cx_law53_BraillelineParts 4 sg_law53_BraillelineParts Tryd.f7 (Tryd.f7.body.getD .skip) = tr_law53_BraillelineParts := by kernel_rfl
theorem znn {Γ : CEnv} (hg : ∀ n, Γ.glob n = globT n) (hs : ∀ s ∈ cx_law53_BraillelineParts.sigs, Contract Tryd.prog Γ gtabU s (Γ.pre s.no) (Γ.post s.no)) : CxOk cx_law53_BraillelineParts Γ := ⟨by kernel_rfl, hs, (fun x hx => by cases hx), (fun x hx => by cases hx)⟩
theorem zj6 {Γ : CEnv} (hg : ∀ n, Γ.glob n = globT n) (hs : ∀ s ∈ cx_law53_BraillelineParts.sigs, Contract Tryd.prog Γ gtabU s (Γ.pre s.no) (Γ.post s.no)) (k : Nat) {pre : List TV → Prop} {post : List TV → TV → Prop} (h : ∀ ts, ts.length = 2 → pre ts → tr_law53_BraillelineParts.den Γ (post ts) ts []) : Contract Tryd.prog Γ gtabU (zhh k) pre post :=
  Contract.renum (zas (znn hg hs) 4 sg_law53_BraillelineParts Tryd.func7 (by kernel_rfl) (by kernel_rfl) fun ts hl hp => by rw [zoj]; exact h ts hl hp) k

def sg_law53_BraillelineEnd : Sig := ⟨8, 0, [(false, [(.slice true [.str, .bool, (.int .i64)])]), (false, [(.int .u16)]), (false, [.bool])], [(false, [(.bool, none)])]⟩
def zjc (k : Nat) : Sig := ⟨sg_law53_BraillelineEnd.f, k, sg_law53_BraillelineEnd.args, sg_law53_BraillelineEnd.res⟩
def zr9 : List (FuncId × Nat × Head) := []
def zti : List (FuncId × Nat × Nat × Plan) := []
noncomputable def cx_law53_BraillelineEnd : Cx := ⟨Tryd.prog, gtabU, [zbs 0, zb5 1, zby 2, zbr 3, zb2 4, zd5 5], [], zr9, zti, []⟩
def tr_law53_BraillelineEnd : Tree := (.call 5 [(.v 0)]
  (.br (.o1 .no (.v 3))
    (.call 4 []
      (.ret (.v 4)))
    (.call 3 [(.v 2)]
      (.call 0 [(.v 0), (.o1 .agg (.cons (.o1 (.proj 0) (.v 4)) (.cons (.o1 (.proj 1) (.v 4)) (.cons (.o1 (.proj 2) (.v 4)) (.cons (.o1 (.proj 3) (.v 4)) (.cons (.o1 (.proj 4) (.v 4)) (.cons (.o1 (.proj 5) (.v 4)) .nil)))))))]
        (.call 1 [(.o1 .agg (.cons (.o1 (.proj 0) (.v 5)) (.cons (.o1 (.proj 1) (.v 5)) .nil))), (.o2 (.add .i64) (.o1 .len (.v 0)) (.o1 (.wrap .i64) (.v 1)))]
          (.br (.o2 .eqi (.v 6) (.o2 (.add .i64) (.o1 .len (.o1 (.proj 0) (.v 5))) (.o1 (.wrap .i64) (.v 1))))
            (.call 2 [(.o1 .agg (.cons (.o1 (.proj 0) (.v 5)) (.cons (.o1 (.proj 1) (.v 5)) .nil))), (.v 6)]
              (.br (.o2 .eqi (.v 7) (.o2 (.add .i64) (.o1 .len (.v 0)) (.o1 (.wrap .i64) (.v 1))))
                (.call 1 [(.o1 .agg (.cons (.o1 (.proj 0) (.v 5)) (.cons (.o1 (.proj 1) (.v 5)) .nil))), (.int (-1))]
                  (.br (.o2 .eqi (.v 8) (.int (-1)))
                    (.call 2 [(.o1 .agg (.cons (.o1 (.proj 0) (.v 5)) (.cons (.o1 (.proj 1) (.v 5)) .nil))), (.int (-1))]
                      (.br (.o2 .eqi (.v 9) (.int (-1)))
                        (.call 4 []
                          (.ret (.v 10)))
                        (.ret (.bool false))))
                    (.ret (.bool false))))
                (.ret (.bool false))))
            (.ret (.bool false))))))))
set_option maxRecDepth 100000 in
theorem zpy : za4 cx_law53_BraillelineEnd 4 sg_law53_BraillelineEnd Tryd.f8 (Tryd.f8.body.getD .skip) = tr_law53_BraillelineEnd := by kernel_rfl
theorem zpp {Γ : CEnv} (hg : ∀ n, Γ.glob n = globT n) (hs : ∀ s ∈ cx_law53_BraillelineEnd.sigs, Contract Tryd.prog Γ gtabU s (Γ.pre s.no) (Γ.post s.no)) : CxOk cx_law53_BraillelineEnd Γ := ⟨by kernel_rfl, hs, (fun x hx => by cases hx), (fun x hx => by cases hx)⟩
theorem zlj {Γ : CEnv} (hg : ∀ n, Γ.glob n = globT n) (hs : ∀ s ∈ cx_law53_BraillelineEnd.sigs, Contract Tryd.prog Γ gtabU s (Γ.pre s.no) (Γ.post s.no)) (k : Nat) {pre : List TV → Prop} {post : List TV → TV → Prop} (h : ∀ ts, ts.length = 3 → pre ts → tr_law53_BraillelineEnd.den Γ (post ts) ts []) : Contract Tryd.prog Γ gtabU (zjc k) pre post :=
  Contract.renum (zas (zpp hg hs) 4 sg_law53_BraillelineEnd Tryd.func8 (by kernel_rfl) (by kernel_rfl) fun ts hl hp => by rw [zpy]; exact h ts hl hp) k

def sg_law53_BraillelineGlyphs : Sig := ⟨9, 0, [(false, [(.slice false [(.int .u8)])]), (false, [.bool])], [(false, [(.bool, none)])]⟩
def zg6 (k : Nat) : Sig := ⟨sg_law53_BraillelineGlyphs.f, k, sg_law53_BraillelineGlyphs.args, sg_law53_BraillelineGlyphs.res⟩
def zoy : List (FuncId × Nat × Head) := []
def zo1 : List (FuncId × Nat × Nat × Plan) := []
noncomputable def cx_law53_BraillelineGlyphs : Cx := ⟨Tryd.prog, gtabU, [zbr 0, zb2 1, zd8 2, znk 3, zh1 4], [], zoy, zo1, []⟩
def tr_law53_BraillelineGlyphs : Tree := (.br (.o2 .lti (.int 60) (.o1 .len (.v 0)))
  (.call 1 []
    (.ret (.v 2)))
  (.call 0 [(.v 1)]
    (.call 2 [(.v 0), (.o1 .agg (.cons (.o1 (.proj 0) (.v 2)) (.cons (.o1 (.proj 1) (.v 2)) (.cons (.o1 (.proj 2) (.v 2)) (.cons (.o1 (.proj 3) (.v 2)) (.cons (.o1 (.proj 4) (.v 2)) (.cons (.o1 (.proj 5) (.v 2)) .nil)))))))]
      (.call 3 [(.v 0), (.v 1)]
        (.call 4 [(.o1 (.proj 0) (.v 3)), (.o1 (.proj 0) (.v 4))]
          (.br (.v 5)
            (.br (.o2 .eqi (.o1 (.proj 1) (.v 3)) (.o1 (.proj 1) (.v 4)))
              (.call 1 []
                (.ret (.v 6)))
              (.ret (.bool false)))
            (.ret (.bool false))))))))
set_option maxRecDepth 100000 in
theorem zmi : za4 cx_law53_BraillelineGlyphs 4 sg_law53_BraillelineGlyphs Tryd.f9 (Tryd.f9.body.getD .skip) = tr_law53_BraillelineGlyphs := by kernel_rfl
theorem zms {Γ : CEnv} (hg : ∀ n, Γ.glob n = globT n) (hs : ∀ s ∈ cx_law53_BraillelineGlyphs.sigs, Contract Tryd.prog Γ gtabU s (Γ.pre s.no) (Γ.post s.no)) : CxOk cx_law53_BraillelineGlyphs Γ := ⟨by kernel_rfl, hs, (fun x hx => by cases hx), (fun x hx => by cases hx)⟩
theorem zjp {Γ : CEnv} (hg : ∀ n, Γ.glob n = globT n) (hs : ∀ s ∈ cx_law53_BraillelineGlyphs.sigs, Contract Tryd.prog Γ gtabU s (Γ.pre s.no) (Γ.post s.no)) (k : Nat) {pre : List TV → Prop} {post : List TV → TV → Prop} (h : ∀ ts, ts.length = 2 → pre ts → tr_law53_BraillelineGlyphs.den Γ (post ts) ts []) : Contract Tryd.prog Γ gtabU (zg6 k) pre post :=
  Contract.renum (zas (zms hg hs) 4 sg_law53_BraillelineGlyphs Tryd.func9 (by kernel_rfl) (by kernel_rfl) fun ts hl hp => by rw [zmi]; exact h ts hl hp) k

def sg_law53_BraillelineRoundTrip : Sig := ⟨10, 0, [(false, [(.slice true [.str, .bool, (.int .i64)])]), (false, [.bool])], [(false, [(.bool, none)])]⟩
def zfm (k : Nat) : Sig := ⟨sg_law53_BraillelineRoundTrip.f, k, sg_law53_BraillelineRoundTrip.args, sg_law53_BraillelineRoundTrip.res⟩
def zlk : List (FuncId × Nat × Head) := [(10, 5, ⟨[0, 1, 5, 16, 17, 18], [.slot 5 true 39 true [.str, .bool, (.int .i64)]], [18], [0], [], []⟩)]
def zlq : List (FuncId × Nat × Nat × Plan) := [(10, 13, 11, (.op true 0 (.op true 1 (.op true 4 (.op false 2 (.op false 3 (.op false 5 (.op false 6 (.alt 7 (.alt 8 (.op false 9 (.op false 10 .nil)) (.op false 9 (.op false 8 (.op false 10 .nil)))) (.op false 8 (.op false 7 (.op false 9 (.op false 10 .nil)))))))))))))]
noncomputable def cx_law53_BraillelineRoundTrip : Cx := ⟨Tryd.prog, gtabU, [zbs 0, zbr 1, zb2 2, zd8 3, zpw 4, zh1 5, zd5 6], [], zlk, zlq, []⟩
def tr_law53_BraillelineRoundTrip : Tree := (.call 6 [(.v 0)]
  (.br (.o1 .no (.v 2))
    (.call 2 []
      (.ret (.v 3)))
    (.loop [(.int 0), .nil]
      (.br (.o2 .lti (.v 3) (.o1 .len (.v 0)))
        (.req (.o2 .lei (.int 0) (.v 3)) (.req (.o2 .lti (.v 3) (.o1 .len (.v 0))) (.call 4 [(.o1 .agg (.cons (.o1 (.proj 0) (.o2 .idx (.v 0) (.v 3))) (.cons (.o1 (.proj 1) (.o2 .idx (.v 0) (.v 3))) (.cons (.o1 (.proj 2) (.o2 .idx (.v 0) (.v 3))) .nil))))]
          (.br (.o1 .no (.o2 .eqi (.v 5) (.int 0)))
            (.call 2 []
              (.ret (.v 6)))
            (.req (.o2 .lei (.o1 .len (.o2 .app (.v 4) (.cons (.o1 .agg (.cons (.o1 (.proj 0) (.o2 .idx (.v 0) (.v 3))) (.cons (.o1 (.proj 1) (.o2 .idx (.v 0) (.v 3))) (.cons (.int 0) .nil)))) .nil))) (.int 1099511627776)) (.back 0 [(.o2 (.add .i64) (.v 3) (.int 1)), (.o2 .app (.v 4) (.cons (.o1 .agg (.cons (.o1 (.proj 0) (.o2 .idx (.v 0) (.v 3))) (.cons (.o1 (.proj 1) (.o2 .idx (.v 0) (.v 3))) (.cons (.int 0) .nil)))) .nil))]))))))
        (.call 1 [(.v 1)]
          (.call 0 [(.v 0), (.o1 .agg (.cons (.o1 (.proj 0) (.v 5)) (.cons (.o1 (.proj 1) (.v 5)) (.cons (.o1 (.proj 2) (.v 5)) (.cons (.o1 (.proj 3) (.v 5)) (.cons (.o1 (.proj 4) (.v 5)) (.cons (.o1 (.proj 5) (.v 5)) .nil)))))))]
            (.call 3 [(.o1 (.proj 0) (.v 6)), (.o1 .agg (.cons (.o1 (.proj 0) (.v 5)) (.cons (.o1 (.proj 1) (.v 5)) (.cons (.o1 (.proj 2) (.v 5)) (.cons (.o1 (.proj 3) (.v 5)) (.cons (.o1 (.proj 4) (.v 5)) (.cons (.o1 (.proj 5) (.v 5)) .nil)))))))]
              (.both
                (.both
                  (.br (.o2 .eqi (.o1 (.proj 1) (.v 7)) (.int 0))
                    (.call 5 [(.o1 (.proj 0) (.v 7)), (.v 4)]
                      (.br (.v 8)
                        (.call 2 []
                          (.ret (.v 9)))
                        (.ret (.bool false))))
                    (.ret (.bool false)))
                  (.br (.o2 .eqi (.o1 (.proj 1) (.v 7)) (.int 0))
                    (.call 5 [(.o1 (.proj 0) (.v 7)), (.v 4)]
                      (.br (.v 8)
                        (.call 2 []
                          (.ret (.v 9)))
                        (.ret (.bool false))))
                    (.ret (.bool false))))
                (.br (.o2 .eqi (.o1 (.proj 1) (.v 7)) (.int 0))
                  (.call 5 [(.o1 (.proj 0) (.v 7)), (.v 4)]
                    (.br (.v 8)
                      (.call 2 []
                        (.ret (.v 9)))
                      (.ret (.bool false))))
                  (.ret (.bool false)))))))))))
set_option maxRecDepth 100000 in
theorem zkd : za4 cx_law53_BraillelineRoundTrip 4 sg_law53_BraillelineRoundTrip Tryd.f10 (Tryd.f10.body.getD .skip) = tr_law53_BraillelineRoundTrip := by kernel_rfl
theorem zjy {Γ : CEnv} (hg : ∀ n, Γ.glob n = globT n) (hs : ∀ s ∈ cx_law53_BraillelineRoundTrip.sigs, Contract Tryd.prog Γ gtabU s (Γ.pre s.no) (Γ.post s.no)) : CxOk cx_law53_BraillelineRoundTrip Γ := ⟨by kernel_rfl, hs, (fun x hx => by cases hx), (fun x hx => by cases hx)⟩
theorem zia {Γ : CEnv} (hg : ∀ n, Γ.glob n = globT n) (hs : ∀ s ∈ cx_law53_BraillelineRoundTrip.sigs, Contract Tryd.prog Γ gtabU s (Γ.pre s.no) (Γ.post s.no)) (k : Nat) {pre : List TV → Prop} {post : List TV → TV → Prop} (h : ∀ ts, ts.length = 2 → pre ts → tr_law53_BraillelineRoundTrip.den Γ (post ts) ts []) : Contract Tryd.prog Γ gtabU (zfm k) pre post :=
  Contract.renum (zas (zjy hg hs) 4 sg_law53_BraillelineRoundTrip Tryd.func10 (by kernel_rfl) (by kernel_rfl) fun ts hl hp => by rw [zkd]; exact h ts hl hp) k
end Go.Proofs.YtbeelajedknohaaDoor

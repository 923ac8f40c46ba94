/- Written by this repo's own program out of its texts. -/
import Derived.Test.YtgdlkhemopildaaDoorQE1
import Derived.Test.YtgdlkhemopildaaDoorQB1
namespace Go.Proofs.YtgdlkhemopildaaDoor
set_option linter.unusedVariables false
set_option linter.unusedSimpArgs false
def sg_display_moved : Sig := ⟨43, 0, [(true, [(.int .i64), (.int .i64), (.int .i64), .bool]), (true, [(.int .i64), (.int .i64), (.slice false [(.slice true [.str, .bool, (.int .i64)])]), (.int .i64), (.int .i64), .bool]), (true, [(.int .i64), .bool, .bool, (.int .i64), .bool, (.int .i64)]), (false, [(.int .i64)])], [(true, [((.int .i64), none), ((.int .i64), none), ((.int .i64), none), (.bool, none)])]⟩
def qc9 (k : Nat) : Sig := ⟨sg_display_moved.f, k, sg_display_moved.args, sg_display_moved.res⟩
def sg_ref15_GreatRow : Sig := ⟨32, 0, [(false, [(.slice true [.str, .bool, (.int .i64)])])], [(false, [(.bool, none)])]⟩
def qcd (k : Nat) : Sig := ⟨sg_ref15_GreatRow.f, k, sg_ref15_GreatRow.args, sg_ref15_GreatRow.res⟩
def qfq : List (FuncId × Nat × Head) := [(32, 4, ⟨[0, 3], [], [3], [], [], []⟩)]
def qfb : List (FuncId × Nat × Nat × Plan) := []
noncomputable def cx_ref15_GreatRow : Cx := ⟨Tryd.prog, gtabU, [], [], qfq, qfb, []⟩
def tr_ref15_GreatRow : Tree := (.br (.o2 .lti (.int 140) (.o1 .len (.v 0)))
  (.ret (.bool true))
  (.loop [(.int 0)]
    (.br (.o2 .lti (.v 1) (.o1 .len (.v 0)))
      (.req (.o2 .lei (.int 0) (.v 1)) (.req (.o2 .lti (.v 1) (.o1 .len (.v 0))) (.br (.o2 .lti (.int 40) (.o1 .slen (.o1 (.proj 0) (.o2 .idx (.v 0) (.v 1)))))
        (.ret (.bool true))
        (.back 0 [(.o2 (.add .i64) (.v 1) (.int 1))]))))
      (.ret (.bool false)))))
set_option maxRecDepth 100000 in
theorem qeo : za4 cx_ref15_GreatRow 4 sg_ref15_GreatRow Tryd.f32 (Tryd.f32.body.getD .skip) = tr_ref15_GreatRow := by kernel_rfl
theorem qeg {Γ : CEnv} (hg : ∀ n, Γ.glob n = globT n) (hs : ∀ s ∈ cx_ref15_GreatRow.sigs, Contract Tryd.prog Γ gtabU s (Γ.pre s.no) (Γ.post s.no)) : CxOk cx_ref15_GreatRow Γ := ⟨by kernel_rfl, hs, (fun x hx => by cases hx), (fun x hx => by cases hx)⟩
theorem qcy {Γ : CEnv} (hg : ∀ n, Γ.glob n = globT n) (hs : ∀ s ∈ cx_ref15_GreatRow.sigs, Contract Tryd.prog Γ gtabU s (Γ.pre s.no) (Γ.post s.no)) (k : Nat) {pre : List TV → Prop} {post : List TV → TV → Prop} (h : ∀ ts, ts.length = 1 → pre ts → tr_ref15_GreatRow.den Γ (post ts) ts []) : Contract Tryd.prog Γ gtabU (qcd k) pre post :=
  Contract.renum (zas (qeg hg hs) 4 sg_ref15_GreatRow Tryd.func32 (by kernel_rfl) (by kernel_rfl) fun ts hl hp => by rw [qeo]; exact h ts hl hp) k
def sg_ref15_Great : Sig := ⟨10, 0, [(true, [(.int .i64), (.int .i64), (.slice false [(.slice true [.str, .bool, (.int .i64)])]), (.int .i64), (.int .i64), .bool])], [(false, [(.bool, none)])]⟩
def qb1 (k : Nat) : Sig := ⟨sg_ref15_Great.f, k, sg_ref15_Great.args, sg_ref15_Great.res⟩
def hd_ref15_Great : List (FuncId × Nat × Head) := [(10, 4, ⟨[1, 3], [.slot 1 true 26 false []], [3], [], [], []⟩)]
def pl_ref15_Great : List (FuncId × Nat × Nat × Plan) := []
noncomputable def cx_ref15_Great : Cx := ⟨Tryd.prog, gtabU, [qcd 0], [], hd_ref15_Great, pl_ref15_Great, []⟩
def tr_ref15_Great : Tree := (.br (.o2 .lti (.int 12) (.o1 .len (.o1 (.proj 2) (.v 0))))
  (.ret (.bool true))
  (.br (.o2 .lti (.int 40) (.o1 (.proj 0) (.v 0)))
    (.br (.o2 .lti (.int 2) (.o1 .len (.o1 (.proj 2) (.v 0))))
      (.ret (.bool true))
      (.loop [(.int 0)]
        (.br (.o2 .lti (.v 1) (.o1 .len (.o1 (.proj 2) (.v 0))))
          (.req (.o2 .lei (.int 0) (.v 1)) (.req (.o2 .lti (.v 1) (.o1 .len (.o1 (.proj 2) (.v 0)))) (.call 0 [(.o2 .idx (.o1 (.proj 2) (.v 0)) (.v 1))]
            (.br (.v 2)
              (.ret (.bool true))
              (.back 0 [(.o2 (.add .i64) (.v 1) (.int 1))])))))
          (.ret (.bool false)))))
    (.loop [(.int 0)]
      (.br (.o2 .lti (.v 1) (.o1 .len (.o1 (.proj 2) (.v 0))))
        (.req (.o2 .lei (.int 0) (.v 1)) (.req (.o2 .lti (.v 1) (.o1 .len (.o1 (.proj 2) (.v 0)))) (.call 0 [(.o2 .idx (.o1 (.proj 2) (.v 0)) (.v 1))]
          (.br (.v 2)
            (.ret (.bool true))
            (.back 0 [(.o2 (.add .i64) (.v 1) (.int 1))])))))
        (.ret (.bool false))))))
set_option maxRecDepth 100000 in
theorem qf1 : za4 cx_ref15_Great 4 sg_ref15_Great Tryd.f10 (Tryd.f10.body.getD .skip) = tr_ref15_Great := by kernel_rfl
theorem qgn {Γ : CEnv} (hg : ∀ n, Γ.glob n = globT n) (hs : ∀ s ∈ cx_ref15_Great.sigs, Contract Tryd.prog Γ gtabU s (Γ.pre s.no) (Γ.post s.no)) : CxOk cx_ref15_Great Γ := ⟨by kernel_rfl, hs, (fun x hx => by cases hx), (fun x hx => by cases hx)⟩
theorem qdx {Γ : CEnv} (hg : ∀ n, Γ.glob n = globT n) (hs : ∀ s ∈ cx_ref15_Great.sigs, Contract Tryd.prog Γ gtabU s (Γ.pre s.no) (Γ.post s.no)) (k : Nat) {pre : List TV → Prop} {post : List TV → TV → Prop} (h : ∀ ts, ts.length = 1 → pre ts → tr_ref15_Great.den Γ (post ts) ts []) : Contract Tryd.prog Γ gtabU (qb1 k) pre post :=
  Contract.renum (zas (qgn hg hs) 4 sg_ref15_Great Tryd.func10 (by kernel_rfl) (by kernel_rfl) fun ts hl hp => by rw [qf1]; exact h ts hl hp) k
def sg_ref15_Size : Sig := ⟨48, 0, [(false, [(.int .i64)]), (false, [(.int .i64)])], [(false, [(.bool, none)])]⟩
def qc3 (k : Nat) : Sig := ⟨sg_ref15_Size.f, k, sg_ref15_Size.args, sg_ref15_Size.res⟩
def hd_ref15_Size : List (FuncId × Nat × Head) := []
def pl_ref15_Size : List (FuncId × Nat × Nat × Plan) := []
noncomputable def cx_ref15_Size : Cx := ⟨Tryd.prog, gtabU, [], [], hd_ref15_Size, pl_ref15_Size, []⟩
def tr_ref15_Size : Tree := (.br (.o2 .lei (.int 1) (.v 0))
  (.br (.o2 .lei (.v 0) (.int 132))
    (.br (.o2 .lei (.int 1) (.v 1))
      (.ret (.o2 .lei (.v 1) (.int 60)))
      (.ret (.bool false)))
    (.ret (.bool false)))
  (.ret (.bool false)))
set_option maxRecDepth 100000 in
theorem qhq : za4 cx_ref15_Size 4 sg_ref15_Size Tryd.f48 (Tryd.f48.body.getD .skip) = tr_ref15_Size := by kernel_rfl
theorem qhh {Γ : CEnv} (hg : ∀ n, Γ.glob n = globT n) (hs : ∀ s ∈ cx_ref15_Size.sigs, Contract Tryd.prog Γ gtabU s (Γ.pre s.no) (Γ.post s.no)) : CxOk cx_ref15_Size Γ := ⟨by kernel_rfl, hs, (fun x hx => by cases hx), (fun x hx => by cases hx)⟩
theorem qem {Γ : CEnv} (hg : ∀ n, Γ.glob n = globT n) (hs : ∀ s ∈ cx_ref15_Size.sigs, Contract Tryd.prog Γ gtabU s (Γ.pre s.no) (Γ.post s.no)) (k : Nat) {pre : List TV → Prop} {post : List TV → TV → Prop} (h : ∀ ts, ts.length = 2 → pre ts → tr_ref15_Size.den Γ (post ts) ts []) : Contract Tryd.prog Γ gtabU (qc3 k) pre post :=
  Contract.renum (zas (qhh hg hs) 4 sg_ref15_Size Tryd.func48 (by kernel_rfl) (by kernel_rfl) fun ts hl hp => by rw [qhq]; exact h ts hl hp) k
def sg_ref15_Width : Sig := ⟨42, 0, [(false, [(.slice true [.str, .bool, (.int .i64)])])], [(false, [((.int .i64), none)])]⟩
def qb6 (k : Nat) : Sig := ⟨sg_ref15_Width.f, k, sg_ref15_Width.args, sg_ref15_Width.res⟩
def hd_ref15_Width : List (FuncId × Nat × Head) := [(42, 3, ⟨[0, 3, 4], [], [4, 3], [], [], []⟩)]
def pl_ref15_Width : List (FuncId × Nat × Nat × Plan) := []
noncomputable def cx_ref15_Width : Cx := ⟨Tryd.prog, gtabU, [], [], hd_ref15_Width, pl_ref15_Width, []⟩
def tr_ref15_Width : Tree := (.loop [(.int 0), (.int 0)]
  (.br (.o2 .lti (.v 2) (.o1 .len (.v 0)))
    (.req (.o2 .lei (.int 0) (.v 2)) (.req (.o2 .lti (.v 2) (.o1 .len (.v 0))) (.br (.o1 (.proj 1) (.o2 .idx (.v 0) (.v 2)))
      (.back 0 [(.o2 (.add .i64) (.o2 (.add .i64) (.v 1) (.int 1)) (.int 1)), (.o2 (.add .i64) (.v 2) (.int 1))])
      (.back 0 [(.o2 (.add .i64) (.v 1) (.int 1)), (.o2 (.add .i64) (.v 2) (.int 1))]))))
    (.ret (.v 1))))
set_option maxRecDepth 100000 in
theorem qga : za4 cx_ref15_Width 4 sg_ref15_Width Tryd.f42 (Tryd.f42.body.getD .skip) = tr_ref15_Width := by kernel_rfl
theorem qfz {Γ : CEnv} (hg : ∀ n, Γ.glob n = globT n) (hs : ∀ s ∈ cx_ref15_Width.sigs, Contract Tryd.prog Γ gtabU s (Γ.pre s.no) (Γ.post s.no)) : CxOk cx_ref15_Width Γ := ⟨by kernel_rfl, hs, (fun x hx => by cases hx), (fun x hx => by cases hx)⟩
theorem qds {Γ : CEnv} (hg : ∀ n, Γ.glob n = globT n) (hs : ∀ s ∈ cx_ref15_Width.sigs, Contract Tryd.prog Γ gtabU s (Γ.pre s.no) (Γ.post s.no)) (k : Nat) {pre : List TV → Prop} {post : List TV → TV → Prop} (h : ∀ ts, ts.length = 1 → pre ts → tr_ref15_Width.den Γ (post ts) ts []) : Contract Tryd.prog Γ gtabU (qb6 k) pre post :=
  Contract.renum (zas (qfz hg hs) 4 sg_ref15_Width Tryd.func42 (by kernel_rfl) (by kernel_rfl) fun ts hl hp => by rw [qga]; exact h ts hl hp) k
def sg_ref15_Glyph : Sig := ⟨49, 0, [(true, [.str, .bool, (.int .i64)])], [(false, [((.int .i64), none)])]⟩
def zpw (k : Nat) : Sig := ⟨sg_ref15_Glyph.f, k, sg_ref15_Glyph.args, sg_ref15_Glyph.res⟩
def hd_ref15_Glyph : List (FuncId × Nat × Head) := []
def pl_ref15_Glyph : List (FuncId × Nat × Nat × Plan) := [(49, 3, 27, (.op true 0 (.op true 1 (.op true 2 (.op true 3 (.op false 4 (.op false 5 (.op false 6 (.op false 7 (.op true 8 (.op true 9 (.op true 10 (.op false 11 (.op false 12 (.op true 13 (.op true 14 (.op true 15 (.op false 16 (.op false 17 (.op true 18 (.op true 19 (.op true 20 (.op true 21 (.op true 22 (.op true 23 (.op true 24 (.op true 25 (.op false 26 .nil))))))))))))))))))))))))))))]
noncomputable def cx_ref15_Glyph : Cx := ⟨Tryd.prog, gtabU, [zhl 0, zhj 1], [], hd_ref15_Glyph, pl_ref15_Glyph, []⟩
def tr_ref15_Glyph : Tree := (.call 0 [(.o1 (.proj 0) (.v 0))]
  (.br (.o1 .no (.o2 .eqi (.v 1) (.int 0)))
    (.ret (.int 3))
    (.call 1 [(.o1 (.proj 0) (.v 0))]
      (.br (.o1 .no (.o2 .eqb (.o1 (.proj 1) (.v 0)) (.o2 .eqi (.v 2) (.int 2))))
        (.ret (.int 9))
        (.br (.o2 .lti (.o1 (.proj 2) (.v 0)) (.int 0))
          (.ret (.int 9))
          (.br (.o2 .lti (.int 3) (.o1 (.proj 2) (.v 0)))
            (.ret (.int 9))
            (.br (.o2 .eqi (.o1 (.proj 2) (.v 0)) (.int 3))
              (.br (.o1 .no (.o2 .eqs (.o1 (.proj 0) (.v 0)) (.str [42])))
                (.ret (.int 9))
                (.ret (.int 0)))
              (.ret (.int 0)))))))))
set_option maxRecDepth 100000 in
theorem z5x : za4 cx_ref15_Glyph 4 sg_ref15_Glyph Tryd.f49 (Tryd.f49.body.getD .skip) = tr_ref15_Glyph := by kernel_rfl
theorem z6i {Γ : CEnv} (hg : ∀ n, Γ.glob n = globT n) (hs : ∀ s ∈ cx_ref15_Glyph.sigs, Contract Tryd.prog Γ gtabU s (Γ.pre s.no) (Γ.post s.no)) : CxOk cx_ref15_Glyph Γ := ⟨by kernel_rfl, hs, (fun x hx => by cases hx), (fun x hx => by cases hx)⟩
theorem zxp {Γ : CEnv} (hg : ∀ n, Γ.glob n = globT n) (hs : ∀ s ∈ cx_ref15_Glyph.sigs, Contract Tryd.prog Γ gtabU s (Γ.pre s.no) (Γ.post s.no)) (k : Nat) {pre : List TV → Prop} {post : List TV → TV → Prop} (h : ∀ ts, ts.length = 1 → pre ts → tr_ref15_Glyph.den Γ (post ts) ts []) : Contract Tryd.prog Γ gtabU (zpw k) pre post :=
  Contract.renum (zas (z6i hg hs) 4 sg_ref15_Glyph Tryd.func49 (by kernel_rfl) (by kernel_rfl) fun ts hl hp => by rw [z5x]; exact h ts hl hp) k
def sg_ref15_blank : Sig := ⟨50, 0, [(true, [.str, .bool, (.int .i64)])], [(false, [(.bool, none)])]⟩
def qcr (k : Nat) : Sig := ⟨sg_ref15_blank.f, k, sg_ref15_blank.args, sg_ref15_blank.res⟩
def hd_ref15_blank : List (FuncId × Nat × Head) := []
def pl_ref15_blank : List (FuncId × Nat × Nat × Plan) := []
noncomputable def cx_ref15_blank : Cx := ⟨Tryd.prog, gtabU, [], [], hd_ref15_blank, pl_ref15_blank, []⟩
def tr_ref15_blank : Tree := (.ret (.o3 .ite (.o2 .eqs (.o1 (.proj 0) (.v 0)) (.str [32])) (.o3 .ite (.o2 .eqb (.o1 (.proj 1) (.v 0)) (.bool false)) (.o3 .ite (.o2 .eqi (.o1 (.proj 2) (.v 0)) (.int 0)) (.bool true) (.bool false)) (.bool false)) (.bool false)))
set_option maxRecDepth 100000 in
theorem qgc : za4 cx_ref15_blank 4 sg_ref15_blank Tryd.f50 (Tryd.f50.body.getD .skip) = tr_ref15_blank := by kernel_rfl
theorem qgb {Γ : CEnv} (hg : ∀ n, Γ.glob n = globT n) (hs : ∀ s ∈ cx_ref15_blank.sigs, Contract Tryd.prog Γ gtabU s (Γ.pre s.no) (Γ.post s.no)) : CxOk cx_ref15_blank Γ := ⟨by kernel_rfl, hs, (fun x hx => by cases hx), (fun x hx => by cases hx)⟩
theorem qdz {Γ : CEnv} (hg : ∀ n, Γ.glob n = globT n) (hs : ∀ s ∈ cx_ref15_blank.sigs, Contract Tryd.prog Γ gtabU s (Γ.pre s.no) (Γ.post s.no)) (k : Nat) {pre : List TV → Prop} {post : List TV → TV → Prop} (h : ∀ ts, ts.length = 1 → pre ts → tr_ref15_blank.den Γ (post ts) ts []) : Contract Tryd.prog Γ gtabU (qcr k) pre post :=
  Contract.renum (zas (qgb hg hs) 4 sg_ref15_blank Tryd.func50 (by kernel_rfl) (by kernel_rfl) fun ts hl hp => by rw [qgc]; exact h ts hl hp) k
def sg_ref15_Check : Sig := ⟨25, 0, [(true, [(.int .i64), (.int .i64), (.slice false [(.slice true [.str, .bool, (.int .i64)])]), (.int .i64), (.int .i64), .bool])], [(false, [((.int .i64), none)])]⟩
def qb7 (k : Nat) : Sig := ⟨sg_ref15_Check.f, k, sg_ref15_Check.args, sg_ref15_Check.res⟩
def hd_ref15_Check : List (FuncId × Nat × Head) := [(25, 8, ⟨[1, 3], [.slot 1 true 26 false []], [3], [], [], []⟩), (25, 12, ⟨[1, 3, 4, 5], [.slot 1 true 26 false []], [5], [], [], []⟩)]
def pl_ref15_Check : List (FuncId × Nat × Nat × Plan) := [(25, 17, 5, (.op true 0 (.op true 2 (.op true 3 (.op false 1 (.op false 4 .nil))))))]
noncomputable def cx_ref15_Check : Cx := ⟨Tryd.prog, gtabU, [qc3 0, qb6 1, zpw 2, qcr 3], [], hd_ref15_Check, pl_ref15_Check, []⟩
def tr_ref15_Check : Tree := (.call 0 [(.o1 (.proj 0) (.v 0)), (.o1 (.proj 1) (.v 0))]
  (.br (.o1 .no (.v 1))
    (.ret (.int 2))
    (.br (.o1 .no (.o2 .eqi (.o1 .len (.o1 (.proj 2) (.v 0))) (.o1 (.proj 1) (.v 0))))
      (.ret (.int 11))
      (.br (.o2 .lti (.o1 (.proj 3) (.v 0)) (.int 0))
        (.ret (.int 2))
        (.br (.o2 .lei (.o1 (.proj 1) (.v 0)) (.o1 (.proj 3) (.v 0)))
          (.ret (.int 2))
          (.br (.o2 .lti (.o1 (.proj 4) (.v 0)) (.int 0))
            (.ret (.int 2))
            (.br (.o2 .lei (.o1 (.proj 0) (.v 0)) (.o1 (.proj 4) (.v 0)))
              (.ret (.int 2))
              (.loop [(.int 0)]
                (.br (.o2 .lti (.v 2) (.o1 .len (.o1 (.proj 2) (.v 0))))
                  (.req (.o2 .lei (.int 0) (.v 2)) (.req (.o2 .lti (.v 2) (.o1 .len (.o1 (.proj 2) (.v 0)))) (.loop [(.int 0)]
                    (.br (.o2 .lti (.v 3) (.o1 .len (.o2 .idx (.o1 (.proj 2) (.v 0)) (.v 2))))
                      (.req (.o2 .lei (.int 0) (.v 3)) (.req (.o2 .lti (.v 3) (.o1 .len (.o2 .idx (.o1 (.proj 2) (.v 0)) (.v 2)))) (.call 2 [(.o1 .agg (.cons (.o1 (.proj 0) (.o2 .idx (.o2 .idx (.o1 (.proj 2) (.v 0)) (.v 2)) (.v 3))) (.cons (.o1 (.proj 1) (.o2 .idx (.o2 .idx (.o1 (.proj 2) (.v 0)) (.v 2)) (.v 3))) (.cons (.o1 (.proj 2) (.o2 .idx (.o2 .idx (.o1 (.proj 2) (.v 0)) (.v 2)) (.v 3))) .nil))))]
                        (.br (.o1 .no (.o2 .eqi (.v 4) (.int 0)))
                          (.ret (.v 4))
                          (.back 1 [(.o2 (.add .i64) (.v 3) (.int 1))])))))
                      (.call 1 [(.o2 .idx (.o1 (.proj 2) (.v 0)) (.v 2))]
                        (.br (.o2 .lti (.o1 (.proj 0) (.v 0)) (.v 4))
                          (.ret (.int 12))
                          (.br (.o2 .lti (.int 0) (.o1 .len (.o2 .idx (.o1 (.proj 2) (.v 0)) (.v 2))))
                            (.req (.o2 .lei (.int 0) (.o2 (.sub .i64) (.o1 .len (.o2 .idx (.o1 (.proj 2) (.v 0)) (.v 2))) (.int 1))) (.req (.o2 .lti (.o2 (.sub .i64) (.o1 .len (.o2 .idx (.o1 (.proj 2) (.v 0)) (.v 2))) (.int 1)) (.o1 .len (.o2 .idx (.o1 (.proj 2) (.v 0)) (.v 2)))) (.call 3 [(.o1 .agg (.cons (.o1 (.proj 0) (.o2 .idx (.o2 .idx (.o1 (.proj 2) (.v 0)) (.v 2)) (.o2 (.sub .i64) (.o1 .len (.o2 .idx (.o1 (.proj 2) (.v 0)) (.v 2))) (.int 1)))) (.cons (.o1 (.proj 1) (.o2 .idx (.o2 .idx (.o1 (.proj 2) (.v 0)) (.v 2)) (.o2 (.sub .i64) (.o1 .len (.o2 .idx (.o1 (.proj 2) (.v 0)) (.v 2))) (.int 1)))) (.cons (.o1 (.proj 2) (.o2 .idx (.o2 .idx (.o1 (.proj 2) (.v 0)) (.v 2)) (.o2 (.sub .i64) (.o1 .len (.o2 .idx (.o1 (.proj 2) (.v 0)) (.v 2))) (.int 1)))) .nil))))]
                              (.br (.v 5)
                                (.ret (.int 1))
                                (.back 0 [(.o2 (.add .i64) (.v 2) (.int 1))])))))
                            (.back 0 [(.o2 (.add .i64) (.v 2) (.int 1))]))))))))
                  (.ret (.int 0)))))))))))
set_option maxRecDepth 100000 in
theorem qgh : za4 cx_ref15_Check 4 sg_ref15_Check Tryd.f25 (Tryd.f25.body.getD .skip) = tr_ref15_Check := by kernel_rfl
theorem qf8 {Γ : CEnv} (hg : ∀ n, Γ.glob n = globT n) (hs : ∀ s ∈ cx_ref15_Check.sigs, Contract Tryd.prog Γ gtabU s (Γ.pre s.no) (Γ.post s.no)) : CxOk cx_ref15_Check Γ := ⟨by kernel_rfl, hs, (fun x hx => by cases hx), (fun x hx => by cases hx)⟩
theorem qd6 {Γ : CEnv} (hg : ∀ n, Γ.glob n = globT n) (hs : ∀ s ∈ cx_ref15_Check.sigs, Contract Tryd.prog Γ gtabU s (Γ.pre s.no) (Γ.post s.no)) (k : Nat) {pre : List TV → Prop} {post : List TV → TV → Prop} (h : ∀ ts, ts.length = 1 → pre ts → tr_ref15_Check.den Γ (post ts) ts []) : Contract Tryd.prog Γ gtabU (qb7 k) pre post :=
  Contract.renum (zas (qf8 hg hs) 4 sg_ref15_Check Tryd.func25 (by kernel_rfl) (by kernel_rfl) fun ts hl hp => by rw [qgh]; exact h ts hl hp) k
def sg_view_sized : Sig := ⟨75, 0, [(false, [(.int .i64)]), (false, [(.int .i64)])], [(false, [(.bool, none)])]⟩
def qc1 (k : Nat) : Sig := ⟨sg_view_sized.f, k, sg_view_sized.args, sg_view_sized.res⟩
def hd_view_sized : List (FuncId × Nat × Head) := []
def pl_view_sized : List (FuncId × Nat × Nat × Plan) := []
noncomputable def cx_view_sized : Cx := ⟨Tryd.prog, gtabU, [], [], hd_view_sized, pl_view_sized, []⟩
def tr_view_sized : Tree := (.br (.o2 .lei (.int 1) (.v 0))
  (.br (.o2 .lei (.v 0) (.int 132))
    (.br (.o2 .lei (.int 1) (.v 1))
      (.ret (.o2 .lei (.v 1) (.int 60)))
      (.ret (.bool false)))
    (.ret (.bool false)))
  (.ret (.bool false)))
set_option maxRecDepth 100000 in
theorem qhd : za4 cx_view_sized 4 sg_view_sized Tryd.f75 (Tryd.f75.body.getD .skip) = tr_view_sized := by kernel_rfl
theorem qg4 {Γ : CEnv} (hg : ∀ n, Γ.glob n = globT n) (hs : ∀ s ∈ cx_view_sized.sigs, Contract Tryd.prog Γ gtabU s (Γ.pre s.no) (Γ.post s.no)) : CxOk cx_view_sized Γ := ⟨by kernel_rfl, hs, (fun x hx => by cases hx), (fun x hx => by cases hx)⟩
theorem qec {Γ : CEnv} (hg : ∀ n, Γ.glob n = globT n) (hs : ∀ s ∈ cx_view_sized.sigs, Contract Tryd.prog Γ gtabU s (Γ.pre s.no) (Γ.post s.no)) (k : Nat) {pre : List TV → Prop} {post : List TV → TV → Prop} (h : ∀ ts, ts.length = 2 → pre ts → tr_view_sized.den Γ (post ts) ts []) : Contract Tryd.prog Γ gtabU (qc1 k) pre post :=
  Contract.renum (zas (qg4 hg hs) 4 sg_view_sized Tryd.func75 (by kernel_rfl) (by kernel_rfl) fun ts hl hp => by rw [qhd]; exact h ts hl hp) k
def sg_view_glyph : Sig := ⟨76, 0, [(true, [.str, .bool, (.int .i64)])], [(false, [((.int .i64), none)])]⟩
def qc6 (k : Nat) : Sig := ⟨sg_view_glyph.f, k, sg_view_glyph.args, sg_view_glyph.res⟩
def hd_view_glyph : List (FuncId × Nat × Head) := []
def pl_view_glyph : List (FuncId × Nat × Nat × Plan) := [(76, 3, 27, (.op true 0 (.op true 1 (.op true 2 (.op true 3 (.op false 4 (.op false 5 (.op false 6 (.op false 7 (.op true 8 (.op true 9 (.op true 10 (.op false 11 (.op false 12 (.op true 13 (.op true 14 (.op true 15 (.op false 16 (.op false 17 (.op true 18 (.op true 19 (.op true 20 (.op true 21 (.op true 22 (.op true 23 (.op true 24 (.op true 25 (.op false 26 .nil))))))))))))))))))))))))))))]
noncomputable def cx_view_glyph : Cx := ⟨Tryd.prog, gtabU, [zh7 0, zh6 1], [], hd_view_glyph, pl_view_glyph, []⟩
def tr_view_glyph : Tree := (.call 0 [(.o1 (.proj 0) (.v 0))]
  (.br (.o1 .no (.o2 .eqi (.v 1) (.int 0)))
    (.ret (.int 3))
    (.call 1 [(.o1 (.proj 0) (.v 0))]
      (.br (.o1 .no (.o2 .eqb (.o1 (.proj 1) (.v 0)) (.o2 .eqi (.v 2) (.int 2))))
        (.ret (.int 9))
        (.br (.o2 .lti (.o1 (.proj 2) (.v 0)) (.int 0))
          (.ret (.int 9))
          (.br (.o2 .lti (.int 3) (.o1 (.proj 2) (.v 0)))
            (.ret (.int 9))
            (.br (.o2 .eqi (.o1 (.proj 2) (.v 0)) (.int 3))
              (.br (.o1 .no (.o2 .eqs (.o1 (.proj 0) (.v 0)) (.str [42])))
                (.ret (.int 9))
                (.ret (.int 0)))
              (.ret (.int 0)))))))))
set_option maxRecDepth 100000 in
theorem qgz : za4 cx_view_glyph 4 sg_view_glyph Tryd.f76 (Tryd.f76.body.getD .skip) = tr_view_glyph := by kernel_rfl
theorem qhj {Γ : CEnv} (hg : ∀ n, Γ.glob n = globT n) (hs : ∀ s ∈ cx_view_glyph.sigs, Contract Tryd.prog Γ gtabU s (Γ.pre s.no) (Γ.post s.no)) : CxOk cx_view_glyph Γ := ⟨by kernel_rfl, hs, (fun x hx => by cases hx), (fun x hx => by cases hx)⟩
theorem qeb {Γ : CEnv} (hg : ∀ n, Γ.glob n = globT n) (hs : ∀ s ∈ cx_view_glyph.sigs, Contract Tryd.prog Γ gtabU s (Γ.pre s.no) (Γ.post s.no)) (k : Nat) {pre : List TV → Prop} {post : List TV → TV → Prop} (h : ∀ ts, ts.length = 1 → pre ts → tr_view_glyph.den Γ (post ts) ts []) : Contract Tryd.prog Γ gtabU (qc6 k) pre post :=
  Contract.renum (zas (qhj hg hs) 4 sg_view_glyph Tryd.func76 (by kernel_rfl) (by kernel_rfl) fun ts hl hp => by rw [qgz]; exact h ts hl hp) k
def sg_view_blank : Sig := ⟨77, 0, [], [(true, [(.str, none), (.bool, none), ((.int .i64), none)])]⟩
def qcz (k : Nat) : Sig := ⟨sg_view_blank.f, k, sg_view_blank.args, sg_view_blank.res⟩
def hd_view_blank : List (FuncId × Nat × Head) := []
def pl_view_blank : List (FuncId × Nat × Nat × Plan) := []
noncomputable def cx_view_blank : Cx := ⟨Tryd.prog, gtabU, [], [], hd_view_blank, pl_view_blank, []⟩
def tr_view_blank : Tree := (.ret (.o1 .agg (.cons (.str [32]) (.cons (.bool false) (.cons (.int 0) .nil)))))
set_option maxRecDepth 100000 in
theorem qhp : za4 cx_view_blank 4 sg_view_blank Tryd.f77 (Tryd.f77.body.getD .skip) = tr_view_blank := by kernel_rfl
theorem qhg {Γ : CEnv} (hg : ∀ n, Γ.glob n = globT n) (hs : ∀ s ∈ cx_view_blank.sigs, Contract Tryd.prog Γ gtabU s (Γ.pre s.no) (Γ.post s.no)) : CxOk cx_view_blank Γ := ⟨by kernel_rfl, hs, (fun x hx => by cases hx), (fun x hx => by cases hx)⟩
theorem qeh {Γ : CEnv} (hg : ∀ n, Γ.glob n = globT n) (hs : ∀ s ∈ cx_view_blank.sigs, Contract Tryd.prog Γ gtabU s (Γ.pre s.no) (Γ.post s.no)) (k : Nat) {pre : List TV → Prop} {post : List TV → TV → Prop} (h : ∀ ts, ts.length = 0 → pre ts → tr_view_blank.den Γ (post ts) ts []) : Contract Tryd.prog Γ gtabU (qcz k) pre post :=
  Contract.renum (zas (qhg hg hs) 4 sg_view_blank Tryd.func77 (by kernel_rfl) (by kernel_rfl) fun ts hl hp => by rw [qhp]; exact h ts hl hp) k
def sg_view_Width : Sig := ⟨41, 0, [(false, [(.slice true [.str, .bool, (.int .i64)])])], [(false, [((.int .i64), none)])]⟩
def qck (k : Nat) : Sig := ⟨sg_view_Width.f, k, sg_view_Width.args, sg_view_Width.res⟩
def hd_view_Width : List (FuncId × Nat × Head) := [(41, 3, ⟨[3, 8, 9, 10], [], [10, 3], [], [], []⟩)]
def pl_view_Width : List (FuncId × Nat × Nat × Plan) := []
noncomputable def cx_view_Width : Cx := ⟨Tryd.prog, gtabU, [], [], hd_view_Width, pl_view_Width, []⟩
def tr_view_Width : Tree := (.loop [(.o1 .len (.v 0)), (.int 0)]
  (.br (.o2 .lti (.v 2) (.o1 .len (.v 0)))
    (.req (.o2 .lei (.int 0) (.v 2)) (.req (.o2 .lti (.v 2) (.o1 .len (.v 0))) (.br (.o1 (.proj 1) (.o2 .idx (.v 0) (.v 2)))
      (.back 0 [(.o2 (.add .i64) (.v 1) (.int 1)), (.o2 (.add .i64) (.v 2) (.int 1))])
      (.back 0 [(.v 1), (.o2 (.add .i64) (.v 2) (.int 1))]))))
    (.ret (.v 1))))
set_option maxRecDepth 100000 in
theorem qg0 : za4 cx_view_Width 4 sg_view_Width Tryd.f41 (Tryd.f41.body.getD .skip) = tr_view_Width := by kernel_rfl
theorem qhi {Γ : CEnv} (hg : ∀ n, Γ.glob n = globT n) (hs : ∀ s ∈ cx_view_Width.sigs, Contract Tryd.prog Γ gtabU s (Γ.pre s.no) (Γ.post s.no)) : CxOk cx_view_Width Γ := ⟨by kernel_rfl, hs, (fun x hx => by cases hx), (fun x hx => by cases hx)⟩
theorem qef {Γ : CEnv} (hg : ∀ n, Γ.glob n = globT n) (hs : ∀ s ∈ cx_view_Width.sigs, Contract Tryd.prog Γ gtabU s (Γ.pre s.no) (Γ.post s.no)) (k : Nat) {pre : List TV → Prop} {post : List TV → TV → Prop} (h : ∀ ts, ts.length = 1 → pre ts → tr_view_Width.den Γ (post ts) ts []) : Contract Tryd.prog Γ gtabU (qck k) pre post :=
  Contract.renum (zas (qhi hg hs) 4 sg_view_Width Tryd.func41 (by kernel_rfl) (by kernel_rfl) fun ts hl hp => by rw [qg0]; exact h ts hl hp) k
def sg_view_Index : Sig := ⟨62, 0, [(false, [(.slice true [.str, .bool, (.int .i64)])]), (false, [(.int .i64)])], [(false, [((.int .i64), none)])]⟩
def qc5 (k : Nat) : Sig := ⟨sg_view_Index.f, k, sg_view_Index.args, sg_view_Index.res⟩
def hd_view_Index : List (FuncId × Nat × Head) := [(62, 5, ⟨[0, 1, 5, 10, 11, 12], [], [12, 5], [], [], []⟩)]
def pl_view_Index : List (FuncId × Nat × Nat × Plan) := []
noncomputable def cx_view_Index : Cx := ⟨Tryd.prog, gtabU, [], [], hd_view_Index, pl_view_Index, []⟩
def tr_view_Index : Tree := (.br (.o2 .lti (.v 1) (.int 0))
  (.ret (.int (-1)))
  (.loop [(.int 0), (.int 0)]
    (.br (.o2 .lti (.v 3) (.o1 .len (.v 0)))
      (.req (.o2 .lei (.int 0) (.v 3)) (.req (.o2 .lti (.v 3) (.o1 .len (.v 0))) (.br (.o1 (.proj 1) (.o2 .idx (.v 0) (.v 3)))
        (.br (.o2 .lti (.v 1) (.o2 (.add .i64) (.o2 (.add .i64) (.v 2) (.int 1)) (.int 1)))
          (.ret (.v 3))
          (.back 0 [(.o2 (.add .i64) (.o2 (.add .i64) (.v 2) (.int 1)) (.int 1)), (.o2 (.add .i64) (.v 3) (.int 1))]))
        (.br (.o2 .lti (.v 1) (.o2 (.add .i64) (.v 2) (.int 1)))
          (.ret (.v 3))
          (.back 0 [(.o2 (.add .i64) (.v 2) (.int 1)), (.o2 (.add .i64) (.v 3) (.int 1))])))))
      (.ret (.o2 (.sub .i64) (.o2 (.add .i64) (.o1 .len (.v 0)) (.v 1)) (.v 2))))))
set_option maxRecDepth 100000 in
theorem qgt : za4 cx_view_Index 4 sg_view_Index Tryd.f62 (Tryd.f62.body.getD .skip) = tr_view_Index := by kernel_rfl
theorem qhu {Γ : CEnv} (hg : ∀ n, Γ.glob n = globT n) (hs : ∀ s ∈ cx_view_Index.sigs, Contract Tryd.prog Γ gtabU s (Γ.pre s.no) (Γ.post s.no)) : CxOk cx_view_Index Γ := ⟨by kernel_rfl, hs, (fun x hx => by cases hx), (fun x hx => by cases hx)⟩
theorem qej {Γ : CEnv} (hg : ∀ n, Γ.glob n = globT n) (hs : ∀ s ∈ cx_view_Index.sigs, Contract Tryd.prog Γ gtabU s (Γ.pre s.no) (Γ.post s.no)) (k : Nat) {pre : List TV → Prop} {post : List TV → TV → Prop} (h : ∀ ts, ts.length = 2 → pre ts → tr_view_Index.den Γ (post ts) ts []) : Contract Tryd.prog Γ gtabU (qc5 k) pre post :=
  Contract.renum (zas (qhu hg hs) 4 sg_view_Index Tryd.func62 (by kernel_rfl) (by kernel_rfl) fun ts hl hp => by rw [qgt]; exact h ts hl hp) k
def sg_view_Check : Sig := ⟨51, 0, [(true, [(.int .i64), (.int .i64), (.slice false [(.slice true [.str, .bool, (.int .i64)])]), (.int .i64), (.int .i64), .bool])], [(false, [((.int .i64), none)])]⟩
def qcj (k : Nat) : Sig := ⟨sg_view_Check.f, k, sg_view_Check.args, sg_view_Check.res⟩
def hd_view_Check : List (FuncId × Nat × Head) := [(51, 8, ⟨[1, 47, 48, 49], [.slot 1 true 26 false []], [49], [], [], []⟩), (51, 11, ⟨[1, 4, 47, 48, 49, 53, 54, 55], [.slot 1 true 26 false []], [55], [], [], []⟩)]
def pl_view_Check : List (FuncId × Nat × Nat × Plan) := [(51, 17, 5, (.op true 0 (.op true 2 (.op true 3 (.op false 1 (.op false 4 .nil)))))), (51, 20, 11, (.op true 0 (.op true 1 (.op true 2 (.op true 3 (.op true 4 (.op true 5 (.op true 6 (.op true 7 (.op false 8 (.op false 9 (.op false 10 .nil))))))))))))]
noncomputable def cx_view_Check : Cx := ⟨Tryd.prog, gtabU, [qc1 0, qc6 1, qcz 2, qck 3], [], hd_view_Check, pl_view_Check, []⟩
def tr_view_Check : Tree := (.call 0 [(.o1 (.proj 0) (.v 0)), (.o1 (.proj 1) (.v 0))]
  (.br (.o1 .no (.v 1))
    (.ret (.int 2))
    (.br (.o1 .no (.o2 .eqi (.o1 .len (.o1 (.proj 2) (.v 0))) (.o1 (.proj 1) (.v 0))))
      (.ret (.int 11))
      (.br (.o2 .lti (.o1 (.proj 3) (.v 0)) (.int 0))
        (.ret (.int 2))
        (.br (.o2 .lei (.o1 (.proj 1) (.v 0)) (.o1 (.proj 3) (.v 0)))
          (.ret (.int 2))
          (.br (.o2 .lti (.o1 (.proj 4) (.v 0)) (.int 0))
            (.ret (.int 2))
            (.br (.o2 .lei (.o1 (.proj 0) (.v 0)) (.o1 (.proj 4) (.v 0)))
              (.ret (.int 2))
              (.loop [(.int 0)]
                (.br (.o2 .lti (.v 2) (.o1 .len (.o1 (.proj 2) (.v 0))))
                  (.req (.o2 .lei (.int 0) (.v 2)) (.req (.o2 .lti (.v 2) (.o1 .len (.o1 (.proj 2) (.v 0)))) (.loop [(.int 0)]
                    (.br (.o2 .lti (.v 3) (.o1 .len (.o2 .idx (.o1 (.proj 2) (.v 0)) (.v 2))))
                      (.req (.o2 .lei (.int 0) (.v 3)) (.req (.o2 .lti (.v 3) (.o1 .len (.o2 .idx (.o1 (.proj 2) (.v 0)) (.v 2)))) (.call 1 [(.o1 .agg (.cons (.o1 (.proj 0) (.o2 .idx (.o2 .idx (.o1 (.proj 2) (.v 0)) (.v 2)) (.v 3))) (.cons (.o1 (.proj 1) (.o2 .idx (.o2 .idx (.o1 (.proj 2) (.v 0)) (.v 2)) (.v 3))) (.cons (.o1 (.proj 2) (.o2 .idx (.o2 .idx (.o1 (.proj 2) (.v 0)) (.v 2)) (.v 3))) .nil))))]
                        (.br (.o1 .no (.o2 .eqi (.v 4) (.int 0)))
                          (.ret (.v 4))
                          (.back 1 [(.o2 (.add .i64) (.v 3) (.int 1))])))))
                      (.call 3 [(.o2 .idx (.o1 (.proj 2) (.v 0)) (.v 2))]
                        (.br (.o2 .lti (.o1 (.proj 0) (.v 0)) (.v 4))
                          (.ret (.int 12))
                          (.br (.o2 .lti (.int 0) (.o1 .len (.o2 .idx (.o1 (.proj 2) (.v 0)) (.v 2))))
                            (.req (.o2 .lei (.int 0) (.o2 (.sub .i64) (.o1 .len (.o2 .idx (.o1 (.proj 2) (.v 0)) (.v 2))) (.int 1))) (.req (.o2 .lti (.o2 (.sub .i64) (.o1 .len (.o2 .idx (.o1 (.proj 2) (.v 0)) (.v 2))) (.int 1)) (.o1 .len (.o2 .idx (.o1 (.proj 2) (.v 0)) (.v 2)))) (.call 2 []
                              (.br (.o3 .ite (.o2 .eqs (.o1 (.proj 0) (.o2 .idx (.o2 .idx (.o1 (.proj 2) (.v 0)) (.v 2)) (.o2 (.sub .i64) (.o1 .len (.o2 .idx (.o1 (.proj 2) (.v 0)) (.v 2))) (.int 1)))) (.o1 (.proj 0) (.v 5))) (.o3 .ite (.o2 .eqb (.o1 (.proj 1) (.o2 .idx (.o2 .idx (.o1 (.proj 2) (.v 0)) (.v 2)) (.o2 (.sub .i64) (.o1 .len (.o2 .idx (.o1 (.proj 2) (.v 0)) (.v 2))) (.int 1)))) (.o1 (.proj 1) (.v 5))) (.o3 .ite (.o2 .eqi (.o1 (.proj 2) (.o2 .idx (.o2 .idx (.o1 (.proj 2) (.v 0)) (.v 2)) (.o2 (.sub .i64) (.o1 .len (.o2 .idx (.o1 (.proj 2) (.v 0)) (.v 2))) (.int 1)))) (.o1 (.proj 2) (.v 5))) (.bool true) (.bool false)) (.bool false)) (.bool false))
                                (.ret (.int 1))
                                (.back 0 [(.o2 (.add .i64) (.v 2) (.int 1))])))))
                            (.back 0 [(.o2 (.add .i64) (.v 2) (.int 1))]))))))))
                  (.ret (.int 0)))))))))))
set_option maxRecDepth 100000 in
theorem qgv : za4 cx_view_Check 4 sg_view_Check Tryd.f51 (Tryd.f51.body.getD .skip) = tr_view_Check := by kernel_rfl
theorem qg8 {Γ : CEnv} (hg : ∀ n, Γ.glob n = globT n) (hs : ∀ s ∈ cx_view_Check.sigs, Contract Tryd.prog Γ gtabU s (Γ.pre s.no) (Γ.post s.no)) : CxOk cx_view_Check Γ := ⟨by kernel_rfl, hs, (fun x hx => by cases hx), (fun x hx => by cases hx)⟩
theorem qep {Γ : CEnv} (hg : ∀ n, Γ.glob n = globT n) (hs : ∀ s ∈ cx_view_Check.sigs, Contract Tryd.prog Γ gtabU s (Γ.pre s.no) (Γ.post s.no)) (k : Nat) {pre : List TV → Prop} {post : List TV → TV → Prop} (h : ∀ ts, ts.length = 1 → pre ts → tr_view_Check.den Γ (post ts) ts []) : Contract Tryd.prog Γ gtabU (qcj k) pre post :=
  Contract.renum (zas (qg8 hg hs) 4 sg_view_Check Tryd.func51 (by kernel_rfl) (by kernel_rfl) fun ts hl hp => by rw [qgv]; exact h ts hl hp) k
def sg_display_proper : Sig := ⟨33, 0, [(true, [(.int .i64), (.int .i64), (.int .i64), .bool]), (true, [(.int .i64), (.int .i64), (.slice false [(.slice true [.str, .bool, (.int .i64)])]), (.int .i64), (.int .i64), .bool])], [(false, [(.bool, none)])]⟩
def qb4 (k : Nat) : Sig := ⟨sg_display_proper.f, k, sg_display_proper.args, sg_display_proper.res⟩
def qe8 : List (FuncId × Nat × Head) := []
def qfw : List (FuncId × Nat × Nat × Plan) := []
noncomputable def cx_display_proper : Cx := ⟨Tryd.prog, gtabU, [qcj 0], [], qe8, qfw, []⟩
def tr_display_proper : Tree := (.br (.o2 .lei (.int 1) (.o1 (.proj 0) (.v 0)))
  (.br (.o2 .lei (.o1 (.proj 0) (.v 0)) (.int 80))
    (.br (.o2 .lei (.int 0) (.o1 (.proj 1) (.v 0)))
      (.br (.o2 .lti (.o1 (.proj 1) (.v 0)) (.int 60))
        (.br (.o2 .lei (.int 0) (.o1 (.proj 2) (.v 0)))
          (.br (.o2 .lei (.o1 (.proj 2) (.v 0)) (.int 10000))
            (.call 0 [(.o1 .agg (.cons (.o1 (.proj 0) (.v 1)) (.cons (.o1 (.proj 1) (.v 1)) (.cons (.o1 (.proj 2) (.v 1)) (.cons (.o1 (.proj 3) (.v 1)) (.cons (.o1 (.proj 4) (.v 1)) (.cons (.o1 (.proj 5) (.v 1)) .nil)))))))]
              (.ret (.o2 .eqi (.v 2) (.int 0))))
            (.ret (.bool false)))
          (.ret (.bool false)))
        (.ret (.bool false)))
      (.ret (.bool false)))
    (.ret (.bool false)))
  (.ret (.bool false)))
set_option maxRecDepth 100000 in
theorem qek : za4 cx_display_proper 4 sg_display_proper Tryd.f33 (Tryd.f33.body.getD .skip) = tr_display_proper := by kernel_rfl
theorem qen {Γ : CEnv} (hg : ∀ n, Γ.glob n = globT n) (hs : ∀ s ∈ cx_display_proper.sigs, Contract Tryd.prog Γ gtabU s (Γ.pre s.no) (Γ.post s.no)) : CxOk cx_display_proper Γ := ⟨by kernel_rfl, hs, (fun x hx => by cases hx), (fun x hx => by cases hx)⟩
theorem contract_display_proper {Γ : CEnv} (hg : ∀ n, Γ.glob n = globT n) (hs : ∀ s ∈ cx_display_proper.sigs, Contract Tryd.prog Γ gtabU s (Γ.pre s.no) (Γ.post s.no)) (k : Nat) {pre : List TV → Prop} {post : List TV → TV → Prop} (h : ∀ ts, ts.length = 2 → pre ts → tr_display_proper.den Γ (post ts) ts []) : Contract Tryd.prog Γ gtabU (qb4 k) pre post :=
  Contract.renum (zas (qen hg hs) 4 sg_display_proper Tryd.func33 (by kernel_rfl) (by kernel_rfl) fun ts hl hp => by rw [qek]; exact h ts hl hp) k
def sg_display_current : Sig := ⟨34, 0, [(true, [(.int .i64), (.int .i64), (.int .i64), .bool]), (true, [(.int .i64), (.int .i64), (.slice false [(.slice true [.str, .bool, (.int .i64)])]), (.int .i64), (.int .i64), .bool])], [(false, [((.int .i64), none)])]⟩
def qcc (k : Nat) : Sig := ⟨sg_display_current.f, k, sg_display_current.args, sg_display_current.res⟩
def qe2 : List (FuncId × Nat × Head) := []
def qev : List (FuncId × Nat × Nat × Plan) := []
noncomputable def cx_display_current : Cx := ⟨Tryd.prog, gtabU, [], [], qe2, qev, []⟩
def tr_display_current : Tree := (.ret (.o2 .min (.o1 (.proj 1) (.v 0)) (.o2 (.sub .i64) (.o1 (.proj 1) (.v 1)) (.int 1))))
set_option maxRecDepth 100000 in
theorem qdw : za4 cx_display_current 4 sg_display_current Tryd.f34 (Tryd.f34.body.getD .skip) = tr_display_current := by kernel_rfl
theorem qd4 {Γ : CEnv} (hg : ∀ n, Γ.glob n = globT n) (hs : ∀ s ∈ cx_display_current.sigs, Contract Tryd.prog Γ gtabU s (Γ.pre s.no) (Γ.post s.no)) : CxOk cx_display_current Γ := ⟨by kernel_rfl, hs, (fun x hx => by cases hx), (fun x hx => by cases hx)⟩
theorem contract_display_current {Γ : CEnv} (hg : ∀ n, Γ.glob n = globT n) (hs : ∀ s ∈ cx_display_current.sigs, Contract Tryd.prog Γ gtabU s (Γ.pre s.no) (Γ.post s.no)) (k : Nat) {pre : List TV → Prop} {post : List TV → TV → Prop} (h : ∀ ts, ts.length = 2 → pre ts → tr_display_current.den Γ (post ts) ts []) : Contract Tryd.prog Γ gtabU (qcc k) pre post :=
  Contract.renum (zas (qd4 hg hs) 4 sg_display_current Tryd.func34 (by kernel_rfl) (by kernel_rfl) fun ts hl hp => by rw [qdw]; exact h ts hl hp) k
def sg_display_cursor : Sig := ⟨36, 0, [(true, [(.int .i64), (.int .i64), (.slice false [(.slice true [.str, .bool, (.int .i64)])]), (.int .i64), (.int .i64), .bool]), (true, [(.int .i64), .bool, .bool, (.int .i64), .bool, (.int .i64)])], [(false, [((.int .i64), none)])]⟩
def qce (k : Nat) : Sig := ⟨sg_display_cursor.f, k, sg_display_cursor.args, sg_display_cursor.res⟩
def qft : List (FuncId × Nat × Head) := []
def qfp : List (FuncId × Nat × Nat × Plan) := [(36, 2, 9, (.op true 0 (.op true 1 (.op true 3 (.op true 4 (.op true 5 (.op false 2 (.op false 6 (.op false 7 (.op false 8 .nil))))))))))]
noncomputable def cx_display_cursor : Cx := ⟨Tryd.prog, gtabU, [zbs 0, zb5 1, qc5 2], [], qft, qfp, []⟩
def tr_display_cursor : Tree := (.req (.o2 .lei (.int 0) (.o1 (.proj 3) (.v 0))) (.req (.o2 .lti (.o1 (.proj 3) (.v 0)) (.o1 .len (.o1 (.proj 2) (.v 0)))) (.call 0 [(.o2 .idx (.o1 (.proj 2) (.v 0)) (.o1 (.proj 3) (.v 0))), (.o1 .agg (.cons (.o1 (.proj 0) (.v 1)) (.cons (.o1 (.proj 1) (.v 1)) (.cons (.o1 (.proj 2) (.v 1)) (.cons (.o1 (.proj 3) (.v 1)) (.cons (.o1 (.proj 4) (.v 1)) (.cons (.o1 (.proj 5) (.v 1)) .nil)))))))]
  (.call 2 [(.o2 .idx (.o1 (.proj 2) (.v 0)) (.o1 (.proj 3) (.v 0))), (.o1 (.proj 4) (.v 0))]
    (.call 1 [(.o1 .agg (.cons (.o1 (.proj 0) (.v 2)) (.cons (.o1 (.proj 1) (.v 2)) .nil))), (.v 3)]
      (.ret (.v 4)))))))
set_option maxRecDepth 100000 in
theorem qes : za4 cx_display_cursor 4 sg_display_cursor Tryd.f36 (Tryd.f36.body.getD .skip) = tr_display_cursor := by kernel_rfl
theorem qee {Γ : CEnv} (hg : ∀ n, Γ.glob n = globT n) (hs : ∀ s ∈ cx_display_cursor.sigs, Contract Tryd.prog Γ gtabU s (Γ.pre s.no) (Γ.post s.no)) : CxOk cx_display_cursor Γ := ⟨by kernel_rfl, hs, (fun x hx => by cases hx), (fun x hx => by cases hx)⟩
theorem contract_display_cursor {Γ : CEnv} (hg : ∀ n, Γ.glob n = globT n) (hs : ∀ s ∈ cx_display_cursor.sigs, Contract Tryd.prog Γ gtabU s (Γ.pre s.no) (Γ.post s.no)) (k : Nat) {pre : List TV → Prop} {post : List TV → TV → Prop} (h : ∀ ts, ts.length = 2 → pre ts → tr_display_cursor.den Γ (post ts) ts []) : Contract Tryd.prog Γ gtabU (qce k) pre post :=
  Contract.renum (zas (qee hg hs) 4 sg_display_cursor Tryd.func36 (by kernel_rfl) (by kernel_rfl) fun ts hl hp => by rw [qes]; exact h ts hl hp) k
def sg_display_Show : Sig := ⟨12, 0, [(true, [(.int .i64), (.int .i64), (.int .i64), .bool]), (true, [(.int .i64), (.int .i64), (.slice false [(.slice true [.str, .bool, (.int .i64)])]), (.int .i64), (.int .i64), .bool]), (true, [(.int .i64), .bool, .bool, (.int .i64), .bool, (.int .i64)])], [(false, [((.slice false [(.int .u8)]), some 5)]), (false, [((.int .i64), none)])]⟩
def qca (k : Nat) : Sig := ⟨sg_display_Show.f, k, sg_display_Show.args, sg_display_Show.res⟩
def qg1 : List (FuncId × Nat × Head) := []
def qg7 : List (FuncId × Nat × Nat × Plan) := [(12, 4, 9, (.op true 0 (.op true 1 (.op true 2 (.op true 3 (.op true 4 (.op true 5 (.op false 6 (.op false 7 (.op false 8 .nil)))))))))), (12, 8, 7, (.op true 0 (.op true 1 (.op true 3 (.op true 4 (.op false 2 (.op false 5 (.op false 6 .nil))))))))]
noncomputable def cx_display_Show : Cx := ⟨Tryd.prog, gtabU, [zbs 0, qb4 1, qcc 2, qce 3], [], qg1, qg7, []⟩
def tr_display_Show : Tree := (.call 1 [(.o1 .agg (.cons (.o1 (.proj 0) (.v 0)) (.cons (.o1 (.proj 1) (.v 0)) (.cons (.o1 (.proj 2) (.v 0)) (.cons (.o1 (.proj 3) (.v 0)) .nil))))), (.o1 .agg (.cons (.o1 (.proj 0) (.v 1)) (.cons (.o1 (.proj 1) (.v 1)) (.cons (.o1 (.proj 2) (.v 1)) (.cons (.o1 (.proj 3) (.v 1)) (.cons (.o1 (.proj 4) (.v 1)) (.cons (.o1 (.proj 5) (.v 1)) .nil)))))))]
  (.br (.o1 .no (.v 3))
    (.ret (.o1 .agg (.cons .nil (.cons (.int (-1)) .nil))))
    (.call 2 [(.o1 .agg (.cons (.o1 (.proj 0) (.v 0)) (.cons (.o1 (.proj 1) (.v 0)) (.cons (.o1 (.proj 2) (.v 0)) (.cons (.o1 (.proj 3) (.v 0)) .nil))))), (.o1 .agg (.cons (.o1 (.proj 0) (.v 1)) (.cons (.o1 (.proj 1) (.v 1)) (.cons (.o1 (.proj 2) (.v 1)) (.cons (.o1 (.proj 3) (.v 1)) (.cons (.o1 (.proj 4) (.v 1)) (.cons (.o1 (.proj 5) (.v 1)) .nil)))))))]
      (.req (.o2 .lei (.int 0) (.v 4)) (.req (.o2 .lti (.v 4) (.o1 .len (.o1 (.proj 2) (.v 1)))) (.call 0 [(.o2 .idx (.o1 (.proj 2) (.v 1)) (.v 4)), (.o1 .agg (.cons (.o1 (.proj 0) (.v 2)) (.cons (.o1 (.proj 1) (.v 2)) (.cons (.o1 (.proj 2) (.v 2)) (.cons (.o1 (.proj 3) (.v 2)) (.cons (.o1 (.proj 4) (.v 2)) (.cons (.o1 (.proj 5) (.v 2)) .nil)))))))]
        (.req (.o2 .lei (.int 0) (.o1 (.proj 0) (.v 0))) (.req (.o2 .lei (.o1 (.proj 0) (.v 0)) (.o1 (.proj 0) (.v 0))) (.req (.o2 .lei (.o1 (.proj 0) (.v 0)) (.int 1099511627776)) (.br (.o2 .lti (.o1 (.proj 2) (.v 0)) (.o1 .len (.o1 (.proj 0) (.v 5))))
          (.req (.o2 .lei (.int 0) (.o1 (.proj 2) (.v 0))) (.req (.o2 .lei (.o1 (.proj 2) (.v 0)) (.o1 .len (.o1 (.proj 0) (.v 5)))) (.call 3 [(.o1 .agg (.cons (.o1 (.proj 0) (.v 1)) (.cons (.o1 (.proj 1) (.v 1)) (.cons (.o1 (.proj 2) (.v 1)) (.cons (.o1 (.proj 3) (.v 1)) (.cons (.o1 (.proj 4) (.v 1)) (.cons (.o1 (.proj 5) (.v 1)) .nil))))))), (.o1 .agg (.cons (.o1 (.proj 0) (.v 2)) (.cons (.o1 (.proj 1) (.v 2)) (.cons (.o1 (.proj 2) (.v 2)) (.cons (.o1 (.proj 3) (.v 2)) (.cons (.o1 (.proj 4) (.v 2)) (.cons (.o1 (.proj 5) (.v 2)) .nil)))))))]
            (.br (.o2 .eqi (.v 4) (.o1 (.proj 3) (.v 1)))
              (.br (.o1 (.proj 5) (.v 1))
                (.br (.o2 .lei (.int 0) (.o2 (.sub .i64) (.v 6) (.o1 (.proj 2) (.v 0))))
                  (.br (.o2 .lti (.o2 (.sub .i64) (.v 6) (.o1 (.proj 2) (.v 0))) (.o1 (.proj 0) (.v 0)))
                    (.ret (.o1 .agg (.cons (.o2 .app (.o3 .sub (.o3 .sub (.o1 (.proj 0) (.v 5)) (.o1 (.proj 2) (.v 0)) (.o1 .len (.o1 (.proj 0) (.v 5)))) (.int 0) (.o2 .min (.o1 .len (.o3 .sub (.o1 (.proj 0) (.v 5)) (.o1 (.proj 2) (.v 0)) (.o1 .len (.o1 (.proj 0) (.v 5))))) (.o1 .len (.o2 .repl (.o1 (.proj 0) (.v 0)) (.int 0))))) (.o3 .sub (.o2 .repl (.o1 (.proj 0) (.v 0)) (.int 0)) (.o2 .min (.o1 .len (.o3 .sub (.o1 (.proj 0) (.v 5)) (.o1 (.proj 2) (.v 0)) (.o1 .len (.o1 (.proj 0) (.v 5))))) (.o1 .len (.o2 .repl (.o1 (.proj 0) (.v 0)) (.int 0)))) (.o1 .len (.o2 .repl (.o1 (.proj 0) (.v 0)) (.int 0))))) (.cons (.o2 (.sub .i64) (.v 6) (.o1 (.proj 2) (.v 0))) .nil))))
                    (.ret (.o1 .agg (.cons (.o2 .app (.o3 .sub (.o3 .sub (.o1 (.proj 0) (.v 5)) (.o1 (.proj 2) (.v 0)) (.o1 .len (.o1 (.proj 0) (.v 5)))) (.int 0) (.o2 .min (.o1 .len (.o3 .sub (.o1 (.proj 0) (.v 5)) (.o1 (.proj 2) (.v 0)) (.o1 .len (.o1 (.proj 0) (.v 5))))) (.o1 .len (.o2 .repl (.o1 (.proj 0) (.v 0)) (.int 0))))) (.o3 .sub (.o2 .repl (.o1 (.proj 0) (.v 0)) (.int 0)) (.o2 .min (.o1 .len (.o3 .sub (.o1 (.proj 0) (.v 5)) (.o1 (.proj 2) (.v 0)) (.o1 .len (.o1 (.proj 0) (.v 5))))) (.o1 .len (.o2 .repl (.o1 (.proj 0) (.v 0)) (.int 0)))) (.o1 .len (.o2 .repl (.o1 (.proj 0) (.v 0)) (.int 0))))) (.cons (.int (-1)) .nil)))))
                  (.ret (.o1 .agg (.cons (.o2 .app (.o3 .sub (.o3 .sub (.o1 (.proj 0) (.v 5)) (.o1 (.proj 2) (.v 0)) (.o1 .len (.o1 (.proj 0) (.v 5)))) (.int 0) (.o2 .min (.o1 .len (.o3 .sub (.o1 (.proj 0) (.v 5)) (.o1 (.proj 2) (.v 0)) (.o1 .len (.o1 (.proj 0) (.v 5))))) (.o1 .len (.o2 .repl (.o1 (.proj 0) (.v 0)) (.int 0))))) (.o3 .sub (.o2 .repl (.o1 (.proj 0) (.v 0)) (.int 0)) (.o2 .min (.o1 .len (.o3 .sub (.o1 (.proj 0) (.v 5)) (.o1 (.proj 2) (.v 0)) (.o1 .len (.o1 (.proj 0) (.v 5))))) (.o1 .len (.o2 .repl (.o1 (.proj 0) (.v 0)) (.int 0)))) (.o1 .len (.o2 .repl (.o1 (.proj 0) (.v 0)) (.int 0))))) (.cons (.int (-1)) .nil)))))
                (.ret (.o1 .agg (.cons (.o2 .app (.o3 .sub (.o3 .sub (.o1 (.proj 0) (.v 5)) (.o1 (.proj 2) (.v 0)) (.o1 .len (.o1 (.proj 0) (.v 5)))) (.int 0) (.o2 .min (.o1 .len (.o3 .sub (.o1 (.proj 0) (.v 5)) (.o1 (.proj 2) (.v 0)) (.o1 .len (.o1 (.proj 0) (.v 5))))) (.o1 .len (.o2 .repl (.o1 (.proj 0) (.v 0)) (.int 0))))) (.o3 .sub (.o2 .repl (.o1 (.proj 0) (.v 0)) (.int 0)) (.o2 .min (.o1 .len (.o3 .sub (.o1 (.proj 0) (.v 5)) (.o1 (.proj 2) (.v 0)) (.o1 .len (.o1 (.proj 0) (.v 5))))) (.o1 .len (.o2 .repl (.o1 (.proj 0) (.v 0)) (.int 0)))) (.o1 .len (.o2 .repl (.o1 (.proj 0) (.v 0)) (.int 0))))) (.cons (.int (-1)) .nil)))))
              (.ret (.o1 .agg (.cons (.o2 .app (.o3 .sub (.o3 .sub (.o1 (.proj 0) (.v 5)) (.o1 (.proj 2) (.v 0)) (.o1 .len (.o1 (.proj 0) (.v 5)))) (.int 0) (.o2 .min (.o1 .len (.o3 .sub (.o1 (.proj 0) (.v 5)) (.o1 (.proj 2) (.v 0)) (.o1 .len (.o1 (.proj 0) (.v 5))))) (.o1 .len (.o2 .repl (.o1 (.proj 0) (.v 0)) (.int 0))))) (.o3 .sub (.o2 .repl (.o1 (.proj 0) (.v 0)) (.int 0)) (.o2 .min (.o1 .len (.o3 .sub (.o1 (.proj 0) (.v 5)) (.o1 (.proj 2) (.v 0)) (.o1 .len (.o1 (.proj 0) (.v 5))))) (.o1 .len (.o2 .repl (.o1 (.proj 0) (.v 0)) (.int 0)))) (.o1 .len (.o2 .repl (.o1 (.proj 0) (.v 0)) (.int 0))))) (.cons (.int (-1)) .nil))))))))
          (.call 3 [(.o1 .agg (.cons (.o1 (.proj 0) (.v 1)) (.cons (.o1 (.proj 1) (.v 1)) (.cons (.o1 (.proj 2) (.v 1)) (.cons (.o1 (.proj 3) (.v 1)) (.cons (.o1 (.proj 4) (.v 1)) (.cons (.o1 (.proj 5) (.v 1)) .nil))))))), (.o1 .agg (.cons (.o1 (.proj 0) (.v 2)) (.cons (.o1 (.proj 1) (.v 2)) (.cons (.o1 (.proj 2) (.v 2)) (.cons (.o1 (.proj 3) (.v 2)) (.cons (.o1 (.proj 4) (.v 2)) (.cons (.o1 (.proj 5) (.v 2)) .nil)))))))]
            (.br (.o2 .eqi (.v 4) (.o1 (.proj 3) (.v 1)))
              (.br (.o1 (.proj 5) (.v 1))
                (.br (.o2 .lei (.int 0) (.o2 (.sub .i64) (.v 6) (.o1 (.proj 2) (.v 0))))
                  (.br (.o2 .lti (.o2 (.sub .i64) (.v 6) (.o1 (.proj 2) (.v 0))) (.o1 (.proj 0) (.v 0)))
                    (.ret (.o1 .agg (.cons (.o2 .repl (.o1 (.proj 0) (.v 0)) (.int 0)) (.cons (.o2 (.sub .i64) (.v 6) (.o1 (.proj 2) (.v 0))) .nil))))
                    (.ret (.o1 .agg (.cons (.o2 .repl (.o1 (.proj 0) (.v 0)) (.int 0)) (.cons (.int (-1)) .nil)))))
                  (.ret (.o1 .agg (.cons (.o2 .repl (.o1 (.proj 0) (.v 0)) (.int 0)) (.cons (.int (-1)) .nil)))))
                (.ret (.o1 .agg (.cons (.o2 .repl (.o1 (.proj 0) (.v 0)) (.int 0)) (.cons (.int (-1)) .nil)))))
              (.ret (.o1 .agg (.cons (.o2 .repl (.o1 (.proj 0) (.v 0)) (.int 0)) (.cons (.int (-1)) .nil))))))))))))))))
set_option maxRecDepth 100000 in
theorem qfv : za4 cx_display_Show 4 sg_display_Show Tryd.f12 (Tryd.f12.body.getD .skip) = tr_display_Show := by kernel_rfl
theorem qfe {Γ : CEnv} (hg : ∀ n, Γ.glob n = globT n) (hs : ∀ s ∈ cx_display_Show.sigs, Contract Tryd.prog Γ gtabU s (Γ.pre s.no) (Γ.post s.no)) : CxOk cx_display_Show Γ := ⟨by kernel_rfl, hs, (fun x hx => by cases hx), (fun x hx => by cases hx)⟩
theorem contract_display_Show {Γ : CEnv} (hg : ∀ n, Γ.glob n = globT n) (hs : ∀ s ∈ cx_display_Show.sigs, Contract Tryd.prog Γ gtabU s (Γ.pre s.no) (Γ.post s.no)) (k : Nat) {pre : List TV → Prop} {post : List TV → TV → Prop} (h : ∀ ts, ts.length = 3 → pre ts → tr_display_Show.den Γ (post ts) ts []) : Contract Tryd.prog Γ gtabU (qca k) pre post :=
  Contract.renum (zas (qfe hg hs) 4 sg_display_Show Tryd.func12 (by kernel_rfl) (by kernel_rfl) fun ts hl hp => by rw [qfv]; exact h ts hl hp) k
def sg_display_New : Sig := ⟨16, 0, [(false, [(.int .i64)])], [(true, [((.int .i64), none), ((.int .i64), none), ((.int .i64), none), (.bool, none)]), (false, [((.int .i64), none)])]⟩
def qcs (k : Nat) : Sig := ⟨sg_display_New.f, k, sg_display_New.args, sg_display_New.res⟩
def hd_display_New : List (FuncId × Nat × Head) := []
def pl_display_New : List (FuncId × Nat × Nat × Plan) := []
noncomputable def cx_display_New : Cx := ⟨Tryd.prog, gtabU, [], [], hd_display_New, pl_display_New, []⟩
def tr_display_New : Tree := (.br (.o2 .lti (.v 0) (.int 1))
  (.ret (.o1 .agg (.cons (.o1 .agg (.cons (.int 0) (.cons (.int 0) (.cons (.int 0) (.cons (.bool false) .nil))))) (.cons (.int 2) .nil))))
  (.br (.o2 .lti (.int 80) (.v 0))
    (.ret (.o1 .agg (.cons (.o1 .agg (.cons (.int 0) (.cons (.int 0) (.cons (.int 0) (.cons (.bool false) .nil))))) (.cons (.int 2) .nil))))
    (.ret (.o1 .agg (.cons (.o1 .agg (.cons (.v 0) (.cons (.int 0) (.cons (.int 0) (.cons (.bool true) .nil))))) (.cons (.int 0) .nil))))))
set_option maxRecDepth 100000 in
theorem qf6 : za4 cx_display_New 4 sg_display_New Tryd.f16 (Tryd.f16.body.getD .skip) = tr_display_New := by kernel_rfl
theorem qge {Γ : CEnv} (hg : ∀ n, Γ.glob n = globT n) (hs : ∀ s ∈ cx_display_New.sigs, Contract Tryd.prog Γ gtabU s (Γ.pre s.no) (Γ.post s.no)) : CxOk cx_display_New Γ := ⟨by kernel_rfl, hs, (fun x hx => by cases hx), (fun x hx => by cases hx)⟩
theorem contract_display_New {Γ : CEnv} (hg : ∀ n, Γ.glob n = globT n) (hs : ∀ s ∈ cx_display_New.sigs, Contract Tryd.prog Γ gtabU s (Γ.pre s.no) (Γ.post s.no)) (k : Nat) {pre : List TV → Prop} {post : List TV → TV → Prop} (h : ∀ ts, ts.length = 1 → pre ts → tr_display_New.den Γ (post ts) ts []) : Contract Tryd.prog Γ gtabU (qcs k) pre post :=
  Contract.renum (zas (qge hg hs) 4 sg_display_New Tryd.func16 (by kernel_rfl) (by kernel_rfl) fun ts hl hp => by rw [qf6]; exact h ts hl hp) k
def sg_display_Route : Sig := ⟨14, 0, [(true, [(.int .i64), (.int .i64), (.int .i64), .bool]), (true, [(.int .i64), (.int .i64), (.slice false [(.slice true [.str, .bool, (.int .i64)])]), (.int .i64), (.int .i64), .bool]), (true, [(.int .i64), .bool, .bool, (.int .i64), .bool, (.int .i64)]), (false, [(.int .i64)])], [(false, [((.int .i64), none)]), (false, [((.int .i64), none)]), (false, [((.int .i64), none)])]⟩
def qb8 (k : Nat) : Sig := ⟨sg_display_Route.f, k, sg_display_Route.args, sg_display_Route.res⟩
def qgd : List (FuncId × Nat × Head) := []
def qgf : List (FuncId × Nat × Nat × Plan) := [(14, 7, 9, (.op true 0 (.op true 1 (.op true 3 (.op true 4 (.op true 5 (.op true 6 (.op false 2 (.op false 7 (.op false 8 .nil))))))))))]
noncomputable def cx_display_Route : Cx := ⟨Tryd.prog, gtabU, [zbs 0, zby 1, qck 2, qb4 3, qcc 4], [], qgd, qgf, []⟩
def tr_display_Route : Tree := (.call 3 [(.o1 .agg (.cons (.o1 (.proj 0) (.v 0)) (.cons (.o1 (.proj 1) (.v 0)) (.cons (.o1 (.proj 2) (.v 0)) (.cons (.o1 (.proj 3) (.v 0)) .nil))))), (.o1 .agg (.cons (.o1 (.proj 0) (.v 1)) (.cons (.o1 (.proj 1) (.v 1)) (.cons (.o1 (.proj 2) (.v 1)) (.cons (.o1 (.proj 3) (.v 1)) (.cons (.o1 (.proj 4) (.v 1)) (.cons (.o1 (.proj 5) (.v 1)) .nil)))))))]
  (.br (.o1 .no (.v 4))
    (.ret (.o1 .agg (.cons (.int 0) (.cons (.int 0) (.cons (.int 1) .nil)))))
    (.br (.o2 .lti (.v 3) (.int 0))
      (.ret (.o1 .agg (.cons (.int 0) (.cons (.int 0) (.cons (.int 2) .nil)))))
      (.br (.o2 .lei (.o1 (.proj 0) (.v 0)) (.v 3))
        (.ret (.o1 .agg (.cons (.int 0) (.cons (.int 0) (.cons (.int 2) .nil)))))
        (.call 4 [(.o1 .agg (.cons (.o1 (.proj 0) (.v 0)) (.cons (.o1 (.proj 1) (.v 0)) (.cons (.o1 (.proj 2) (.v 0)) (.cons (.o1 (.proj 3) (.v 0)) .nil))))), (.o1 .agg (.cons (.o1 (.proj 0) (.v 1)) (.cons (.o1 (.proj 1) (.v 1)) (.cons (.o1 (.proj 2) (.v 1)) (.cons (.o1 (.proj 3) (.v 1)) (.cons (.o1 (.proj 4) (.v 1)) (.cons (.o1 (.proj 5) (.v 1)) .nil)))))))]
          (.req (.o2 .lei (.int 0) (.v 5)) (.req (.o2 .lti (.v 5) (.o1 .len (.o1 (.proj 2) (.v 1)))) (.call 0 [(.o2 .idx (.o1 (.proj 2) (.v 1)) (.v 5)), (.o1 .agg (.cons (.o1 (.proj 0) (.v 2)) (.cons (.o1 (.proj 1) (.v 2)) (.cons (.o1 (.proj 2) (.v 2)) (.cons (.o1 (.proj 3) (.v 2)) (.cons (.o1 (.proj 4) (.v 2)) (.cons (.o1 (.proj 5) (.v 2)) .nil)))))))]
            (.call 1 [(.o1 .agg (.cons (.o1 (.proj 0) (.v 6)) (.cons (.o1 (.proj 1) (.v 6)) .nil))), (.o2 (.add .i64) (.o1 (.proj 2) (.v 0)) (.v 3))]
              (.req (.o2 .lei (.int 0) (.o2 .min (.v 7) (.o1 .len (.o2 .idx (.o1 (.proj 2) (.v 1)) (.v 5))))) (.req (.o2 .lei (.o2 .min (.v 7) (.o1 .len (.o2 .idx (.o1 (.proj 2) (.v 1)) (.v 5)))) (.o1 .len (.o2 .idx (.o1 (.proj 2) (.v 1)) (.v 5)))) (.call 2 [(.o3 .sub (.o2 .idx (.o1 (.proj 2) (.v 1)) (.v 5)) (.int 0) (.o2 .min (.v 7) (.o1 .len (.o2 .idx (.o1 (.proj 2) (.v 1)) (.v 5)))))]
                (.br (.o2 .lei (.o1 (.proj 0) (.v 1)) (.o2 (.add .i64) (.v 8) (.o2 .max (.int 0) (.o2 (.sub .i64) (.v 7) (.o1 .len (.o2 .idx (.o1 (.proj 2) (.v 1)) (.v 5)))))))
                  (.ret (.o1 .agg (.cons (.int 0) (.cons (.int 0) (.cons (.int 2) .nil)))))
                  (.ret (.o1 .agg (.cons (.v 5) (.cons (.o2 (.add .i64) (.v 8) (.o2 .max (.int 0) (.o2 (.sub .i64) (.v 7) (.o1 .len (.o2 .idx (.o1 (.proj 2) (.v 1)) (.v 5)))))) (.cons (.int 0) .nil))))))))))))))))))
set_option maxRecDepth 100000 in
theorem qew : za4 cx_display_Route 4 sg_display_Route Tryd.f14 (Tryd.f14.body.getD .skip) = tr_display_Route := by kernel_rfl
theorem qe0 {Γ : CEnv} (hg : ∀ n, Γ.glob n = globT n) (hs : ∀ s ∈ cx_display_Route.sigs, Contract Tryd.prog Γ gtabU s (Γ.pre s.no) (Γ.post s.no)) : CxOk cx_display_Route Γ := ⟨by kernel_rfl, hs, (fun x hx => by cases hx), (fun x hx => by cases hx)⟩
theorem contract_display_Route {Γ : CEnv} (hg : ∀ n, Γ.glob n = globT n) (hs : ∀ s ∈ cx_display_Route.sigs, Contract Tryd.prog Γ gtabU s (Γ.pre s.no) (Γ.post s.no)) (k : Nat) {pre : List TV → Prop} {post : List TV → TV → Prop} (h : ∀ ts, ts.length = 4 → pre ts → tr_display_Route.den Γ (post ts) ts []) : Contract Tryd.prog Γ gtabU (qb8 k) pre post :=
  Contract.renum (zas (qe0 hg hs) 4 sg_display_Route Tryd.func14 (by kernel_rfl) (by kernel_rfl) fun ts hl hp => by rw [qew]; exact h ts hl hp) k
def sg_display_Keys : Sig := ⟨28, 0, [(true, [(.int .i64), (.int .i64), (.slice false [(.slice true [.str, .bool, (.int .i64)])]), (.int .i64), (.int .i64), .bool]), (false, [(.int .i64)]), (false, [(.int .i64)])], [(false, [((.slice true [.str, (.int .i32), .bool, .bool, .bool]), some 64)])]⟩
def qcm (k : Nat) : Sig := ⟨sg_display_Keys.f, k, sg_display_Keys.args, sg_display_Keys.res⟩
def qha : List (FuncId × Nat × Head) := [(52, 3, ⟨[0, 2, 3], [.blk 0, .blk 1, .cell 3 0 true 64 true [.str, (.int .i32), .bool, .bool, .bool]], [0], [2], [], []⟩), (52, 0, ⟨[0, 1, 2, 3], [.blk 0, .blk 1, .cell 3 0 true 64 true [.str, (.int .i32), .bool, .bool, .bool]], [0], [2], [], []⟩)]
def qg9 : List (FuncId × Nat × Nat × Plan) := []
noncomputable def cx_display_Keys : Cx := ⟨Tryd.prog, gtabU, [qcj 0], [(52, Tryd.f52)], qha, qg9, []⟩
def tr_display_Keys : Tree := (.call 0 [(.o1 .agg (.cons (.o1 (.proj 0) (.v 0)) (.cons (.o1 (.proj 1) (.v 0)) (.cons (.o1 (.proj 2) (.v 0)) (.cons (.o1 (.proj 3) (.v 0)) (.cons (.o1 (.proj 4) (.v 0)) (.cons (.o1 (.proj 5) (.v 0)) .nil)))))))]
  (.br (.o1 .no (.o2 .eqi (.v 3) (.int 0)))
    (.ret .nil)
    (.br (.o2 .lti (.v 1) (.int 0))
      (.ret .nil)
      (.br (.o2 .lei (.o1 (.proj 1) (.v 0)) (.v 1))
        (.ret .nil)
        (.br (.o2 .lti (.v 2) (.int 0))
          (.ret .nil)
          (.br (.o2 .lei (.o1 (.proj 0) (.v 0)) (.v 2))
            (.ret .nil)
            (.loop [(.o2 (.sub .i64) (.v 2) (.o1 (.proj 4) (.v 0))), .nil]
              (.br (.o2 .lti (.int 0) (.v 4))
                (.req (.o2 .lei (.o1 .len (.o2 .app (.v 5) (.cons (.o1 .agg (.cons (.str [82, 105, 103, 104, 116]) (.cons (.int 0) (.cons (.bool false) (.cons (.bool false) (.cons (.bool false) .nil)))))) .nil))) (.int 1099511627776)) (.back 0 [(.o2 (.sub .i64) (.v 4) (.int 1)), (.o2 .app (.v 5) (.cons (.o1 .agg (.cons (.str [82, 105, 103, 104, 116]) (.cons (.int 0) (.cons (.bool false) (.cons (.bool false) (.cons (.bool false) .nil)))))) .nil))]))
                (.loop [(.v 4), (.v 5)]
                  (.br (.o2 .lti (.v 6) (.int 0))
                    (.req (.o2 .lei (.o1 .len (.o2 .app (.v 7) (.cons (.o1 .agg (.cons (.str [76, 101, 102, 116]) (.cons (.int 0) (.cons (.bool false) (.cons (.bool false) (.cons (.bool false) .nil)))))) .nil))) (.int 1099511627776)) (.back 1 [(.o2 (.add .i64) (.v 6) (.int 1)), (.o2 .app (.v 7) (.cons (.o1 .agg (.cons (.str [76, 101, 102, 116]) (.cons (.int 0) (.cons (.bool false) (.cons (.bool false) (.cons (.bool false) .nil)))))) .nil))]))
                    (.loop [(.o2 (.sub .i64) (.v 1) (.o1 (.proj 3) (.v 0))), (.v 7)]
                      (.br (.o2 .lti (.int 0) (.v 8))
                        (.req (.o2 .lei (.o1 .len (.o2 .app (.v 9) (.cons (.o1 .agg (.cons (.str [68, 111, 119, 110]) (.cons (.int 0) (.cons (.bool false) (.cons (.bool false) (.cons (.bool false) .nil)))))) .nil))) (.int 1099511627776)) (.back 2 [(.o2 (.sub .i64) (.v 8) (.int 1)), (.o2 .app (.v 9) (.cons (.o1 .agg (.cons (.str [68, 111, 119, 110]) (.cons (.int 0) (.cons (.bool false) (.cons (.bool false) (.cons (.bool false) .nil)))))) .nil))]))
                        (.loop [(.v 8), (.v 9)]
                          (.br (.o2 .lti (.v 10) (.int 0))
                            (.req (.o2 .lei (.o1 .len (.o2 .app (.v 11) (.cons (.o1 .agg (.cons (.str [85, 112]) (.cons (.int 0) (.cons (.bool false) (.cons (.bool false) (.cons (.bool false) .nil)))))) .nil))) (.int 1099511627776)) (.back 3 [(.o2 (.add .i64) (.v 10) (.int 1)), (.o2 .app (.v 11) (.cons (.o1 .agg (.cons (.str [85, 112]) (.cons (.int 0) (.cons (.bool false) (.cons (.bool false) (.cons (.bool false) .nil)))))) .nil))]))
                            (.ret (.v 11))))))))))))))))
set_option maxRecDepth 100000 in
theorem qe9 : za4 cx_display_Keys 4 sg_display_Keys Tryd.f28 (Tryd.f28.body.getD .skip) = tr_display_Keys := by kernel_rfl
theorem qfs {Γ : CEnv} (hg : ∀ n, Γ.glob n = globT n) (hs : ∀ s ∈ cx_display_Keys.sigs, Contract Tryd.prog Γ gtabU s (Γ.pre s.no) (Γ.post s.no)) : CxOk cx_display_Keys Γ := ⟨by kernel_rfl, hs, (fun x hx => by
  simp only [cx_display_Keys, List.mem_cons, List.not_mem_nil, or_false] at hx
  rcases hx with rfl
  · exact ⟨Tryd.func52, by kernel_rfl⟩), (fun x hx => by cases hx)⟩
theorem contract_display_Keys {Γ : CEnv} (hg : ∀ n, Γ.glob n = globT n) (hs : ∀ s ∈ cx_display_Keys.sigs, Contract Tryd.prog Γ gtabU s (Γ.pre s.no) (Γ.post s.no)) (k : Nat) {pre : List TV → Prop} {post : List TV → TV → Prop} (h : ∀ ts, ts.length = 3 → pre ts → tr_display_Keys.den Γ (post ts) ts []) : Contract Tryd.prog Γ gtabU (qcm k) pre post :=
  Contract.renum (zas (qfs hg hs) 4 sg_display_Keys Tryd.func28 (by kernel_rfl) (by kernel_rfl) fun ts hl hp => by rw [qe9]; exact h ts hl hp) k
def sg_display_Follow : Sig := ⟨20, 0, [(true, [(.int .i64), (.int .i64), (.int .i64), .bool]), (true, [(.int .i64), (.int .i64), (.slice false [(.slice true [.str, .bool, (.int .i64)])]), (.int .i64), (.int .i64), .bool]), (true, [(.int .i64), .bool, .bool, (.int .i64), .bool, (.int .i64)])], [(true, [((.int .i64), none), ((.int .i64), none), ((.int .i64), none), (.bool, none)])]⟩
def qb5 (k : Nat) : Sig := ⟨sg_display_Follow.f, k, sg_display_Follow.args, sg_display_Follow.res⟩
def qfa : List (FuncId × Nat × Head) := []
def qe5 : List (FuncId × Nat × Nat × Plan) := [(20, 6, 10, (.op true 0 (.op true 1 (.op true 3 (.op true 4 (.op true 6 (.op true 7 (.op false 2 (.op false 5 (.op false 8 (.op true 9 .nil)))))))))))]
noncomputable def cx_display_Follow : Cx := ⟨Tryd.prog, gtabU, [qc9 0, qb4 1, qce 2], [], qfa, qe5, []⟩
def tr_display_Follow : Tree := (.call 1 [(.o1 .agg (.cons (.o1 (.proj 0) (.v 0)) (.cons (.o1 (.proj 1) (.v 0)) (.cons (.o1 (.proj 2) (.v 0)) (.cons (.o1 (.proj 3) (.v 0)) .nil))))), (.o1 .agg (.cons (.o1 (.proj 0) (.v 1)) (.cons (.o1 (.proj 1) (.v 1)) (.cons (.o1 (.proj 2) (.v 1)) (.cons (.o1 (.proj 3) (.v 1)) (.cons (.o1 (.proj 4) (.v 1)) (.cons (.o1 (.proj 5) (.v 1)) .nil)))))))]
  (.br (.o1 .no (.v 3))
    (.ret (.o1 .agg (.cons (.o1 (.proj 0) (.v 0)) (.cons (.o1 (.proj 1) (.v 0)) (.cons (.o1 (.proj 2) (.v 0)) (.cons (.o1 (.proj 3) (.v 0)) .nil))))))
    (.br (.o1 .no (.o1 (.proj 3) (.v 0)))
      (.call 0 [(.o1 .agg (.cons (.o1 (.proj 0) (.v 0)) (.cons (.o1 (.proj 1) (.v 0)) (.cons (.o1 (.proj 2) (.v 0)) (.cons (.o1 (.proj 3) (.v 0)) .nil))))), (.o1 .agg (.cons (.o1 (.proj 0) (.v 1)) (.cons (.o1 (.proj 1) (.v 1)) (.cons (.o1 (.proj 2) (.v 1)) (.cons (.o1 (.proj 3) (.v 1)) (.cons (.o1 (.proj 4) (.v 1)) (.cons (.o1 (.proj 5) (.v 1)) .nil))))))), (.o1 .agg (.cons (.o1 (.proj 0) (.v 2)) (.cons (.o1 (.proj 1) (.v 2)) (.cons (.o1 (.proj 2) (.v 2)) (.cons (.o1 (.proj 3) (.v 2)) (.cons (.o1 (.proj 4) (.v 2)) (.cons (.o1 (.proj 5) (.v 2)) .nil))))))), (.int 0)]
        (.ret (.o1 .agg (.cons (.o1 (.proj 0) (.v 4)) (.cons (.o1 (.proj 1) (.v 4)) (.cons (.o1 (.proj 2) (.v 4)) (.cons (.o1 (.proj 3) (.v 4)) .nil)))))))
      (.call 2 [(.o1 .agg (.cons (.o1 (.proj 0) (.v 1)) (.cons (.o1 (.proj 1) (.v 1)) (.cons (.o1 (.proj 2) (.v 1)) (.cons (.o1 (.proj 3) (.v 1)) (.cons (.o1 (.proj 4) (.v 1)) (.cons (.o1 (.proj 5) (.v 1)) .nil))))))), (.o1 .agg (.cons (.o1 (.proj 0) (.v 2)) (.cons (.o1 (.proj 1) (.v 2)) (.cons (.o1 (.proj 2) (.v 2)) (.cons (.o1 (.proj 3) (.v 2)) (.cons (.o1 (.proj 4) (.v 2)) (.cons (.o1 (.proj 5) (.v 2)) .nil)))))))]
        (.req (.o1 .no (.o2 .eqi (.o1 (.proj 0) (.v 0)) (.int 0))) (.ret (.o1 .agg (.cons (.o1 (.proj 0) (.v 0)) (.cons (.o1 (.proj 3) (.v 1)) (.cons (.o2 (.mul .i64) (.o2 (.quo .i64) (.v 4) (.o1 (.proj 0) (.v 0))) (.o1 (.proj 0) (.v 0))) (.cons (.o1 (.proj 3) (.v 0)) .nil)))))))))))
set_option maxRecDepth 100000 in
theorem qer : za4 cx_display_Follow 4 sg_display_Follow Tryd.f20 (Tryd.f20.body.getD .skip) = tr_display_Follow := by kernel_rfl
theorem qei {Γ : CEnv} (hg : ∀ n, Γ.glob n = globT n) (hs : ∀ s ∈ cx_display_Follow.sigs, Contract Tryd.prog Γ gtabU s (Γ.pre s.no) (Γ.post s.no)) : CxOk cx_display_Follow Γ := ⟨by kernel_rfl, hs, (fun x hx => by cases hx), (fun x hx => by cases hx)⟩
theorem contract_display_Follow {Γ : CEnv} (hg : ∀ n, Γ.glob n = globT n) (hs : ∀ s ∈ cx_display_Follow.sigs, Contract Tryd.prog Γ gtabU s (Γ.pre s.no) (Γ.post s.no)) (k : Nat) {pre : List TV → Prop} {post : List TV → TV → Prop} (h : ∀ ts, ts.length = 3 → pre ts → tr_display_Follow.den Γ (post ts) ts []) : Contract Tryd.prog Γ gtabU (qb5 k) pre post :=
  Contract.renum (zas (qei hg hs) 4 sg_display_Follow Tryd.func20 (by kernel_rfl) (by kernel_rfl) fun ts hl hp => by rw [qer]; exact h ts hl hp) k
def sg_ref54_repeat : Sig := ⟨53, 0, [(false, [.str]), (false, [(.int .i64)])], [(false, [((.slice true [.str, (.int .i32), .bool, .bool, .bool]), some 64)])]⟩
def qdo (k : Nat) : Sig := ⟨sg_ref54_repeat.f, k, sg_ref54_repeat.args, sg_ref54_repeat.res⟩
def qhm : List (FuncId × Nat × Head) := [(53, 3, ⟨[0, 1, 5, 6], [.slot 5 true 64 true [.str, (.int .i32), .bool, .bool, .bool]], [6], [0], [], []⟩)]
def qhn : List (FuncId × Nat × Nat × Plan) := []
noncomputable def cx_ref54_repeat : Cx := ⟨Tryd.prog, gtabU, [], [], qhm, qhn, []⟩
def tr_ref54_repeat : Tree := (.loop [(.int 0), .nil]
  (.br (.o2 .lti (.v 2) (.v 1))
    (.req (.o2 .lei (.o1 .len (.o2 .app (.v 3) (.cons (.o1 .agg (.cons (.v 0) (.cons (.int 0) (.cons (.bool false) (.cons (.bool false) (.cons (.bool false) .nil)))))) .nil))) (.int 1099511627776)) (.back 0 [(.o2 (.add .i64) (.v 2) (.int 1)), (.o2 .app (.v 3) (.cons (.o1 .agg (.cons (.v 0) (.cons (.int 0) (.cons (.bool false) (.cons (.bool false) (.cons (.bool false) .nil)))))) .nil))]))
    (.ret (.v 3))))
set_option maxRecDepth 100000 in
theorem qe6 : za4 cx_ref54_repeat 4 sg_ref54_repeat Tryd.f53 (Tryd.f53.body.getD .skip) = tr_ref54_repeat := by kernel_rfl
theorem qfg {Γ : CEnv} (hg : ∀ n, Γ.glob n = globT n) (hs : ∀ s ∈ cx_ref54_repeat.sigs, Contract Tryd.prog Γ gtabU s (Γ.pre s.no) (Γ.post s.no)) : CxOk cx_ref54_repeat Γ := ⟨by kernel_rfl, hs, (fun x hx => by cases hx), (fun x hx => by cases hx)⟩
theorem contract_ref54_repeat {Γ : CEnv} (hg : ∀ n, Γ.glob n = globT n) (hs : ∀ s ∈ cx_ref54_repeat.sigs, Contract Tryd.prog Γ gtabU s (Γ.pre s.no) (Γ.post s.no)) (k : Nat) {pre : List TV → Prop} {post : List TV → TV → Prop} (h : ∀ ts, ts.length = 2 → pre ts → tr_ref54_repeat.den Γ (post ts) ts []) : Contract Tryd.prog Γ gtabU (qdo k) pre post :=
  Contract.renum (zas (qfg hg hs) 4 sg_ref54_repeat Tryd.func53 (by kernel_rfl) (by kernel_rfl) fun ts hl hp => by rw [qe6]; exact h ts hl hp) k
def sg_ref54_Keys : Sig := ⟨29, 0, [(true, [(.int .i64), (.int .i64), (.slice false [(.slice true [.str, .bool, (.int .i64)])]), (.int .i64), (.int .i64), .bool]), (false, [(.int .i64)]), (false, [(.int .i64)])], [(false, [((.slice true [.str, (.int .i32), .bool, .bool, .bool]), some 64)])]⟩
def qe3 (k : Nat) : Sig := ⟨sg_ref54_Keys.f, k, sg_ref54_Keys.args, sg_ref54_Keys.res⟩
def hd_ref54_Keys : List (FuncId × Nat × Head) := []
def pl_ref54_Keys : List (FuncId × Nat × Nat × Plan) := [(29, 3, 10, (.op true 0 (.op true 1 (.op true 2 (.op true 3 (.op true 5 (.op true 6 (.op true 7 (.op true 8 (.op false 4 (.op false 9 .nil)))))))))))]
noncomputable def cx_ref54_Keys : Cx := ⟨Tryd.prog, gtabU, [qb7 0, qdo 1], [], hd_ref54_Keys, pl_ref54_Keys, []⟩
def tr_ref54_Keys : Tree := (.call 0 [(.o1 .agg (.cons (.o1 (.proj 0) (.v 0)) (.cons (.o1 (.proj 1) (.v 0)) (.cons (.o1 (.proj 2) (.v 0)) (.cons (.o1 (.proj 3) (.v 0)) (.cons (.o1 (.proj 4) (.v 0)) (.cons (.o1 (.proj 5) (.v 0)) .nil)))))))]
  (.br (.o1 .no (.o2 .eqi (.v 3) (.int 0)))
    (.ret .nil)
    (.br (.o2 .lti (.v 1) (.int 0))
      (.ret .nil)
      (.br (.o2 .lei (.o1 (.proj 1) (.v 0)) (.v 1))
        (.ret .nil)
        (.br (.o2 .lti (.v 2) (.int 0))
          (.ret .nil)
          (.br (.o2 .lei (.o1 (.proj 0) (.v 0)) (.v 2))
            (.ret .nil)
            (.call 1 [(.str [82, 105, 103, 104, 116]), (.o2 (.sub .i64) (.v 2) (.o1 (.proj 4) (.v 0)))]
              (.call 1 [(.str [76, 101, 102, 116]), (.o2 (.sub .i64) (.o1 (.proj 4) (.v 0)) (.v 2))]
                (.req (.o2 .lei (.o1 .len (.o2 .app (.v 4) (.v 5))) (.int 1099511627776)) (.call 1 [(.str [68, 111, 119, 110]), (.o2 (.sub .i64) (.v 1) (.o1 (.proj 3) (.v 0)))]
                  (.req (.o2 .lei (.o1 .len (.o2 .app (.o2 .app (.v 4) (.v 5)) (.v 6))) (.int 1099511627776)) (.call 1 [(.str [85, 112]), (.o2 (.sub .i64) (.o1 (.proj 3) (.v 0)) (.v 1))]
                    (.req (.o2 .lei (.o1 .len (.o2 .app (.o2 .app (.o2 .app (.v 4) (.v 5)) (.v 6)) (.v 7))) (.int 1099511627776)) (.ret (.o2 .app (.o2 .app (.o2 .app (.v 4) (.v 5)) (.v 6)) (.v 7))))))))))))))))
set_option maxRecDepth 100000 in
theorem qhr : za4 cx_ref54_Keys 4 sg_ref54_Keys Tryd.f29 (Tryd.f29.body.getD .skip) = tr_ref54_Keys := by kernel_rfl
theorem qg3 {Γ : CEnv} (hg : ∀ n, Γ.glob n = globT n) (hs : ∀ s ∈ cx_ref54_Keys.sigs, Contract Tryd.prog Γ gtabU s (Γ.pre s.no) (Γ.post s.no)) : CxOk cx_ref54_Keys Γ := ⟨by kernel_rfl, hs, (fun x hx => by cases hx), (fun x hx => by cases hx)⟩
theorem contract_ref54_Keys {Γ : CEnv} (hg : ∀ n, Γ.glob n = globT n) (hs : ∀ s ∈ cx_ref54_Keys.sigs, Contract Tryd.prog Γ gtabU s (Γ.pre s.no) (Γ.post s.no)) (k : Nat) {pre : List TV → Prop} {post : List TV → TV → Prop} (h : ∀ ts, ts.length = 3 → pre ts → tr_ref54_Keys.den Γ (post ts) ts []) : Contract Tryd.prog Γ gtabU (qe3 k) pre post :=
  Contract.renum (zas (qg3 hg hs) 4 sg_ref54_Keys Tryd.func29 (by kernel_rfl) (by kernel_rfl) fun ts hl hp => by rw [qhr]; exact h ts hl hp) k
def sg_ref54_SameKeys : Sig := ⟨27, 0, [(false, [(.slice true [.str, (.int .i32), .bool, .bool, .bool])]), (false, [(.slice true [.str, (.int .i32), .bool, .bool, .bool])])], [(false, [(.bool, none)])]⟩
def qcv (k : Nat) : Sig := ⟨sg_ref54_SameKeys.f, k, sg_ref54_SameKeys.args, sg_ref54_SameKeys.res⟩
def qfu : List (FuncId × Nat × Head) := [(27, 4, ⟨[0, 1, 5], [], [5], [], [], []⟩)]
def qfh : List (FuncId × Nat × Nat × Plan) := [(27, 6, 9, (.op true 0 (.op true 1 (.op true 2 (.op true 3 (.op true 4 (.op true 5 (.op true 6 (.op true 7 (.op true 8 .nil))))))))))]
noncomputable def cx_ref54_SameKeys : Cx := ⟨Tryd.prog, gtabU, [], [], qfu, qfh, []⟩
def tr_ref54_SameKeys : Tree := (.br (.o1 .no (.o2 .eqi (.o1 .len (.v 0)) (.o1 .len (.v 1))))
  (.ret (.bool false))
  (.loop [(.int 0)]
    (.br (.o2 .lti (.v 2) (.o1 .len (.v 0)))
      (.req (.o2 .lei (.int 0) (.v 2)) (.req (.o2 .lti (.v 2) (.o1 .len (.v 0))) (.req (.o2 .lei (.int 0) (.v 2)) (.req (.o2 .lti (.v 2) (.o1 .len (.v 1))) (.br (.o1 .no (.o3 .ite (.o2 .eqs (.o1 (.proj 0) (.o2 .idx (.v 0) (.v 2))) (.o1 (.proj 0) (.o2 .idx (.v 1) (.v 2)))) (.o3 .ite (.o2 .eqi (.o1 (.proj 1) (.o2 .idx (.v 0) (.v 2))) (.o1 (.proj 1) (.o2 .idx (.v 1) (.v 2)))) (.o3 .ite (.o2 .eqb (.o1 (.proj 2) (.o2 .idx (.v 0) (.v 2))) (.o1 (.proj 2) (.o2 .idx (.v 1) (.v 2)))) (.o3 .ite (.o2 .eqb (.o1 (.proj 3) (.o2 .idx (.v 0) (.v 2))) (.o1 (.proj 3) (.o2 .idx (.v 1) (.v 2)))) (.o3 .ite (.o2 .eqb (.o1 (.proj 4) (.o2 .idx (.v 0) (.v 2))) (.o1 (.proj 4) (.o2 .idx (.v 1) (.v 2)))) (.bool true) (.bool false)) (.bool false)) (.bool false)) (.bool false)) (.bool false)))
        (.ret (.bool false))
        (.back 0 [(.o2 (.add .i64) (.v 2) (.int 1))]))))))
      (.ret (.bool true)))))
set_option maxRecDepth 100000 in
theorem qel : za4 cx_ref54_SameKeys 4 sg_ref54_SameKeys Tryd.f27 (Tryd.f27.body.getD .skip) = tr_ref54_SameKeys := by kernel_rfl
theorem qed {Γ : CEnv} (hg : ∀ n, Γ.glob n = globT n) (hs : ∀ s ∈ cx_ref54_SameKeys.sigs, Contract Tryd.prog Γ gtabU s (Γ.pre s.no) (Γ.post s.no)) : CxOk cx_ref54_SameKeys Γ := ⟨by kernel_rfl, hs, (fun x hx => by cases hx), (fun x hx => by cases hx)⟩
theorem contract_ref54_SameKeys {Γ : CEnv} (hg : ∀ n, Γ.glob n = globT n) (hs : ∀ s ∈ cx_ref54_SameKeys.sigs, Contract Tryd.prog Γ gtabU s (Γ.pre s.no) (Γ.post s.no)) (k : Nat) {pre : List TV → Prop} {post : List TV → TV → Prop} (h : ∀ ts, ts.length = 2 → pre ts → tr_ref54_SameKeys.den Γ (post ts) ts []) : Contract Tryd.prog Γ gtabU (qcv k) pre post :=
  Contract.renum (zas (qed hg hs) 4 sg_ref54_SameKeys Tryd.func27 (by kernel_rfl) (by kernel_rfl) fun ts hl hp => by rw [qel]; exact h ts hl hp) k
def sg_cursor_Check : Sig := ⟨78, 0, [(true, [(.int .i64), (.int .i64), (.int .i64), (.int .i64), .bool])], [(false, [((.int .i64), none)])]⟩
def qcn (k : Nat) : Sig := ⟨sg_cursor_Check.f, k, sg_cursor_Check.args, sg_cursor_Check.res⟩
def qg6 : List (FuncId × Nat × Head) := []
def qgy : List (FuncId × Nat × Nat × Plan) := []
noncomputable def cx_cursor_Check : Cx := ⟨Tryd.prog, gtabU, [], [], qg6, qgy, []⟩
def tr_cursor_Check : Tree := (.br (.o2 .lti (.o1 (.proj 0) (.v 0)) (.int 1))
  (.ret (.int 2))
  (.br (.o2 .lti (.int 132) (.o1 (.proj 0) (.v 0)))
    (.ret (.int 2))
    (.br (.o2 .lti (.o1 (.proj 1) (.v 0)) (.int 1))
      (.ret (.int 2))
      (.br (.o2 .lti (.int 60) (.o1 (.proj 1) (.v 0)))
        (.ret (.int 2))
        (.br (.o2 .lti (.o1 (.proj 2) (.v 0)) (.int 0))
          (.ret (.int 2))
          (.br (.o2 .lei (.o1 (.proj 3) (.v 0)) (.o1 (.proj 2) (.v 0)))
            (.ret (.int 2))
            (.br (.o2 .lti (.o1 (.proj 1) (.v 0)) (.o1 (.proj 3) (.v 0)))
              (.ret (.int 2))
              (.ret (.int 0)))))))))
set_option maxRecDepth 100000 in
theorem qfn : za4 cx_cursor_Check 4 sg_cursor_Check Tryd.f78 (Tryd.f78.body.getD .skip) = tr_cursor_Check := by kernel_rfl
theorem qfc {Γ : CEnv} (hg : ∀ n, Γ.glob n = globT n) (hs : ∀ s ∈ cx_cursor_Check.sigs, Contract Tryd.prog Γ gtabU s (Γ.pre s.no) (Γ.post s.no)) : CxOk cx_cursor_Check Γ := ⟨by kernel_rfl, hs, (fun x hx => by cases hx), (fun x hx => by cases hx)⟩
theorem contract_cursor_Check {Γ : CEnv} (hg : ∀ n, Γ.glob n = globT n) (hs : ∀ s ∈ cx_cursor_Check.sigs, Contract Tryd.prog Γ gtabU s (Γ.pre s.no) (Γ.post s.no)) (k : Nat) {pre : List TV → Prop} {post : List TV → TV → Prop} (h : ∀ ts, ts.length = 1 → pre ts → tr_cursor_Check.den Γ (post ts) ts []) : Contract Tryd.prog Γ gtabU (qcn k) pre post :=
  Contract.renum (zas (qfc hg hs) 4 sg_cursor_Check Tryd.func78 (by kernel_rfl) (by kernel_rfl) fun ts hl hp => by rw [qfn]; exact h ts hl hp) k
def sg_cursor_limit : Sig := ⟨80, 0, [(false, [(.int .i64)]), (false, [(.int .i64)]), (false, [(.int .i64)])], [(false, [((.int .i64), none)])]⟩
def qcb (k : Nat) : Sig := ⟨sg_cursor_limit.f, k, sg_cursor_limit.args, sg_cursor_limit.res⟩
def qht : List (FuncId × Nat × Head) := []
def qgu : List (FuncId × Nat × Nat × Plan) := []
noncomputable def cx_cursor_limit : Cx := ⟨Tryd.prog, gtabU, [], [], qht, qgu, []⟩
def tr_cursor_limit : Tree := (.ret (.o2 .max (.v 1) (.o2 .min (.v 0) (.v 2))))
set_option maxRecDepth 100000 in
theorem qfj : za4 cx_cursor_limit 4 sg_cursor_limit Tryd.f80 (Tryd.f80.body.getD .skip) = tr_cursor_limit := by kernel_rfl
theorem qff {Γ : CEnv} (hg : ∀ n, Γ.glob n = globT n) (hs : ∀ s ∈ cx_cursor_limit.sigs, Contract Tryd.prog Γ gtabU s (Γ.pre s.no) (Γ.post s.no)) : CxOk cx_cursor_limit Γ := ⟨by kernel_rfl, hs, (fun x hx => by cases hx), (fun x hx => by cases hx)⟩
theorem contract_cursor_limit {Γ : CEnv} (hg : ∀ n, Γ.glob n = globT n) (hs : ∀ s ∈ cx_cursor_limit.sigs, Contract Tryd.prog Γ gtabU s (Γ.pre s.no) (Γ.post s.no)) (k : Nat) {pre : List TV → Prop} {post : List TV → TV → Prop} (h : ∀ ts, ts.length = 3 → pre ts → tr_cursor_limit.den Γ (post ts) ts []) : Contract Tryd.prog Γ gtabU (qcb k) pre post :=
  Contract.renum (zas (qff hg hs) 4 sg_cursor_limit Tryd.func80 (by kernel_rfl) (by kernel_rfl) fun ts hl hp => by rw [qfj]; exact h ts hl hp) k
def sg_cursor_inside : Sig := ⟨79, 0, [(true, [(.int .i64), (.int .i64), .bool]), (true, [(.int .i64), (.int .i64), (.int .i64), (.int .i64), .bool])], [(true, [((.int .i64), none), ((.int .i64), none), (.bool, none)])]⟩
def qch (k : Nat) : Sig := ⟨sg_cursor_inside.f, k, sg_cursor_inside.args, sg_cursor_inside.res⟩
def qf3 : List (FuncId × Nat × Head) := []
def qgg : List (FuncId × Nat × Nat × Plan) := [(79, 1, 15, (.op true 0 (.op true 1 (.op true 2 (.op true 3 (.op true 4 (.op true 6 (.op true 7 (.op true 8 (.op true 9 (.op true 10 (.op true 12 (.op true 13 (.op false 5 (.op false 11 (.op false 14 .nil))))))))))))))))]
noncomputable def cx_cursor_inside : Cx := ⟨Tryd.prog, gtabU, [qcb 0], [], qf3, qgg, []⟩
def tr_cursor_inside : Tree := (.call 0 [(.o1 (.proj 0) (.v 0)), (.int 0), (.o2 (.sub .i64) (.o1 (.proj 1) (.v 1)) (.int 1))]
  (.call 0 [(.o1 (.proj 1) (.v 0)), (.int 0), (.o2 (.sub .i64) (.o1 (.proj 0) (.v 1)) (.int 1))]
    (.ret (.o1 .agg (.cons (.v 2) (.cons (.v 3) (.cons (.o1 (.proj 2) (.v 0)) .nil)))))))
set_option maxRecDepth 100000 in
theorem qe4 : za4 cx_cursor_inside 4 sg_cursor_inside Tryd.f79 (Tryd.f79.body.getD .skip) = tr_cursor_inside := by kernel_rfl
theorem qey {Γ : CEnv} (hg : ∀ n, Γ.glob n = globT n) (hs : ∀ s ∈ cx_cursor_inside.sigs, Contract Tryd.prog Γ gtabU s (Γ.pre s.no) (Γ.post s.no)) : CxOk cx_cursor_inside Γ := ⟨by kernel_rfl, hs, (fun x hx => by cases hx), (fun x hx => by cases hx)⟩
theorem contract_cursor_inside {Γ : CEnv} (hg : ∀ n, Γ.glob n = globT n) (hs : ∀ s ∈ cx_cursor_inside.sigs, Contract Tryd.prog Γ gtabU s (Γ.pre s.no) (Γ.post s.no)) (k : Nat) {pre : List TV → Prop} {post : List TV → TV → Prop} (h : ∀ ts, ts.length = 2 → pre ts → tr_cursor_inside.den Γ (post ts) ts []) : Contract Tryd.prog Γ gtabU (qch k) pre post :=
  Contract.renum (zas (qey hg hs) 4 sg_cursor_inside Tryd.func79 (by kernel_rfl) (by kernel_rfl) fun ts hl hp => by rw [qe4]; exact h ts hl hp) k
def sg_cursor_region : Sig := ⟨57, 0, [(false, [(.int .i64)]), (true, [(.int .i64), (.int .i64), (.int .i64), (.int .i64), .bool])], [(false, [(.bool, none)])]⟩
def qc8 (k : Nat) : Sig := ⟨sg_cursor_region.f, k, sg_cursor_region.args, sg_cursor_region.res⟩
def qgj : List (FuncId × Nat × Head) := []
def qgl : List (FuncId × Nat × Nat × Plan) := []
noncomputable def cx_cursor_region : Cx := ⟨Tryd.prog, gtabU, [], [], qgj, qgl, []⟩
def tr_cursor_region : Tree := (.br (.o2 .lei (.o1 (.proj 2) (.v 1)) (.v 0))
  (.ret (.o2 .lti (.v 0) (.o1 (.proj 3) (.v 1))))
  (.ret (.bool false)))
set_option maxRecDepth 100000 in
theorem qeu : za4 cx_cursor_region 4 sg_cursor_region Tryd.f57 (Tryd.f57.body.getD .skip) = tr_cursor_region := by kernel_rfl
theorem qe1 {Γ : CEnv} (hg : ∀ n, Γ.glob n = globT n) (hs : ∀ s ∈ cx_cursor_region.sigs, Contract Tryd.prog Γ gtabU s (Γ.pre s.no) (Γ.post s.no)) : CxOk cx_cursor_region Γ := ⟨by kernel_rfl, hs, (fun x hx => by cases hx), (fun x hx => by cases hx)⟩
theorem contract_cursor_region {Γ : CEnv} (hg : ∀ n, Γ.glob n = globT n) (hs : ∀ s ∈ cx_cursor_region.sigs, Contract Tryd.prog Γ gtabU s (Γ.pre s.no) (Γ.post s.no)) (k : Nat) {pre : List TV → Prop} {post : List TV → TV → Prop} (h : ∀ ts, ts.length = 2 → pre ts → tr_cursor_region.den Γ (post ts) ts []) : Contract Tryd.prog Γ gtabU (qc8 k) pre post :=
  Contract.renum (zas (qe1 hg hs) 4 sg_cursor_region Tryd.func57 (by kernel_rfl) (by kernel_rfl) fun ts hl hp => by rw [qeu]; exact h ts hl hp) k
def sg_cursor_Right : Sig := ⟨30, 0, [(true, [(.int .i64), (.int .i64), .bool]), (false, [(.int .i64)]), (true, [(.int .i64), (.int .i64), (.int .i64), (.int .i64), .bool])], [(true, [((.int .i64), none), ((.int .i64), none), (.bool, none)])]⟩
def qdj (k : Nat) : Sig := ⟨sg_cursor_Right.f, k, sg_cursor_Right.args, sg_cursor_Right.res⟩
def qgw : List (FuncId × Nat × Head) := []
def qhl : List (FuncId × Nat × Nat × Plan) := [(55, 0, 16, (.op true 0 (.op true 1 (.op true 2 (.op true 3 (.op true 4 (.op true 5 (.op true 6 (.op true 7 (.op true 10 (.op true 11 (.op true 12 (.op false 8 (.op false 9 (.op false 13 (.op true 14 (.op true 15 .nil)))))))))))))))))]
noncomputable def cx_cursor_Right : Cx := ⟨Tryd.prog, gtabU, [qcn 0, qcb 1, qch 2], [(54, Tryd.f54), (55, Tryd.f55)], qgw, qhl, []⟩
def tr_cursor_Right : Tree := (.call 0 [(.o1 .agg (.cons (.o1 (.proj 0) (.v 2)) (.cons (.o1 (.proj 1) (.v 2)) (.cons (.o1 (.proj 2) (.v 2)) (.cons (.o1 (.proj 3) (.v 2)) (.cons (.o1 (.proj 4) (.v 2)) .nil))))))]
  (.br (.o1 .no (.o2 .eqi (.v 3) (.int 0)))
    (.ret (.o1 .agg (.cons (.int 0) (.cons (.int 0) (.cons (.bool false) .nil)))))
    (.call 2 [(.o1 .agg (.cons (.o1 (.proj 0) (.v 0)) (.cons (.o1 (.proj 1) (.v 0)) (.cons (.o1 (.proj 2) (.v 0)) .nil)))), (.o1 .agg (.cons (.o1 (.proj 0) (.v 2)) (.cons (.o1 (.proj 1) (.v 2)) (.cons (.o1 (.proj 2) (.v 2)) (.cons (.o1 (.proj 3) (.v 2)) (.cons (.o1 (.proj 4) (.v 2)) .nil))))))]
      (.call 1 [(.v 1), (.int (-1000)), (.int 1000)]
        (.call 1 [(.o2 (.add .i64) (.o1 (.proj 1) (.v 4)) (.v 5)), (.int 0), (.o2 (.sub .i64) (.o1 (.proj 0) (.v 2)) (.int 1))]
          (.ret (.o1 .agg (.cons (.o1 (.proj 0) (.v 4)) (.cons (.v 6) (.cons (.bool false) .nil))))))))))
set_option maxRecDepth 100000 in
theorem qfo : za4 cx_cursor_Right 4 sg_cursor_Right Tryd.f30 (Tryd.f30.body.getD .skip) = tr_cursor_Right := by kernel_rfl
theorem qfk {Γ : CEnv} (hg : ∀ n, Γ.glob n = globT n) (hs : ∀ s ∈ cx_cursor_Right.sigs, Contract Tryd.prog Γ gtabU s (Γ.pre s.no) (Γ.post s.no)) : CxOk cx_cursor_Right Γ := ⟨by kernel_rfl, hs, (fun x hx => by
  simp only [cx_cursor_Right, List.mem_cons, List.not_mem_nil, or_false] at hx
  rcases hx with rfl | rfl
  · exact ⟨Tryd.func54, by kernel_rfl⟩
  · exact ⟨Tryd.func55, by kernel_rfl⟩), (fun x hx => by cases hx)⟩
theorem contract_cursor_Right {Γ : CEnv} (hg : ∀ n, Γ.glob n = globT n) (hs : ∀ s ∈ cx_cursor_Right.sigs, Contract Tryd.prog Γ gtabU s (Γ.pre s.no) (Γ.post s.no)) (k : Nat) {pre : List TV → Prop} {post : List TV → TV → Prop} (h : ∀ ts, ts.length = 3 → pre ts → tr_cursor_Right.den Γ (post ts) ts []) : Contract Tryd.prog Γ gtabU (qdj k) pre post :=
  Contract.renum (zas (qfk hg hs) 4 sg_cursor_Right Tryd.func30 (by kernel_rfl) (by kernel_rfl) fun ts hl hp => by rw [qfo]; exact h ts hl hp) k
def sg_cursor_Up : Sig := ⟨31, 0, [(true, [(.int .i64), (.int .i64), .bool]), (false, [(.int .i64)]), (true, [(.int .i64), (.int .i64), (.int .i64), (.int .i64), .bool])], [(true, [((.int .i64), none), ((.int .i64), none), (.bool, none)])]⟩
def qfy (k : Nat) : Sig := ⟨sg_cursor_Up.f, k, sg_cursor_Up.args, sg_cursor_Up.res⟩
def hd_cursor_Up : List (FuncId × Nat × Head) := []
def pl_cursor_Up : List (FuncId × Nat × Nat × Plan) := [(56, 0, 5, (.op true 0 (.op true 1 (.op true 2 (.op true 3 (.op true 4 .nil)))))), (56, 1, 6, (.op true 0 (.op true 1 (.op true 2 (.op true 3 (.op true 4 (.op false 5 .nil))))))), (56, 2, 7, (.op true 0 (.op true 1 (.op true 2 (.op true 3 (.op true 4 (.op true 5 (.op true 6 .nil)))))))), (56, 3, 15, (.op true 0 (.op true 1 (.op true 2 (.op true 3 (.op true 4 (.op true 5 (.op true 6 (.op true 7 (.op true 10 (.op true 11 (.op false 8 (.op false 9 (.op false 12 (.op true 13 (.op true 14 .nil))))))))))))))))]
noncomputable def cx_cursor_Up : Cx := ⟨Tryd.prog, gtabU, [qcn 0, qcb 1, qch 2, qc8 3], [(54, Tryd.f54), (56, Tryd.f56)], hd_cursor_Up, pl_cursor_Up, []⟩
def tr_cursor_Up : Tree := (.call 0 [(.o1 .agg (.cons (.o1 (.proj 0) (.v 2)) (.cons (.o1 (.proj 1) (.v 2)) (.cons (.o1 (.proj 2) (.v 2)) (.cons (.o1 (.proj 3) (.v 2)) (.cons (.o1 (.proj 4) (.v 2)) .nil))))))]
  (.br (.o1 .no (.o2 .eqi (.v 3) (.int 0)))
    (.ret (.o1 .agg (.cons (.int 0) (.cons (.int 0) (.cons (.bool false) .nil)))))
    (.call 2 [(.o1 .agg (.cons (.o1 (.proj 0) (.v 0)) (.cons (.o1 (.proj 1) (.v 0)) (.cons (.o1 (.proj 2) (.v 0)) .nil)))), (.o1 .agg (.cons (.o1 (.proj 0) (.v 2)) (.cons (.o1 (.proj 1) (.v 2)) (.cons (.o1 (.proj 2) (.v 2)) (.cons (.o1 (.proj 3) (.v 2)) (.cons (.o1 (.proj 4) (.v 2)) .nil))))))]
      (.call 3 [(.o1 (.proj 0) (.v 4)), (.o1 .agg (.cons (.o1 (.proj 0) (.v 2)) (.cons (.o1 (.proj 1) (.v 2)) (.cons (.o1 (.proj 2) (.v 2)) (.cons (.o1 (.proj 3) (.v 2)) (.cons (.o1 (.proj 4) (.v 2)) .nil))))))]
        (.br (.v 5)
          (.call 1 [(.v 1), (.int (-1000)), (.int 1000)]
            (.call 1 [(.o2 (.sub .i64) (.o1 (.proj 0) (.v 4)) (.v 6)), (.o1 (.proj 2) (.v 2)), (.o2 (.sub .i64) (.o1 (.proj 3) (.v 2)) (.int 1))]
              (.ret (.o1 .agg (.cons (.v 7) (.cons (.o1 (.proj 1) (.v 4)) (.cons (.bool false) .nil)))))))
          (.call 1 [(.v 1), (.int (-1000)), (.int 1000)]
            (.call 1 [(.o2 (.sub .i64) (.o1 (.proj 0) (.v 4)) (.v 6)), (.int 0), (.o2 (.sub .i64) (.o1 (.proj 1) (.v 2)) (.int 1))]
              (.ret (.o1 .agg (.cons (.v 7) (.cons (.o1 (.proj 1) (.v 4)) (.cons (.bool false) .nil))))))))))))
set_option maxRecDepth 100000 in
theorem tree_cursor_Up : za4 cx_cursor_Up 4 sg_cursor_Up Tryd.f31 (Tryd.f31.body.getD .skip) = tr_cursor_Up := by kernel_rfl
theorem cxok_cursor_Up {Γ : CEnv} (hg : ∀ n, Γ.glob n = globT n) (hs : ∀ s ∈ cx_cursor_Up.sigs, Contract Tryd.prog Γ gtabU s (Γ.pre s.no) (Γ.post s.no)) : CxOk cx_cursor_Up Γ := ⟨by kernel_rfl, hs, (fun x hx => by
  simp only [cx_cursor_Up, List.mem_cons, List.not_mem_nil, or_false] at hx
  rcases hx with rfl | rfl
  · exact ⟨Tryd.func54, by kernel_rfl⟩
  · exact ⟨Tryd.func56, by kernel_rfl⟩), (fun x hx => by cases hx)⟩
theorem contract_cursor_Up {Γ : CEnv} (hg : ∀ n, Γ.glob n = globT n) (hs : ∀ s ∈ cx_cursor_Up.sigs, Contract Tryd.prog Γ gtabU s (Γ.pre s.no) (Γ.post s.no)) (k : Nat) {pre : List TV → Prop} {post : List TV → TV → Prop} (h : ∀ ts, ts.length = 3 → pre ts → tr_cursor_Up.den Γ (post ts) ts []) : Contract Tryd.prog Γ gtabU (qfy k) pre post :=
  Contract.renum (zas (cxok_cursor_Up hg hs) 4 sg_cursor_Up Tryd.func31 (by kernel_rfl) (by kernel_rfl) fun ts hl hp => by rw [tree_cursor_Up]; exact h ts hl hp) k
def sg_law54_awake : Sig := ⟨11, 0, [], [(false, [(.bool, none)])]⟩
def qb2 (k : Nat) : Sig := ⟨sg_law54_awake.f, k, sg_law54_awake.args, sg_law54_awake.res⟩
def hd_law54_awake : List (FuncId × Nat × Head) := []
def pl_law54_awake : List (FuncId × Nat × Nat × Plan) := [(11, 100003, 9, .nil), (11, 5, 9999, .nil)]
noncomputable def cx_law54_awake : Cx := ⟨Tryd.prog, gtabU, [qca 0, qcs 1, qb8 2, qb5 3], [], hd_law54_awake, pl_law54_awake, []⟩
def tr_law54_awake : Tree := (.req (.o2 .lei (.o1 .len (.cons (.o1 .agg (.cons (.o3 .ssub (.str [97, 98, 99, 100, 101, 102, 103, 104]) (.int 0) (.int 1)) (.cons (.bool false) (.cons (.int 0) .nil)))) .nil)) (.int 1099511627776)) (.req (.o2 .lei (.o1 .len (.o2 .app (.cons (.o1 .agg (.cons (.o3 .ssub (.str [97, 98, 99, 100, 101, 102, 103, 104]) (.int 0) (.int 1)) (.cons (.bool false) (.cons (.int 0) .nil)))) .nil) (.cons (.o1 .agg (.cons (.o3 .ssub (.str [97, 98, 99, 100, 101, 102, 103, 104]) (.int 1) (.int 2)) (.cons (.bool false) (.cons (.int 0) .nil)))) .nil))) (.int 1099511627776)) (.req (.o2 .lei (.o1 .len (.o2 .app (.o2 .app (.cons (.o1 .agg (.cons (.o3 .ssub (.str [97, 98, 99, 100, 101, 102, 103, 104]) (.int 0) (.int 1)) (.cons (.bool false) (.cons (.int 0) .nil)))) .nil) (.cons (.o1 .agg (.cons (.o3 .ssub (.str [97, 98, 99, 100, 101, 102, 103, 104]) (.int 1) (.int 2)) (.cons (.bool false) (.cons (.int 0) .nil)))) .nil)) (.cons (.o1 .agg (.cons (.o3 .ssub (.str [97, 98, 99, 100, 101, 102, 103, 104]) (.int 2) (.int 3)) (.cons (.bool false) (.cons (.int 0) .nil)))) .nil))) (.int 1099511627776)) (.req (.o2 .lei (.o1 .len (.o2 .app (.o2 .app (.o2 .app (.cons (.o1 .agg (.cons (.o3 .ssub (.str [97, 98, 99, 100, 101, 102, 103, 104]) (.int 0) (.int 1)) (.cons (.bool false) (.cons (.int 0) .nil)))) .nil) (.cons (.o1 .agg (.cons (.o3 .ssub (.str [97, 98, 99, 100, 101, 102, 103, 104]) (.int 1) (.int 2)) (.cons (.bool false) (.cons (.int 0) .nil)))) .nil)) (.cons (.o1 .agg (.cons (.o3 .ssub (.str [97, 98, 99, 100, 101, 102, 103, 104]) (.int 2) (.int 3)) (.cons (.bool false) (.cons (.int 0) .nil)))) .nil)) (.cons (.o1 .agg (.cons (.o3 .ssub (.str [97, 98, 99, 100, 101, 102, 103, 104]) (.int 3) (.int 4)) (.cons (.bool false) (.cons (.int 0) .nil)))) .nil))) (.int 1099511627776)) (.req (.o2 .lei (.o1 .len (.o2 .app (.o2 .app (.o2 .app (.o2 .app (.cons (.o1 .agg (.cons (.o3 .ssub (.str [97, 98, 99, 100, 101, 102, 103, 104]) (.int 0) (.int 1)) (.cons (.bool false) (.cons (.int 0) .nil)))) .nil) (.cons (.o1 .agg (.cons (.o3 .ssub (.str [97, 98, 99, 100, 101, 102, 103, 104]) (.int 1) (.int 2)) (.cons (.bool false) (.cons (.int 0) .nil)))) .nil)) (.cons (.o1 .agg (.cons (.o3 .ssub (.str [97, 98, 99, 100, 101, 102, 103, 104]) (.int 2) (.int 3)) (.cons (.bool false) (.cons (.int 0) .nil)))) .nil)) (.cons (.o1 .agg (.cons (.o3 .ssub (.str [97, 98, 99, 100, 101, 102, 103, 104]) (.int 3) (.int 4)) (.cons (.bool false) (.cons (.int 0) .nil)))) .nil)) (.cons (.o1 .agg (.cons (.o3 .ssub (.str [97, 98, 99, 100, 101, 102, 103, 104]) (.int 4) (.int 5)) (.cons (.bool false) (.cons (.int 0) .nil)))) .nil))) (.int 1099511627776)) (.req (.o2 .lei (.o1 .len (.o2 .app (.o2 .app (.o2 .app (.o2 .app (.o2 .app (.cons (.o1 .agg (.cons (.o3 .ssub (.str [97, 98, 99, 100, 101, 102, 103, 104]) (.int 0) (.int 1)) (.cons (.bool false) (.cons (.int 0) .nil)))) .nil) (.cons (.o1 .agg (.cons (.o3 .ssub (.str [97, 98, 99, 100, 101, 102, 103, 104]) (.int 1) (.int 2)) (.cons (.bool false) (.cons (.int 0) .nil)))) .nil)) (.cons (.o1 .agg (.cons (.o3 .ssub (.str [97, 98, 99, 100, 101, 102, 103, 104]) (.int 2) (.int 3)) (.cons (.bool false) (.cons (.int 0) .nil)))) .nil)) (.cons (.o1 .agg (.cons (.o3 .ssub (.str [97, 98, 99, 100, 101, 102, 103, 104]) (.int 3) (.int 4)) (.cons (.bool false) (.cons (.int 0) .nil)))) .nil)) (.cons (.o1 .agg (.cons (.o3 .ssub (.str [97, 98, 99, 100, 101, 102, 103, 104]) (.int 4) (.int 5)) (.cons (.bool false) (.cons (.int 0) .nil)))) .nil)) (.cons (.o1 .agg (.cons (.o3 .ssub (.str [97, 98, 99, 100, 101, 102, 103, 104]) (.int 5) (.int 6)) (.cons (.bool false) (.cons (.int 0) .nil)))) .nil))) (.int 1099511627776)) (.req (.o2 .lei (.o1 .len (.o2 .app (.o2 .app (.o2 .app (.o2 .app (.o2 .app (.o2 .app (.cons (.o1 .agg (.cons (.o3 .ssub (.str [97, 98, 99, 100, 101, 102, 103, 104]) (.int 0) (.int 1)) (.cons (.bool false) (.cons (.int 0) .nil)))) .nil) (.cons (.o1 .agg (.cons (.o3 .ssub (.str [97, 98, 99, 100, 101, 102, 103, 104]) (.int 1) (.int 2)) (.cons (.bool false) (.cons (.int 0) .nil)))) .nil)) (.cons (.o1 .agg (.cons (.o3 .ssub (.str [97, 98, 99, 100, 101, 102, 103, 104]) (.int 2) (.int 3)) (.cons (.bool false) (.cons (.int 0) .nil)))) .nil)) (.cons (.o1 .agg (.cons (.o3 .ssub (.str [97, 98, 99, 100, 101, 102, 103, 104]) (.int 3) (.int 4)) (.cons (.bool false) (.cons (.int 0) .nil)))) .nil)) (.cons (.o1 .agg (.cons (.o3 .ssub (.str [97, 98, 99, 100, 101, 102, 103, 104]) (.int 4) (.int 5)) (.cons (.bool false) (.cons (.int 0) .nil)))) .nil)) (.cons (.o1 .agg (.cons (.o3 .ssub (.str [97, 98, 99, 100, 101, 102, 103, 104]) (.int 5) (.int 6)) (.cons (.bool false) (.cons (.int 0) .nil)))) .nil)) (.cons (.o1 .agg (.cons (.o3 .ssub (.str [97, 98, 99, 100, 101, 102, 103, 104]) (.int 6) (.int 7)) (.cons (.bool false) (.cons (.int 0) .nil)))) .nil))) (.int 1099511627776)) (.req (.o2 .lei (.o1 .len (.o2 .app (.o2 .app (.o2 .app (.o2 .app (.o2 .app (.o2 .app (.o2 .app (.cons (.o1 .agg (.cons (.o3 .ssub (.str [97, 98, 99, 100, 101, 102, 103, 104]) (.int 0) (.int 1)) (.cons (.bool false) (.cons (.int 0) .nil)))) .nil) (.cons (.o1 .agg (.cons (.o3 .ssub (.str [97, 98, 99, 100, 101, 102, 103, 104]) (.int 1) (.int 2)) (.cons (.bool false) (.cons (.int 0) .nil)))) .nil)) (.cons (.o1 .agg (.cons (.o3 .ssub (.str [97, 98, 99, 100, 101, 102, 103, 104]) (.int 2) (.int 3)) (.cons (.bool false) (.cons (.int 0) .nil)))) .nil)) (.cons (.o1 .agg (.cons (.o3 .ssub (.str [97, 98, 99, 100, 101, 102, 103, 104]) (.int 3) (.int 4)) (.cons (.bool false) (.cons (.int 0) .nil)))) .nil)) (.cons (.o1 .agg (.cons (.o3 .ssub (.str [97, 98, 99, 100, 101, 102, 103, 104]) (.int 4) (.int 5)) (.cons (.bool false) (.cons (.int 0) .nil)))) .nil)) (.cons (.o1 .agg (.cons (.o3 .ssub (.str [97, 98, 99, 100, 101, 102, 103, 104]) (.int 5) (.int 6)) (.cons (.bool false) (.cons (.int 0) .nil)))) .nil)) (.cons (.o1 .agg (.cons (.o3 .ssub (.str [97, 98, 99, 100, 101, 102, 103, 104]) (.int 6) (.int 7)) (.cons (.bool false) (.cons (.int 0) .nil)))) .nil)) (.cons (.o1 .agg (.cons (.o3 .ssub (.str [97, 98, 99, 100, 101, 102, 103, 104]) (.int 7) (.int 8)) (.cons (.bool false) (.cons (.int 0) .nil)))) .nil))) (.int 1099511627776)) (.call 1 [(.int 4)]
  (.call 3 [(.o1 .agg (.cons (.o1 (.proj 0) (.o1 (.proj 0) (.v 0))) (.cons (.o1 (.proj 1) (.o1 (.proj 0) (.v 0))) (.cons (.o1 (.proj 2) (.o1 (.proj 0) (.v 0))) (.cons (.o1 (.proj 3) (.o1 (.proj 0) (.v 0))) .nil))))), (.o1 .agg (.cons (.int 10) (.cons (.int 1) (.cons (.cons (.o2 .app (.o2 .app (.o2 .app (.o2 .app (.o2 .app (.o2 .app (.o2 .app (.cons (.o1 .agg (.cons (.o3 .ssub (.str [97, 98, 99, 100, 101, 102, 103, 104]) (.int 0) (.int 1)) (.cons (.bool false) (.cons (.int 0) .nil)))) .nil) (.cons (.o1 .agg (.cons (.o3 .ssub (.str [97, 98, 99, 100, 101, 102, 103, 104]) (.int 1) (.int 2)) (.cons (.bool false) (.cons (.int 0) .nil)))) .nil)) (.cons (.o1 .agg (.cons (.o3 .ssub (.str [97, 98, 99, 100, 101, 102, 103, 104]) (.int 2) (.int 3)) (.cons (.bool false) (.cons (.int 0) .nil)))) .nil)) (.cons (.o1 .agg (.cons (.o3 .ssub (.str [97, 98, 99, 100, 101, 102, 103, 104]) (.int 3) (.int 4)) (.cons (.bool false) (.cons (.int 0) .nil)))) .nil)) (.cons (.o1 .agg (.cons (.o3 .ssub (.str [97, 98, 99, 100, 101, 102, 103, 104]) (.int 4) (.int 5)) (.cons (.bool false) (.cons (.int 0) .nil)))) .nil)) (.cons (.o1 .agg (.cons (.o3 .ssub (.str [97, 98, 99, 100, 101, 102, 103, 104]) (.int 5) (.int 6)) (.cons (.bool false) (.cons (.int 0) .nil)))) .nil)) (.cons (.o1 .agg (.cons (.o3 .ssub (.str [97, 98, 99, 100, 101, 102, 103, 104]) (.int 6) (.int 7)) (.cons (.bool false) (.cons (.int 0) .nil)))) .nil)) (.cons (.o1 .agg (.cons (.o3 .ssub (.str [97, 98, 99, 100, 101, 102, 103, 104]) (.int 7) (.int 8)) (.cons (.bool false) (.cons (.int 0) .nil)))) .nil)) .nil) (.cons (.int 0) (.cons (.int 5) (.cons (.bool true) .nil))))))), (.o1 .agg (.cons (.int 0) (.cons (.bool false) (.cons (.bool false) (.cons (.int 0) (.cons (.bool false) (.cons (.int 0) .nil)))))))]
    (.call 0 [(.o1 .agg (.cons (.o1 (.proj 0) (.v 1)) (.cons (.o1 (.proj 1) (.v 1)) (.cons (.o1 (.proj 2) (.v 1)) (.cons (.o1 (.proj 3) (.v 1)) .nil))))), (.o1 .agg (.cons (.int 10) (.cons (.int 1) (.cons (.cons (.o2 .app (.o2 .app (.o2 .app (.o2 .app (.o2 .app (.o2 .app (.o2 .app (.cons (.o1 .agg (.cons (.o3 .ssub (.str [97, 98, 99, 100, 101, 102, 103, 104]) (.int 0) (.int 1)) (.cons (.bool false) (.cons (.int 0) .nil)))) .nil) (.cons (.o1 .agg (.cons (.o3 .ssub (.str [97, 98, 99, 100, 101, 102, 103, 104]) (.int 1) (.int 2)) (.cons (.bool false) (.cons (.int 0) .nil)))) .nil)) (.cons (.o1 .agg (.cons (.o3 .ssub (.str [97, 98, 99, 100, 101, 102, 103, 104]) (.int 2) (.int 3)) (.cons (.bool false) (.cons (.int 0) .nil)))) .nil)) (.cons (.o1 .agg (.cons (.o3 .ssub (.str [97, 98, 99, 100, 101, 102, 103, 104]) (.int 3) (.int 4)) (.cons (.bool false) (.cons (.int 0) .nil)))) .nil)) (.cons (.o1 .agg (.cons (.o3 .ssub (.str [97, 98, 99, 100, 101, 102, 103, 104]) (.int 4) (.int 5)) (.cons (.bool false) (.cons (.int 0) .nil)))) .nil)) (.cons (.o1 .agg (.cons (.o3 .ssub (.str [97, 98, 99, 100, 101, 102, 103, 104]) (.int 5) (.int 6)) (.cons (.bool false) (.cons (.int 0) .nil)))) .nil)) (.cons (.o1 .agg (.cons (.o3 .ssub (.str [97, 98, 99, 100, 101, 102, 103, 104]) (.int 6) (.int 7)) (.cons (.bool false) (.cons (.int 0) .nil)))) .nil)) (.cons (.o1 .agg (.cons (.o3 .ssub (.str [97, 98, 99, 100, 101, 102, 103, 104]) (.int 7) (.int 8)) (.cons (.bool false) (.cons (.int 0) .nil)))) .nil)) .nil) (.cons (.int 0) (.cons (.int 5) (.cons (.bool true) .nil))))))), (.o1 .agg (.cons (.int 0) (.cons (.bool false) (.cons (.bool false) (.cons (.int 0) (.cons (.bool false) (.cons (.int 0) .nil)))))))]
      (.call 2 [(.o1 .agg (.cons (.o1 (.proj 0) (.v 1)) (.cons (.o1 (.proj 1) (.v 1)) (.cons (.o1 (.proj 2) (.v 1)) (.cons (.o1 (.proj 3) (.v 1)) .nil))))), (.o1 .agg (.cons (.int 10) (.cons (.int 1) (.cons (.cons (.o2 .app (.o2 .app (.o2 .app (.o2 .app (.o2 .app (.o2 .app (.o2 .app (.cons (.o1 .agg (.cons (.o3 .ssub (.str [97, 98, 99, 100, 101, 102, 103, 104]) (.int 0) (.int 1)) (.cons (.bool false) (.cons (.int 0) .nil)))) .nil) (.cons (.o1 .agg (.cons (.o3 .ssub (.str [97, 98, 99, 100, 101, 102, 103, 104]) (.int 1) (.int 2)) (.cons (.bool false) (.cons (.int 0) .nil)))) .nil)) (.cons (.o1 .agg (.cons (.o3 .ssub (.str [97, 98, 99, 100, 101, 102, 103, 104]) (.int 2) (.int 3)) (.cons (.bool false) (.cons (.int 0) .nil)))) .nil)) (.cons (.o1 .agg (.cons (.o3 .ssub (.str [97, 98, 99, 100, 101, 102, 103, 104]) (.int 3) (.int 4)) (.cons (.bool false) (.cons (.int 0) .nil)))) .nil)) (.cons (.o1 .agg (.cons (.o3 .ssub (.str [97, 98, 99, 100, 101, 102, 103, 104]) (.int 4) (.int 5)) (.cons (.bool false) (.cons (.int 0) .nil)))) .nil)) (.cons (.o1 .agg (.cons (.o3 .ssub (.str [97, 98, 99, 100, 101, 102, 103, 104]) (.int 5) (.int 6)) (.cons (.bool false) (.cons (.int 0) .nil)))) .nil)) (.cons (.o1 .agg (.cons (.o3 .ssub (.str [97, 98, 99, 100, 101, 102, 103, 104]) (.int 6) (.int 7)) (.cons (.bool false) (.cons (.int 0) .nil)))) .nil)) (.cons (.o1 .agg (.cons (.o3 .ssub (.str [97, 98, 99, 100, 101, 102, 103, 104]) (.int 7) (.int 8)) (.cons (.bool false) (.cons (.int 0) .nil)))) .nil)) .nil) (.cons (.int 0) (.cons (.int 5) (.cons (.bool true) .nil))))))), (.o1 .agg (.cons (.int 0) (.cons (.bool false) (.cons (.bool false) (.cons (.int 0) (.cons (.bool false) (.cons (.int 0) .nil))))))), (.int 3)]
        (.br (.o2 .eqi (.o1 (.proj 1) (.v 0)) (.int 0))
          (.br (.o2 .eqi (.o1 .len (.o1 (.proj 0) (.v 2))) (.int 4))
            (.br (.o2 .eqi (.o1 (.proj 1) (.v 2)) (.int 1))
              (.br (.o2 .eqi (.o1 (.proj 2) (.v 1)) (.int 4))
                (.br (.o2 .eqi (.o1 (.proj 0) (.v 3)) (.int 0))
                  (.br (.o2 .eqi (.o1 (.proj 1) (.v 3)) (.int 7))
                    (.ret (.o2 .eqi (.o1 (.proj 2) (.v 3)) (.int 0)))
                    (.ret (.bool false)))
                  (.ret (.bool false)))
                (.ret (.bool false)))
              (.ret (.bool false)))
            (.ret (.bool false)))
          (.ret (.bool false)))))))))))))))
set_option maxRecDepth 100000 in
theorem qgm : za4 cx_law54_awake 4 sg_law54_awake Tryd.f11 (Tryd.f11.body.getD .skip) = tr_law54_awake := by kernel_rfl
theorem qgi {Γ : CEnv} (hg : ∀ n, Γ.glob n = globT n) (hs : ∀ s ∈ cx_law54_awake.sigs, Contract Tryd.prog Γ gtabU s (Γ.pre s.no) (Γ.post s.no)) : CxOk cx_law54_awake Γ := ⟨by kernel_rfl, hs, (fun x hx => by cases hx), (fun x hx => by cases hx)⟩
theorem contract_law54_awake {Γ : CEnv} (hg : ∀ n, Γ.glob n = globT n) (hs : ∀ s ∈ cx_law54_awake.sigs, Contract Tryd.prog Γ gtabU s (Γ.pre s.no) (Γ.post s.no)) (k : Nat) {pre : List TV → Prop} {post : List TV → TV → Prop} (h : ∀ ts, ts.length = 0 → pre ts → tr_law54_awake.den Γ (post ts) ts []) : Contract Tryd.prog Γ gtabU (qb2 k) pre post :=
  Contract.renum (zas (qgi hg hs) 4 sg_law54_awake Tryd.func11 (by kernel_rfl) (by kernel_rfl) fun ts hl hp => by rw [qgm]; exact h ts hl hp) k
def sg_law54_DisplayKeys : Sig := ⟨8, 0, [(true, [(.int .i64), (.int .i64), (.slice false [(.slice true [.str, .bool, (.int .i64)])]), (.int .i64), (.int .i64), .bool]), (false, [(.int .i64)]), (false, [(.int .i64)])], [(false, [(.bool, none)])]⟩
def qdv (k : Nat) : Sig := ⟨sg_law54_DisplayKeys.f, k, sg_law54_DisplayKeys.args, sg_law54_DisplayKeys.res⟩
def qd1 : List (FuncId × Nat × Head) := []
def qd5 : List (FuncId × Nat × Nat × Plan) := [(8, 3, 13, (.op true 0 (.op true 1 (.op true 2 (.op true 4 (.op true 5 (.op true 6 (.op false 3 (.op false 7 (.op false 8 (.op false 9 (.op false 10 (.op false 11 (.op false 12 .nil))))))))))))))]
noncomputable def cx_law54_DisplayKeys : Cx := ⟨Tryd.prog, gtabU, [qb1 0, qcm 1, qe3 2, qcv 3, qb2 4], [], qd1, qd5, []⟩
def tr_law54_DisplayKeys : Tree := (.call 0 [(.o1 .agg (.cons (.o1 (.proj 0) (.v 0)) (.cons (.o1 (.proj 1) (.v 0)) (.cons (.o1 (.proj 2) (.v 0)) (.cons (.o1 (.proj 3) (.v 0)) (.cons (.o1 (.proj 4) (.v 0)) (.cons (.o1 (.proj 5) (.v 0)) .nil)))))))]
  (.br (.v 3)
    (.call 4 []
      (.ret (.v 4)))
    (.call 1 [(.o1 .agg (.cons (.o1 (.proj 0) (.v 0)) (.cons (.o1 (.proj 1) (.v 0)) (.cons (.o1 (.proj 2) (.v 0)) (.cons (.o1 (.proj 3) (.v 0)) (.cons (.o1 (.proj 4) (.v 0)) (.cons (.o1 (.proj 5) (.v 0)) .nil))))))), (.v 1), (.v 2)]
      (.call 2 [(.o1 .agg (.cons (.o1 (.proj 0) (.v 0)) (.cons (.o1 (.proj 1) (.v 0)) (.cons (.o1 (.proj 2) (.v 0)) (.cons (.o1 (.proj 3) (.v 0)) (.cons (.o1 (.proj 4) (.v 0)) (.cons (.o1 (.proj 5) (.v 0)) .nil))))))), (.v 1), (.v 2)]
        (.call 3 [(.v 4), (.v 5)]
          (.br (.v 6)
            (.call 4 []
              (.ret (.v 7)))
            (.ret (.bool false))))))))
set_option maxRecDepth 100000 in
theorem qdd : za4 cx_law54_DisplayKeys 4 sg_law54_DisplayKeys Tryd.f8 (Tryd.f8.body.getD .skip) = tr_law54_DisplayKeys := by kernel_rfl
theorem qdb {Γ : CEnv} (hg : ∀ n, Γ.glob n = globT n) (hs : ∀ s ∈ cx_law54_DisplayKeys.sigs, Contract Tryd.prog Γ gtabU s (Γ.pre s.no) (Γ.post s.no)) : CxOk cx_law54_DisplayKeys Γ := ⟨by kernel_rfl, hs, (fun x hx => by cases hx), (fun x hx => by cases hx)⟩
theorem contract_law54_DisplayKeys {Γ : CEnv} (hg : ∀ n, Γ.glob n = globT n) (hs : ∀ s ∈ cx_law54_DisplayKeys.sigs, Contract Tryd.prog Γ gtabU s (Γ.pre s.no) (Γ.post s.no)) (k : Nat) {pre : List TV → Prop} {post : List TV → TV → Prop} (h : ∀ ts, ts.length = 3 → pre ts → tr_law54_DisplayKeys.den Γ (post ts) ts []) : Contract Tryd.prog Γ gtabU (qdv k) pre post :=
  Contract.renum (zas (qdb hg hs) 4 sg_law54_DisplayKeys Tryd.func8 (by kernel_rfl) (by kernel_rfl) fun ts hl hp => by rw [qdd]; exact h ts hl hp) k
def sg_law54_DisplayMoves : Sig := ⟨9, 0, [(true, [(.int .i64), (.int .i64), (.slice false [(.slice true [.str, .bool, (.int .i64)])]), (.int .i64), (.int .i64), .bool]), (false, [(.int .u8)]), (false, [(.int .u8)])], [(false, [(.bool, none)])]⟩
def qdm (k : Nat) : Sig := ⟨sg_law54_DisplayMoves.f, k, sg_law54_DisplayMoves.args, sg_law54_DisplayMoves.res⟩
def qdk : List (FuncId × Nat × Head) := [(9, 8, ⟨[3, 7, 8, 9, 10, 11, 48, 49, 50], [.slot 3 true 26 false [], .slot 7 true 60 false [], .slot 8 true 62 false [], .slot 11 true 64 true [.str, (.int .i32), .bool, .bool, .bool]], [50], [], [(2, 2), (2, 1), (2, 0)], []⟩)]
def qdl : List (FuncId × Nat × Nat × Plan) := [(9, 5, 12, (.op true 0 (.op true 1 (.op true 2 (.op true 3 (.op true 4 (.op true 5 (.op true 6 (.op true 7 (.op true 8 (.op true 9 (.op true 10 (.op true 11 .nil)))))))))))))]
noncomputable def cx_law54_DisplayMoves : Cx := ⟨Tryd.prog, gtabU, [qb1 0, qb7 1, qcm 2, qdj 3, qfy 4, qb2 5], [], qdk, qdl, []⟩
def tr_law54_DisplayMoves : Tree := (.call 0 [(.o1 .agg (.cons (.o1 (.proj 0) (.v 0)) (.cons (.o1 (.proj 1) (.v 0)) (.cons (.o1 (.proj 2) (.v 0)) (.cons (.o1 (.proj 3) (.v 0)) (.cons (.o1 (.proj 4) (.v 0)) (.cons (.o1 (.proj 5) (.v 0)) .nil)))))))]
  (.br (.v 3)
    (.call 5 []
      (.ret (.v 4)))
    (.call 1 [(.o1 .agg (.cons (.o1 (.proj 0) (.v 0)) (.cons (.o1 (.proj 1) (.v 0)) (.cons (.o1 (.proj 2) (.v 0)) (.cons (.o1 (.proj 3) (.v 0)) (.cons (.o1 (.proj 4) (.v 0)) (.cons (.o1 (.proj 5) (.v 0)) .nil)))))))]
      (.br (.o1 .no (.o2 .eqi (.v 4) (.int 0)))
        (.call 5 []
          (.ret (.v 5)))
        (.req (.o1 .no (.o2 .eqi (.o1 (.proj 1) (.v 0)) (.int 0))) (.req (.o1 .no (.o2 .eqi (.o1 (.proj 0) (.v 0)) (.int 0))) (.call 2 [(.o1 .agg (.cons (.o1 (.proj 0) (.v 0)) (.cons (.o1 (.proj 1) (.v 0)) (.cons (.o1 (.proj 2) (.v 0)) (.cons (.o1 (.proj 3) (.v 0)) (.cons (.o1 (.proj 4) (.v 0)) (.cons (.o1 (.proj 5) (.v 0)) .nil))))))), (.o2 .rem (.o1 (.wrap .i64) (.v 1)) (.o1 (.proj 1) (.v 0))), (.o2 .rem (.o1 (.wrap .i64) (.v 2)) (.o1 (.proj 0) (.v 0)))]
          (.loop [(.int 0), (.o1 (.proj 3) (.v 0)), (.o1 (.proj 4) (.v 0)), (.bool false)]
            (.br (.o2 .lti (.v 6) (.o1 .len (.v 5)))
              (.req (.o2 .lei (.int 0) (.v 6)) (.req (.o2 .lti (.v 6) (.o1 .len (.v 5))) (.br (.o3 .ite (.o2 .eqs (.o1 (.proj 0) (.o2 .idx (.v 5) (.v 6))) (.str [82, 105, 103, 104, 116])) (.o3 .ite (.o2 .eqi (.o1 (.proj 1) (.o2 .idx (.v 5) (.v 6))) (.int 0)) (.o3 .ite (.o2 .eqb (.o1 (.proj 2) (.o2 .idx (.v 5) (.v 6))) (.bool false)) (.o3 .ite (.o2 .eqb (.o1 (.proj 3) (.o2 .idx (.v 5) (.v 6))) (.bool false)) (.o3 .ite (.o2 .eqb (.o1 (.proj 4) (.o2 .idx (.v 5) (.v 6))) (.bool false)) (.bool true) (.bool false)) (.bool false)) (.bool false)) (.bool false)) (.bool false))
                (.call 3 [(.o1 .agg (.cons (.v 7) (.cons (.v 8) (.cons (.v 9) .nil)))), (.int 1), (.o1 .agg (.cons (.o1 (.proj 0) (.v 0)) (.cons (.o1 (.proj 1) (.v 0)) (.cons (.int 0) (.cons (.o1 (.proj 1) (.v 0)) (.cons (.bool false) .nil))))))]
                  (.back 0 [(.o2 (.add .i64) (.v 6) (.int 1)), (.o1 (.proj 0) (.v 10)), (.o1 (.proj 1) (.v 10)), (.o1 (.proj 2) (.v 10))]))
                (.br (.o3 .ite (.o2 .eqs (.o1 (.proj 0) (.o2 .idx (.v 5) (.v 6))) (.str [76, 101, 102, 116])) (.o3 .ite (.o2 .eqi (.o1 (.proj 1) (.o2 .idx (.v 5) (.v 6))) (.int 0)) (.o3 .ite (.o2 .eqb (.o1 (.proj 2) (.o2 .idx (.v 5) (.v 6))) (.bool false)) (.o3 .ite (.o2 .eqb (.o1 (.proj 3) (.o2 .idx (.v 5) (.v 6))) (.bool false)) (.o3 .ite (.o2 .eqb (.o1 (.proj 4) (.o2 .idx (.v 5) (.v 6))) (.bool false)) (.bool true) (.bool false)) (.bool false)) (.bool false)) (.bool false)) (.bool false))
                  (.call 3 [(.o1 .agg (.cons (.v 7) (.cons (.v 8) (.cons (.v 9) .nil)))), (.int (-1)), (.o1 .agg (.cons (.o1 (.proj 0) (.v 0)) (.cons (.o1 (.proj 1) (.v 0)) (.cons (.int 0) (.cons (.o1 (.proj 1) (.v 0)) (.cons (.bool false) .nil))))))]
                    (.back 0 [(.o2 (.add .i64) (.v 6) (.int 1)), (.o1 (.proj 0) (.v 10)), (.o1 (.proj 1) (.v 10)), (.o1 (.proj 2) (.v 10))]))
                  (.br (.o3 .ite (.o2 .eqs (.o1 (.proj 0) (.o2 .idx (.v 5) (.v 6))) (.str [85, 112])) (.o3 .ite (.o2 .eqi (.o1 (.proj 1) (.o2 .idx (.v 5) (.v 6))) (.int 0)) (.o3 .ite (.o2 .eqb (.o1 (.proj 2) (.o2 .idx (.v 5) (.v 6))) (.bool false)) (.o3 .ite (.o2 .eqb (.o1 (.proj 3) (.o2 .idx (.v 5) (.v 6))) (.bool false)) (.o3 .ite (.o2 .eqb (.o1 (.proj 4) (.o2 .idx (.v 5) (.v 6))) (.bool false)) (.bool true) (.bool false)) (.bool false)) (.bool false)) (.bool false)) (.bool false))
                    (.call 4 [(.o1 .agg (.cons (.v 7) (.cons (.v 8) (.cons (.v 9) .nil)))), (.int 1), (.o1 .agg (.cons (.o1 (.proj 0) (.v 0)) (.cons (.o1 (.proj 1) (.v 0)) (.cons (.int 0) (.cons (.o1 (.proj 1) (.v 0)) (.cons (.bool false) .nil))))))]
                      (.back 0 [(.o2 (.add .i64) (.v 6) (.int 1)), (.o1 (.proj 0) (.v 10)), (.o1 (.proj 1) (.v 10)), (.o1 (.proj 2) (.v 10))]))
                    (.br (.o3 .ite (.o2 .eqs (.o1 (.proj 0) (.o2 .idx (.v 5) (.v 6))) (.str [68, 111, 119, 110])) (.o3 .ite (.o2 .eqi (.o1 (.proj 1) (.o2 .idx (.v 5) (.v 6))) (.int 0)) (.o3 .ite (.o2 .eqb (.o1 (.proj 2) (.o2 .idx (.v 5) (.v 6))) (.bool false)) (.o3 .ite (.o2 .eqb (.o1 (.proj 3) (.o2 .idx (.v 5) (.v 6))) (.bool false)) (.o3 .ite (.o2 .eqb (.o1 (.proj 4) (.o2 .idx (.v 5) (.v 6))) (.bool false)) (.bool true) (.bool false)) (.bool false)) (.bool false)) (.bool false)) (.bool false))
                      (.call 4 [(.o1 .agg (.cons (.v 7) (.cons (.v 8) (.cons (.v 9) .nil)))), (.int (-1)), (.o1 .agg (.cons (.o1 (.proj 0) (.v 0)) (.cons (.o1 (.proj 1) (.v 0)) (.cons (.int 0) (.cons (.o1 (.proj 1) (.v 0)) (.cons (.bool false) .nil))))))]
                        (.back 0 [(.o2 (.add .i64) (.v 6) (.int 1)), (.o1 (.proj 0) (.v 10)), (.o1 (.proj 1) (.v 10)), (.o1 (.proj 2) (.v 10))]))
                      (.ret (.bool false))))))))
              (.br (.o3 .ite (.o2 .eqi (.v 7) (.o2 .rem (.o1 (.wrap .i64) (.v 1)) (.o1 (.proj 1) (.v 0)))) (.o3 .ite (.o2 .eqi (.v 8) (.o2 .rem (.o1 (.wrap .i64) (.v 2)) (.o1 (.proj 0) (.v 0)))) (.o3 .ite (.o2 .eqb (.v 9) (.bool false)) (.bool true) (.bool false)) (.bool false)) (.bool false))
                (.br (.o2 .eqi (.o1 .len (.v 5)) (.o2 (.add .i64) (.o2 .max (.o2 (.sub .i64) (.o2 .rem (.o1 (.wrap .i64) (.v 1)) (.o1 (.proj 1) (.v 0))) (.o1 (.proj 3) (.v 0))) (.o2 (.sub .i64) (.o1 (.proj 3) (.v 0)) (.o2 .rem (.o1 (.wrap .i64) (.v 1)) (.o1 (.proj 1) (.v 0))))) (.o2 .max (.o2 (.sub .i64) (.o2 .rem (.o1 (.wrap .i64) (.v 2)) (.o1 (.proj 0) (.v 0))) (.o1 (.proj 4) (.v 0))) (.o2 (.sub .i64) (.o1 (.proj 4) (.v 0)) (.o2 .rem (.o1 (.wrap .i64) (.v 2)) (.o1 (.proj 0) (.v 0)))))))
                  (.call 5 []
                    (.ret (.v 10)))
                  (.ret (.bool false)))
                (.ret (.bool false))))))))))))
set_option maxRecDepth 100000 in
theorem qc2 : za4 cx_law54_DisplayMoves 4 sg_law54_DisplayMoves Tryd.f9 (Tryd.f9.body.getD .skip) = tr_law54_DisplayMoves := by kernel_rfl
theorem qc7 {Γ : CEnv} (hg : ∀ n, Γ.glob n = globT n) (hs : ∀ s ∈ cx_law54_DisplayMoves.sigs, Contract Tryd.prog Γ gtabU s (Γ.pre s.no) (Γ.post s.no)) : CxOk cx_law54_DisplayMoves Γ := ⟨by kernel_rfl, hs, (fun x hx => by cases hx), (fun x hx => by cases hx)⟩
theorem qgx {Γ : CEnv} (hg : ∀ n, Γ.glob n = globT n) (hs : ∀ s ∈ cx_law54_DisplayMoves.sigs, Contract Tryd.prog Γ gtabU s (Γ.pre s.no) (Γ.post s.no)) (k : Nat) {pre : List TV → Prop} {post : List TV → TV → Prop} (h : ∀ ts, ts.length = 3 → pre ts → tr_law54_DisplayMoves.den Γ (post ts) ts []) : Contract Tryd.prog Γ gtabU (qdm k) pre post :=
  Contract.renum (zas (qc7 hg hs) 4 sg_law54_DisplayMoves Tryd.func9 (by kernel_rfl) (by kernel_rfl) fun ts hl hp => by rw [qc2]; exact h ts hl hp) k
end Go.Proofs.YtgdlkhemopildaaDoor


/- Written by this repo's own program out of its texts. -/
import Derived.Test.YtlhagkbhojmjpaaDoorTL1
namespace Go.Proofs.YtlhagkbhojmjpaaDoor
set_option linter.unusedVariables false
set_option linter.unusedSimpArgs false
def sg_display_moved : Sig := ⟨50, 0, [(true, [(.int .i64), (.int .i64), (.int .i64), .bool]), (true, [(.int .i64), (.int .i64), (.slice false [(.slice true [.str, .bool, (.int .i64)])]), (.int .i64), (.int .i64), .bool]), (true, [(.int .i64), .bool, .bool, (.int .i64), .bool, (.int .i64)]), (false, [(.int .i64)])], [(true, [((.int .i64), none), ((.int .i64), none), ((.int .i64), none), (.bool, none)])]⟩
def qc9 (k : Nat) : Sig := ⟨sg_display_moved.f, k, sg_display_moved.args, sg_display_moved.res⟩
def sg_ref15_GreatRow : Sig := ⟨25, 0, [(false, [(.slice true [.str, .bool, (.int .i64)])])], [(false, [(.bool, none)])]⟩
def qcd (k : Nat) : Sig := ⟨sg_ref15_GreatRow.f, k, sg_ref15_GreatRow.args, sg_ref15_GreatRow.res⟩
def qfq : List (FuncId × Nat × Head) := [(25, 4, ⟨[0, 3], [], [3], [], [], []⟩)]
def qfb : List (FuncId × Nat × Nat × Plan) := []
noncomputable def cx_ref15_GreatRow : Cx := ⟨Tryd.prog, gtabU, [], [], qfq, qfb, []⟩
def tr_ref15_GreatRow : Tree := (.br (.o2 .lti (.int 140) (.o1 .len (.v 0)))
  (.ret (.bool true))
  (.loop [(.int 0)]
    (.br (.o2 .lti (.v 1) (.o1 .len (.v 0)))
      (.req (.o2 .lei (.int 0) (.v 1)) (.req (.o2 .lti (.v 1) (.o1 .len (.v 0))) (.br (.o2 .lti (.int 40) (.o1 .slen (.o1 (.proj 0) (.o2 .idx (.v 0) (.v 1)))))
        (.ret (.bool true))
        (.back 0 [(.o2 (.add .i64) (.v 1) (.int 1))]))))
      (.ret (.bool false)))))
set_option maxRecDepth 100000 in
theorem qeo : za4 cx_ref15_GreatRow 4 sg_ref15_GreatRow Tryd.f25 (Tryd.f25.body.getD .skip) = tr_ref15_GreatRow := by kernel_rfl
theorem qeg {Γ : CEnv} (hg : ∀ n, Γ.glob n = globT n) (hs : ∀ s ∈ cx_ref15_GreatRow.sigs, Contract Tryd.prog Γ gtabU s (Γ.pre s.no) (Γ.post s.no)) : CxOk cx_ref15_GreatRow Γ := ⟨by kernel_rfl, hs, (fun x hx => by cases hx), (fun x hx => by cases hx)⟩
theorem qcy {Γ : CEnv} (hg : ∀ n, Γ.glob n = globT n) (hs : ∀ s ∈ cx_ref15_GreatRow.sigs, Contract Tryd.prog Γ gtabU s (Γ.pre s.no) (Γ.post s.no)) (k : Nat) {pre : List TV → Prop} {post : List TV → TV → Prop} (h : ∀ ts, ts.length = 1 → pre ts → tr_ref15_GreatRow.den Γ (post ts) ts []) : Contract Tryd.prog Γ gtabU (qcd k) pre post :=
  Contract.renum (zas (qeg hg hs) 4 sg_ref15_GreatRow Tryd.func25 (by kernel_rfl) (by kernel_rfl) fun ts hl hp => by rw [qeo]; exact h ts hl hp) k
def sg_ref15_Great : Sig := ⟨41, 0, [(true, [(.int .i64), (.int .i64), (.slice false [(.slice true [.str, .bool, (.int .i64)])]), (.int .i64), (.int .i64), .bool])], [(false, [(.bool, none)])]⟩
def qb1 (k : Nat) : Sig := ⟨sg_ref15_Great.f, k, sg_ref15_Great.args, sg_ref15_Great.res⟩
def hd_ref15_Great : List (FuncId × Nat × Head) := [(41, 4, ⟨[1, 3], [.slot 1 true 61 false []], [3], [], [], []⟩)]
def pl_ref15_Great : List (FuncId × Nat × Nat × Plan) := []
noncomputable def cx_ref15_Great : Cx := ⟨Tryd.prog, gtabU, [qcd 0], [], hd_ref15_Great, pl_ref15_Great, []⟩
def tr_ref15_Great : Tree := (.br (.o2 .lti (.int 12) (.o1 .len (.o1 (.proj 2) (.v 0))))
  (.ret (.bool true))
  (.br (.o2 .lti (.int 40) (.o1 (.proj 0) (.v 0)))
    (.br (.o2 .lti (.int 2) (.o1 .len (.o1 (.proj 2) (.v 0))))
      (.ret (.bool true))
      (.loop [(.int 0)]
        (.br (.o2 .lti (.v 1) (.o1 .len (.o1 (.proj 2) (.v 0))))
          (.req (.o2 .lei (.int 0) (.v 1)) (.req (.o2 .lti (.v 1) (.o1 .len (.o1 (.proj 2) (.v 0)))) (.call 0 [(.o2 .idx (.o1 (.proj 2) (.v 0)) (.v 1))]
            (.br (.v 2)
              (.ret (.bool true))
              (.back 0 [(.o2 (.add .i64) (.v 1) (.int 1))])))))
          (.ret (.bool false)))))
    (.loop [(.int 0)]
      (.br (.o2 .lti (.v 1) (.o1 .len (.o1 (.proj 2) (.v 0))))
        (.req (.o2 .lei (.int 0) (.v 1)) (.req (.o2 .lti (.v 1) (.o1 .len (.o1 (.proj 2) (.v 0)))) (.call 0 [(.o2 .idx (.o1 (.proj 2) (.v 0)) (.v 1))]
          (.br (.v 2)
            (.ret (.bool true))
            (.back 0 [(.o2 (.add .i64) (.v 1) (.int 1))])))))
        (.ret (.bool false))))))
set_option maxRecDepth 100000 in
theorem qf1 : za4 cx_ref15_Great 4 sg_ref15_Great Tryd.f41 (Tryd.f41.body.getD .skip) = tr_ref15_Great := by kernel_rfl
theorem qgn {Γ : CEnv} (hg : ∀ n, Γ.glob n = globT n) (hs : ∀ s ∈ cx_ref15_Great.sigs, Contract Tryd.prog Γ gtabU s (Γ.pre s.no) (Γ.post s.no)) : CxOk cx_ref15_Great Γ := ⟨by kernel_rfl, hs, (fun x hx => by cases hx), (fun x hx => by cases hx)⟩
theorem qdx {Γ : CEnv} (hg : ∀ n, Γ.glob n = globT n) (hs : ∀ s ∈ cx_ref15_Great.sigs, Contract Tryd.prog Γ gtabU s (Γ.pre s.no) (Γ.post s.no)) (k : Nat) {pre : List TV → Prop} {post : List TV → TV → Prop} (h : ∀ ts, ts.length = 1 → pre ts → tr_ref15_Great.den Γ (post ts) ts []) : Contract Tryd.prog Γ gtabU (qb1 k) pre post :=
  Contract.renum (zas (qgn hg hs) 4 sg_ref15_Great Tryd.func41 (by kernel_rfl) (by kernel_rfl) fun ts hl hp => by rw [qf1]; exact h ts hl hp) k
def sg_ref15_Size : Sig := ⟨32, 0, [(false, [(.int .i64)]), (false, [(.int .i64)])], [(false, [(.bool, none)])]⟩
def qc3 (k : Nat) : Sig := ⟨sg_ref15_Size.f, k, sg_ref15_Size.args, sg_ref15_Size.res⟩
def hd_ref15_Size : List (FuncId × Nat × Head) := []
def pl_ref15_Size : List (FuncId × Nat × Nat × Plan) := []
noncomputable def cx_ref15_Size : Cx := ⟨Tryd.prog, gtabU, [], [], hd_ref15_Size, pl_ref15_Size, []⟩
def tr_ref15_Size : Tree := (.br (.o2 .lei (.int 1) (.v 0))
  (.br (.o2 .lei (.v 0) (.int 132))
    (.br (.o2 .lei (.int 1) (.v 1))
      (.ret (.o2 .lei (.v 1) (.int 60)))
      (.ret (.bool false)))
    (.ret (.bool false)))
  (.ret (.bool false)))
set_option maxRecDepth 100000 in
theorem qhq : za4 cx_ref15_Size 4 sg_ref15_Size Tryd.f32 (Tryd.f32.body.getD .skip) = tr_ref15_Size := by kernel_rfl
theorem qhh {Γ : CEnv} (hg : ∀ n, Γ.glob n = globT n) (hs : ∀ s ∈ cx_ref15_Size.sigs, Contract Tryd.prog Γ gtabU s (Γ.pre s.no) (Γ.post s.no)) : CxOk cx_ref15_Size Γ := ⟨by kernel_rfl, hs, (fun x hx => by cases hx), (fun x hx => by cases hx)⟩
theorem qem {Γ : CEnv} (hg : ∀ n, Γ.glob n = globT n) (hs : ∀ s ∈ cx_ref15_Size.sigs, Contract Tryd.prog Γ gtabU s (Γ.pre s.no) (Γ.post s.no)) (k : Nat) {pre : List TV → Prop} {post : List TV → TV → Prop} (h : ∀ ts, ts.length = 2 → pre ts → tr_ref15_Size.den Γ (post ts) ts []) : Contract Tryd.prog Γ gtabU (qc3 k) pre post :=
  Contract.renum (zas (qhh hg hs) 4 sg_ref15_Size Tryd.func32 (by kernel_rfl) (by kernel_rfl) fun ts hl hp => by rw [qhq]; exact h ts hl hp) k
def sg_ref15_Width : Sig := ⟨82, 0, [(false, [(.slice true [.str, .bool, (.int .i64)])])], [(false, [((.int .i64), none)])]⟩
def qb6 (k : Nat) : Sig := ⟨sg_ref15_Width.f, k, sg_ref15_Width.args, sg_ref15_Width.res⟩
def hd_ref15_Width : List (FuncId × Nat × Head) := [(82, 3, ⟨[0, 3, 4], [], [4, 3], [], [], []⟩)]
def pl_ref15_Width : List (FuncId × Nat × Nat × Plan) := []
noncomputable def cx_ref15_Width : Cx := ⟨Tryd.prog, gtabU, [], [], hd_ref15_Width, pl_ref15_Width, []⟩
def tr_ref15_Width : Tree := (.loop [(.int 0), (.int 0)]
  (.br (.o2 .lti (.v 2) (.o1 .len (.v 0)))
    (.req (.o2 .lei (.int 0) (.v 2)) (.req (.o2 .lti (.v 2) (.o1 .len (.v 0))) (.br (.o1 (.proj 1) (.o2 .idx (.v 0) (.v 2)))
      (.back 0 [(.o2 (.add .i64) (.o2 (.add .i64) (.v 1) (.int 1)) (.int 1)), (.o2 (.add .i64) (.v 2) (.int 1))])
      (.back 0 [(.o2 (.add .i64) (.v 1) (.int 1)), (.o2 (.add .i64) (.v 2) (.int 1))]))))
    (.ret (.v 1))))
set_option maxRecDepth 100000 in
theorem qga : za4 cx_ref15_Width 4 sg_ref15_Width Tryd.f82 (Tryd.f82.body.getD .skip) = tr_ref15_Width := by kernel_rfl
theorem qfz {Γ : CEnv} (hg : ∀ n, Γ.glob n = globT n) (hs : ∀ s ∈ cx_ref15_Width.sigs, Contract Tryd.prog Γ gtabU s (Γ.pre s.no) (Γ.post s.no)) : CxOk cx_ref15_Width Γ := ⟨by kernel_rfl, hs, (fun x hx => by cases hx), (fun x hx => by cases hx)⟩
theorem qds {Γ : CEnv} (hg : ∀ n, Γ.glob n = globT n) (hs : ∀ s ∈ cx_ref15_Width.sigs, Contract Tryd.prog Γ gtabU s (Γ.pre s.no) (Γ.post s.no)) (k : Nat) {pre : List TV → Prop} {post : List TV → TV → Prop} (h : ∀ ts, ts.length = 1 → pre ts → tr_ref15_Width.den Γ (post ts) ts []) : Contract Tryd.prog Γ gtabU (qb6 k) pre post :=
  Contract.renum (zas (qfz hg hs) 4 sg_ref15_Width Tryd.func82 (by kernel_rfl) (by kernel_rfl) fun ts hl hp => by rw [qga]; exact h ts hl hp) k
def sg_ref15_blank : Sig := ⟨83, 0, [(true, [.str, .bool, (.int .i64)])], [(false, [(.bool, none)])]⟩
def qcr (k : Nat) : Sig := ⟨sg_ref15_blank.f, k, sg_ref15_blank.args, sg_ref15_blank.res⟩
def hd_ref15_blank : List (FuncId × Nat × Head) := []
def pl_ref15_blank : List (FuncId × Nat × Nat × Plan) := []
noncomputable def cx_ref15_blank : Cx := ⟨Tryd.prog, gtabU, [], [], hd_ref15_blank, pl_ref15_blank, []⟩
def tr_ref15_blank : Tree := (.ret (.o3 .ite (.o2 .eqs (.o1 (.proj 0) (.v 0)) (.str [32])) (.o3 .ite (.o2 .eqb (.o1 (.proj 1) (.v 0)) (.bool false)) (.o3 .ite (.o2 .eqi (.o1 (.proj 2) (.v 0)) (.int 0)) (.bool true) (.bool false)) (.bool false)) (.bool false)))
set_option maxRecDepth 100000 in
theorem qgc : za4 cx_ref15_blank 4 sg_ref15_blank Tryd.f83 (Tryd.f83.body.getD .skip) = tr_ref15_blank := by kernel_rfl
theorem qgb {Γ : CEnv} (hg : ∀ n, Γ.glob n = globT n) (hs : ∀ s ∈ cx_ref15_blank.sigs, Contract Tryd.prog Γ gtabU s (Γ.pre s.no) (Γ.post s.no)) : CxOk cx_ref15_blank Γ := ⟨by kernel_rfl, hs, (fun x hx => by cases hx), (fun x hx => by cases hx)⟩
theorem qdz {Γ : CEnv} (hg : ∀ n, Γ.glob n = globT n) (hs : ∀ s ∈ cx_ref15_blank.sigs, Contract Tryd.prog Γ gtabU s (Γ.pre s.no) (Γ.post s.no)) (k : Nat) {pre : List TV → Prop} {post : List TV → TV → Prop} (h : ∀ ts, ts.length = 1 → pre ts → tr_ref15_blank.den Γ (post ts) ts []) : Contract Tryd.prog Γ gtabU (qcr k) pre post :=
  Contract.renum (zas (qgb hg hs) 4 sg_ref15_blank Tryd.func83 (by kernel_rfl) (by kernel_rfl) fun ts hl hp => by rw [qgc]; exact h ts hl hp) k
def sg_ref15_Check : Sig := ⟨42, 0, [(true, [(.int .i64), (.int .i64), (.slice false [(.slice true [.str, .bool, (.int .i64)])]), (.int .i64), (.int .i64), .bool])], [(false, [((.int .i64), none)])]⟩
def qb7 (k : Nat) : Sig := ⟨sg_ref15_Check.f, k, sg_ref15_Check.args, sg_ref15_Check.res⟩
def hd_ref15_Check : List (FuncId × Nat × Head) := [(42, 8, ⟨[1, 3], [.slot 1 true 61 false []], [3], [], [], []⟩), (42, 12, ⟨[1, 3, 4, 5], [.slot 1 true 61 false []], [5], [], [], []⟩)]
def pl_ref15_Check : List (FuncId × Nat × Nat × Plan) := [(42, 17, 5, (.op true 0 (.op true 2 (.op true 3 (.op false 1 (.op false 4 .nil))))))]
noncomputable def cx_ref15_Check : Cx := ⟨Tryd.prog, gtabU, [zpw 0, qc3 1, qb6 2, qcr 3], [], hd_ref15_Check, pl_ref15_Check, []⟩
def tr_ref15_Check : Tree := (.call 1 [(.o1 (.proj 0) (.v 0)), (.o1 (.proj 1) (.v 0))]
  (.br (.o1 .no (.v 1))
    (.ret (.int 2))
    (.br (.o1 .no (.o2 .eqi (.o1 .len (.o1 (.proj 2) (.v 0))) (.o1 (.proj 1) (.v 0))))
      (.ret (.int 11))
      (.br (.o2 .lti (.o1 (.proj 3) (.v 0)) (.int 0))
        (.ret (.int 2))
        (.br (.o2 .lei (.o1 (.proj 1) (.v 0)) (.o1 (.proj 3) (.v 0)))
          (.ret (.int 2))
          (.br (.o2 .lti (.o1 (.proj 4) (.v 0)) (.int 0))
            (.ret (.int 2))
            (.br (.o2 .lei (.o1 (.proj 0) (.v 0)) (.o1 (.proj 4) (.v 0)))
              (.ret (.int 2))
              (.loop [(.int 0)]
                (.br (.o2 .lti (.v 2) (.o1 .len (.o1 (.proj 2) (.v 0))))
                  (.req (.o2 .lei (.int 0) (.v 2)) (.req (.o2 .lti (.v 2) (.o1 .len (.o1 (.proj 2) (.v 0)))) (.loop [(.int 0)]
                    (.br (.o2 .lti (.v 3) (.o1 .len (.o2 .idx (.o1 (.proj 2) (.v 0)) (.v 2))))
                      (.req (.o2 .lei (.int 0) (.v 3)) (.req (.o2 .lti (.v 3) (.o1 .len (.o2 .idx (.o1 (.proj 2) (.v 0)) (.v 2)))) (.call 0 [(.o1 .agg (.cons (.o1 (.proj 0) (.o2 .idx (.o2 .idx (.o1 (.proj 2) (.v 0)) (.v 2)) (.v 3))) (.cons (.o1 (.proj 1) (.o2 .idx (.o2 .idx (.o1 (.proj 2) (.v 0)) (.v 2)) (.v 3))) (.cons (.o1 (.proj 2) (.o2 .idx (.o2 .idx (.o1 (.proj 2) (.v 0)) (.v 2)) (.v 3))) .nil))))]
                        (.br (.o1 .no (.o2 .eqi (.v 4) (.int 0)))
                          (.ret (.v 4))
                          (.back 1 [(.o2 (.add .i64) (.v 3) (.int 1))])))))
                      (.call 2 [(.o2 .idx (.o1 (.proj 2) (.v 0)) (.v 2))]
                        (.br (.o2 .lti (.o1 (.proj 0) (.v 0)) (.v 4))
                          (.ret (.int 12))
                          (.br (.o2 .lti (.int 0) (.o1 .len (.o2 .idx (.o1 (.proj 2) (.v 0)) (.v 2))))
                            (.req (.o2 .lei (.int 0) (.o2 (.sub .i64) (.o1 .len (.o2 .idx (.o1 (.proj 2) (.v 0)) (.v 2))) (.int 1))) (.req (.o2 .lti (.o2 (.sub .i64) (.o1 .len (.o2 .idx (.o1 (.proj 2) (.v 0)) (.v 2))) (.int 1)) (.o1 .len (.o2 .idx (.o1 (.proj 2) (.v 0)) (.v 2)))) (.call 3 [(.o1 .agg (.cons (.o1 (.proj 0) (.o2 .idx (.o2 .idx (.o1 (.proj 2) (.v 0)) (.v 2)) (.o2 (.sub .i64) (.o1 .len (.o2 .idx (.o1 (.proj 2) (.v 0)) (.v 2))) (.int 1)))) (.cons (.o1 (.proj 1) (.o2 .idx (.o2 .idx (.o1 (.proj 2) (.v 0)) (.v 2)) (.o2 (.sub .i64) (.o1 .len (.o2 .idx (.o1 (.proj 2) (.v 0)) (.v 2))) (.int 1)))) (.cons (.o1 (.proj 2) (.o2 .idx (.o2 .idx (.o1 (.proj 2) (.v 0)) (.v 2)) (.o2 (.sub .i64) (.o1 .len (.o2 .idx (.o1 (.proj 2) (.v 0)) (.v 2))) (.int 1)))) .nil))))]
                              (.br (.v 5)
                                (.ret (.int 1))
                                (.back 0 [(.o2 (.add .i64) (.v 2) (.int 1))])))))
                            (.back 0 [(.o2 (.add .i64) (.v 2) (.int 1))]))))))))
                  (.ret (.int 0)))))))))))
set_option maxRecDepth 100000 in
theorem qgh : za4 cx_ref15_Check 4 sg_ref15_Check Tryd.f42 (Tryd.f42.body.getD .skip) = tr_ref15_Check := by kernel_rfl
theorem qf8 {Γ : CEnv} (hg : ∀ n, Γ.glob n = globT n) (hs : ∀ s ∈ cx_ref15_Check.sigs, Contract Tryd.prog Γ gtabU s (Γ.pre s.no) (Γ.post s.no)) : CxOk cx_ref15_Check Γ := ⟨by kernel_rfl, hs, (fun x hx => by cases hx), (fun x hx => by cases hx)⟩
theorem qd6 {Γ : CEnv} (hg : ∀ n, Γ.glob n = globT n) (hs : ∀ s ∈ cx_ref15_Check.sigs, Contract Tryd.prog Γ gtabU s (Γ.pre s.no) (Γ.post s.no)) (k : Nat) {pre : List TV → Prop} {post : List TV → TV → Prop} (h : ∀ ts, ts.length = 1 → pre ts → tr_ref15_Check.den Γ (post ts) ts []) : Contract Tryd.prog Γ gtabU (qb7 k) pre post :=
  Contract.renum (zas (qf8 hg hs) 4 sg_ref15_Check Tryd.func42 (by kernel_rfl) (by kernel_rfl) fun ts hl hp => by rw [qgh]; exact h ts hl hp) k
def sg_view_sized : Sig := ⟨71, 0, [(false, [(.int .i64)]), (false, [(.int .i64)])], [(false, [(.bool, none)])]⟩
def qc1 (k : Nat) : Sig := ⟨sg_view_sized.f, k, sg_view_sized.args, sg_view_sized.res⟩
def hd_view_sized : List (FuncId × Nat × Head) := []
def pl_view_sized : List (FuncId × Nat × Nat × Plan) := []
noncomputable def cx_view_sized : Cx := ⟨Tryd.prog, gtabU, [], [], hd_view_sized, pl_view_sized, []⟩
def tr_view_sized : Tree := (.br (.o2 .lei (.int 1) (.v 0))
  (.br (.o2 .lei (.v 0) (.int 132))
    (.br (.o2 .lei (.int 1) (.v 1))
      (.ret (.o2 .lei (.v 1) (.int 60)))
      (.ret (.bool false)))
    (.ret (.bool false)))
  (.ret (.bool false)))
set_option maxRecDepth 100000 in
theorem qhd : za4 cx_view_sized 4 sg_view_sized Tryd.f71 (Tryd.f71.body.getD .skip) = tr_view_sized := by kernel_rfl
theorem qg4 {Γ : CEnv} (hg : ∀ n, Γ.glob n = globT n) (hs : ∀ s ∈ cx_view_sized.sigs, Contract Tryd.prog Γ gtabU s (Γ.pre s.no) (Γ.post s.no)) : CxOk cx_view_sized Γ := ⟨by kernel_rfl, hs, (fun x hx => by cases hx), (fun x hx => by cases hx)⟩
theorem qec {Γ : CEnv} (hg : ∀ n, Γ.glob n = globT n) (hs : ∀ s ∈ cx_view_sized.sigs, Contract Tryd.prog Γ gtabU s (Γ.pre s.no) (Γ.post s.no)) (k : Nat) {pre : List TV → Prop} {post : List TV → TV → Prop} (h : ∀ ts, ts.length = 2 → pre ts → tr_view_sized.den Γ (post ts) ts []) : Contract Tryd.prog Γ gtabU (qc1 k) pre post :=
  Contract.renum (zas (qg4 hg hs) 4 sg_view_sized Tryd.func71 (by kernel_rfl) (by kernel_rfl) fun ts hl hp => by rw [qhd]; exact h ts hl hp) k
def sg_view_glyph : Sig := ⟨119, 0, [(true, [.str, .bool, (.int .i64)])], [(false, [((.int .i64), none)])]⟩
def qc6 (k : Nat) : Sig := ⟨sg_view_glyph.f, k, sg_view_glyph.args, sg_view_glyph.res⟩
def hd_view_glyph : List (FuncId × Nat × Head) := []
def pl_view_glyph : List (FuncId × Nat × Nat × Plan) := [(119, 3, 27, (.op true 0 (.op true 1 (.op true 2 (.op true 3 (.op false 4 (.op false 5 (.op false 6 (.op false 7 (.op true 8 (.op true 9 (.op true 10 (.op false 11 (.op false 12 (.op true 13 (.op true 14 (.op true 15 (.op false 16 (.op false 17 (.op true 18 (.op true 19 (.op true 20 (.op true 21 (.op true 22 (.op true 23 (.op true 24 (.op true 25 (.op false 26 .nil))))))))))))))))))))))))))))]
noncomputable def cx_view_glyph : Cx := ⟨Tryd.prog, gtabU, [zh7 0, zh6 1], [], hd_view_glyph, pl_view_glyph, []⟩
def tr_view_glyph : Tree := (.call 0 [(.o1 (.proj 0) (.v 0))]
  (.br (.o1 .no (.o2 .eqi (.v 1) (.int 0)))
    (.ret (.int 3))
    (.call 1 [(.o1 (.proj 0) (.v 0))]
      (.br (.o1 .no (.o2 .eqb (.o1 (.proj 1) (.v 0)) (.o2 .eqi (.v 2) (.int 2))))
        (.ret (.int 9))
        (.br (.o2 .lti (.o1 (.proj 2) (.v 0)) (.int 0))
          (.ret (.int 9))
          (.br (.o2 .lti (.int 3) (.o1 (.proj 2) (.v 0)))
            (.ret (.int 9))
            (.br (.o2 .eqi (.o1 (.proj 2) (.v 0)) (.int 3))
              (.br (.o1 .no (.o2 .eqs (.o1 (.proj 0) (.v 0)) (.str [42])))
                (.ret (.int 9))
                (.ret (.int 0)))
              (.ret (.int 0)))))))))
set_option maxRecDepth 100000 in
theorem qgz : za4 cx_view_glyph 4 sg_view_glyph Tryd.f119 (Tryd.f119.body.getD .skip) = tr_view_glyph := by kernel_rfl
theorem qhj {Γ : CEnv} (hg : ∀ n, Γ.glob n = globT n) (hs : ∀ s ∈ cx_view_glyph.sigs, Contract Tryd.prog Γ gtabU s (Γ.pre s.no) (Γ.post s.no)) : CxOk cx_view_glyph Γ := ⟨by kernel_rfl, hs, (fun x hx => by cases hx), (fun x hx => by cases hx)⟩
theorem qeb {Γ : CEnv} (hg : ∀ n, Γ.glob n = globT n) (hs : ∀ s ∈ cx_view_glyph.sigs, Contract Tryd.prog Γ gtabU s (Γ.pre s.no) (Γ.post s.no)) (k : Nat) {pre : List TV → Prop} {post : List TV → TV → Prop} (h : ∀ ts, ts.length = 1 → pre ts → tr_view_glyph.den Γ (post ts) ts []) : Contract Tryd.prog Γ gtabU (qc6 k) pre post :=
  Contract.renum (zas (qhj hg hs) 4 sg_view_glyph Tryd.func119 (by kernel_rfl) (by kernel_rfl) fun ts hl hp => by rw [qgz]; exact h ts hl hp) k
def sg_view_blank : Sig := ⟨76, 0, [], [(true, [(.str, none), (.bool, none), ((.int .i64), none)])]⟩
def qcz (k : Nat) : Sig := ⟨sg_view_blank.f, k, sg_view_blank.args, sg_view_blank.res⟩
def hd_view_blank : List (FuncId × Nat × Head) := []
def pl_view_blank : List (FuncId × Nat × Nat × Plan) := []
noncomputable def cx_view_blank : Cx := ⟨Tryd.prog, gtabU, [], [], hd_view_blank, pl_view_blank, []⟩
def tr_view_blank : Tree := (.ret (.o1 .agg (.cons (.str [32]) (.cons (.bool false) (.cons (.int 0) .nil)))))
set_option maxRecDepth 100000 in
theorem qhp : za4 cx_view_blank 4 sg_view_blank Tryd.f76 (Tryd.f76.body.getD .skip) = tr_view_blank := by kernel_rfl
theorem qhg {Γ : CEnv} (hg : ∀ n, Γ.glob n = globT n) (hs : ∀ s ∈ cx_view_blank.sigs, Contract Tryd.prog Γ gtabU s (Γ.pre s.no) (Γ.post s.no)) : CxOk cx_view_blank Γ := ⟨by kernel_rfl, hs, (fun x hx => by cases hx), (fun x hx => by cases hx)⟩
theorem qeh {Γ : CEnv} (hg : ∀ n, Γ.glob n = globT n) (hs : ∀ s ∈ cx_view_blank.sigs, Contract Tryd.prog Γ gtabU s (Γ.pre s.no) (Γ.post s.no)) (k : Nat) {pre : List TV → Prop} {post : List TV → TV → Prop} (h : ∀ ts, ts.length = 0 → pre ts → tr_view_blank.den Γ (post ts) ts []) : Contract Tryd.prog Γ gtabU (qcz k) pre post :=
  Contract.renum (zas (qhg hg hs) 4 sg_view_blank Tryd.func76 (by kernel_rfl) (by kernel_rfl) fun ts hl hp => by rw [qhp]; exact h ts hl hp) k
def sg_view_Width : Sig := ⟨120, 0, [(false, [(.slice true [.str, .bool, (.int .i64)])])], [(false, [((.int .i64), none)])]⟩
def qck (k : Nat) : Sig := ⟨sg_view_Width.f, k, sg_view_Width.args, sg_view_Width.res⟩
def hd_view_Width : List (FuncId × Nat × Head) := [(120, 3, ⟨[3, 8, 9, 10], [], [10, 3], [], [], []⟩)]
def pl_view_Width : List (FuncId × Nat × Nat × Plan) := []
noncomputable def cx_view_Width : Cx := ⟨Tryd.prog, gtabU, [], [], hd_view_Width, pl_view_Width, []⟩
def tr_view_Width : Tree := (.loop [(.o1 .len (.v 0)), (.int 0)]
  (.br (.o2 .lti (.v 2) (.o1 .len (.v 0)))
    (.req (.o2 .lei (.int 0) (.v 2)) (.req (.o2 .lti (.v 2) (.o1 .len (.v 0))) (.br (.o1 (.proj 1) (.o2 .idx (.v 0) (.v 2)))
      (.back 0 [(.o2 (.add .i64) (.v 1) (.int 1)), (.o2 (.add .i64) (.v 2) (.int 1))])
      (.back 0 [(.v 1), (.o2 (.add .i64) (.v 2) (.int 1))]))))
    (.ret (.v 1))))
set_option maxRecDepth 100000 in
theorem qg0 : za4 cx_view_Width 4 sg_view_Width Tryd.f120 (Tryd.f120.body.getD .skip) = tr_view_Width := by kernel_rfl
theorem qhi {Γ : CEnv} (hg : ∀ n, Γ.glob n = globT n) (hs : ∀ s ∈ cx_view_Width.sigs, Contract Tryd.prog Γ gtabU s (Γ.pre s.no) (Γ.post s.no)) : CxOk cx_view_Width Γ := ⟨by kernel_rfl, hs, (fun x hx => by cases hx), (fun x hx => by cases hx)⟩
theorem qef {Γ : CEnv} (hg : ∀ n, Γ.glob n = globT n) (hs : ∀ s ∈ cx_view_Width.sigs, Contract Tryd.prog Γ gtabU s (Γ.pre s.no) (Γ.post s.no)) (k : Nat) {pre : List TV → Prop} {post : List TV → TV → Prop} (h : ∀ ts, ts.length = 1 → pre ts → tr_view_Width.den Γ (post ts) ts []) : Contract Tryd.prog Γ gtabU (qck k) pre post :=
  Contract.renum (zas (qhi hg hs) 4 sg_view_Width Tryd.func120 (by kernel_rfl) (by kernel_rfl) fun ts hl hp => by rw [qg0]; exact h ts hl hp) k
def sg_view_Index : Sig := ⟨90, 0, [(false, [(.slice true [.str, .bool, (.int .i64)])]), (false, [(.int .i64)])], [(false, [((.int .i64), none)])]⟩
def qc5 (k : Nat) : Sig := ⟨sg_view_Index.f, k, sg_view_Index.args, sg_view_Index.res⟩
def hd_view_Index : List (FuncId × Nat × Head) := [(90, 5, ⟨[0, 1, 5, 10, 11, 12], [], [12, 5], [], [], []⟩)]
def pl_view_Index : List (FuncId × Nat × Nat × Plan) := []
noncomputable def cx_view_Index : Cx := ⟨Tryd.prog, gtabU, [], [], hd_view_Index, pl_view_Index, []⟩
def tr_view_Index : Tree := (.br (.o2 .lti (.v 1) (.int 0))
  (.ret (.int (-1)))
  (.loop [(.int 0), (.int 0)]
    (.br (.o2 .lti (.v 3) (.o1 .len (.v 0)))
      (.req (.o2 .lei (.int 0) (.v 3)) (.req (.o2 .lti (.v 3) (.o1 .len (.v 0))) (.br (.o1 (.proj 1) (.o2 .idx (.v 0) (.v 3)))
        (.br (.o2 .lti (.v 1) (.o2 (.add .i64) (.o2 (.add .i64) (.v 2) (.int 1)) (.int 1)))
          (.ret (.v 3))
          (.back 0 [(.o2 (.add .i64) (.o2 (.add .i64) (.v 2) (.int 1)) (.int 1)), (.o2 (.add .i64) (.v 3) (.int 1))]))
        (.br (.o2 .lti (.v 1) (.o2 (.add .i64) (.v 2) (.int 1)))
          (.ret (.v 3))
          (.back 0 [(.o2 (.add .i64) (.v 2) (.int 1)), (.o2 (.add .i64) (.v 3) (.int 1))])))))
      (.ret (.o2 (.sub .i64) (.o2 (.add .i64) (.o1 .len (.v 0)) (.v 1)) (.v 2))))))
set_option maxRecDepth 100000 in
theorem qgt : za4 cx_view_Index 4 sg_view_Index Tryd.f90 (Tryd.f90.body.getD .skip) = tr_view_Index := by kernel_rfl
theorem qhu {Γ : CEnv} (hg : ∀ n, Γ.glob n = globT n) (hs : ∀ s ∈ cx_view_Index.sigs, Contract Tryd.prog Γ gtabU s (Γ.pre s.no) (Γ.post s.no)) : CxOk cx_view_Index Γ := ⟨by kernel_rfl, hs, (fun x hx => by cases hx), (fun x hx => by cases hx)⟩
theorem qej {Γ : CEnv} (hg : ∀ n, Γ.glob n = globT n) (hs : ∀ s ∈ cx_view_Index.sigs, Contract Tryd.prog Γ gtabU s (Γ.pre s.no) (Γ.post s.no)) (k : Nat) {pre : List TV → Prop} {post : List TV → TV → Prop} (h : ∀ ts, ts.length = 2 → pre ts → tr_view_Index.den Γ (post ts) ts []) : Contract Tryd.prog Γ gtabU (qc5 k) pre post :=
  Contract.renum (zas (qhu hg hs) 4 sg_view_Index Tryd.func90 (by kernel_rfl) (by kernel_rfl) fun ts hl hp => by rw [qgt]; exact h ts hl hp) k
def sg_view_Check : Sig := ⟨88, 0, [(true, [(.int .i64), (.int .i64), (.slice false [(.slice true [.str, .bool, (.int .i64)])]), (.int .i64), (.int .i64), .bool])], [(false, [((.int .i64), none)])]⟩
def qcj (k : Nat) : Sig := ⟨sg_view_Check.f, k, sg_view_Check.args, sg_view_Check.res⟩
def hd_view_Check : List (FuncId × Nat × Head) := [(88, 8, ⟨[1, 47, 48, 49], [.slot 1 true 61 false []], [49], [], [], []⟩), (88, 11, ⟨[1, 4, 47, 48, 49, 53, 54, 55], [.slot 1 true 61 false []], [55], [], [], []⟩)]
def pl_view_Check : List (FuncId × Nat × Nat × Plan) := [(88, 17, 5, (.op true 0 (.op true 2 (.op true 3 (.op false 1 (.op false 4 .nil)))))), (88, 20, 11, (.op true 0 (.op true 1 (.op true 2 (.op true 3 (.op true 4 (.op true 5 (.op true 6 (.op true 7 (.op false 8 (.op false 9 (.op false 10 .nil))))))))))))]
noncomputable def cx_view_Check : Cx := ⟨Tryd.prog, gtabU, [qc1 0, qc6 1, qcz 2, qck 3], [], hd_view_Check, pl_view_Check, []⟩
def tr_view_Check : Tree := (.call 0 [(.o1 (.proj 0) (.v 0)), (.o1 (.proj 1) (.v 0))]
  (.br (.o1 .no (.v 1))
    (.ret (.int 2))
    (.br (.o1 .no (.o2 .eqi (.o1 .len (.o1 (.proj 2) (.v 0))) (.o1 (.proj 1) (.v 0))))
      (.ret (.int 11))
      (.br (.o2 .lti (.o1 (.proj 3) (.v 0)) (.int 0))
        (.ret (.int 2))
        (.br (.o2 .lei (.o1 (.proj 1) (.v 0)) (.o1 (.proj 3) (.v 0)))
          (.ret (.int 2))
          (.br (.o2 .lti (.o1 (.proj 4) (.v 0)) (.int 0))
            (.ret (.int 2))
            (.br (.o2 .lei (.o1 (.proj 0) (.v 0)) (.o1 (.proj 4) (.v 0)))
              (.ret (.int 2))
              (.loop [(.int 0)]
                (.br (.o2 .lti (.v 2) (.o1 .len (.o1 (.proj 2) (.v 0))))
                  (.req (.o2 .lei (.int 0) (.v 2)) (.req (.o2 .lti (.v 2) (.o1 .len (.o1 (.proj 2) (.v 0)))) (.loop [(.int 0)]
                    (.br (.o2 .lti (.v 3) (.o1 .len (.o2 .idx (.o1 (.proj 2) (.v 0)) (.v 2))))
                      (.req (.o2 .lei (.int 0) (.v 3)) (.req (.o2 .lti (.v 3) (.o1 .len (.o2 .idx (.o1 (.proj 2) (.v 0)) (.v 2)))) (.call 1 [(.o1 .agg (.cons (.o1 (.proj 0) (.o2 .idx (.o2 .idx (.o1 (.proj 2) (.v 0)) (.v 2)) (.v 3))) (.cons (.o1 (.proj 1) (.o2 .idx (.o2 .idx (.o1 (.proj 2) (.v 0)) (.v 2)) (.v 3))) (.cons (.o1 (.proj 2) (.o2 .idx (.o2 .idx (.o1 (.proj 2) (.v 0)) (.v 2)) (.v 3))) .nil))))]
                        (.br (.o1 .no (.o2 .eqi (.v 4) (.int 0)))
                          (.ret (.v 4))
                          (.back 1 [(.o2 (.add .i64) (.v 3) (.int 1))])))))
                      (.call 3 [(.o2 .idx (.o1 (.proj 2) (.v 0)) (.v 2))]
                        (.br (.o2 .lti (.o1 (.proj 0) (.v 0)) (.v 4))
                          (.ret (.int 12))
                          (.br (.o2 .lti (.int 0) (.o1 .len (.o2 .idx (.o1 (.proj 2) (.v 0)) (.v 2))))
                            (.req (.o2 .lei (.int 0) (.o2 (.sub .i64) (.o1 .len (.o2 .idx (.o1 (.proj 2) (.v 0)) (.v 2))) (.int 1))) (.req (.o2 .lti (.o2 (.sub .i64) (.o1 .len (.o2 .idx (.o1 (.proj 2) (.v 0)) (.v 2))) (.int 1)) (.o1 .len (.o2 .idx (.o1 (.proj 2) (.v 0)) (.v 2)))) (.call 2 []
                              (.br (.o3 .ite (.o2 .eqs (.o1 (.proj 0) (.o2 .idx (.o2 .idx (.o1 (.proj 2) (.v 0)) (.v 2)) (.o2 (.sub .i64) (.o1 .len (.o2 .idx (.o1 (.proj 2) (.v 0)) (.v 2))) (.int 1)))) (.o1 (.proj 0) (.v 5))) (.o3 .ite (.o2 .eqb (.o1 (.proj 1) (.o2 .idx (.o2 .idx (.o1 (.proj 2) (.v 0)) (.v 2)) (.o2 (.sub .i64) (.o1 .len (.o2 .idx (.o1 (.proj 2) (.v 0)) (.v 2))) (.int 1)))) (.o1 (.proj 1) (.v 5))) (.o3 .ite (.o2 .eqi (.o1 (.proj 2) (.o2 .idx (.o2 .idx (.o1 (.proj 2) (.v 0)) (.v 2)) (.o2 (.sub .i64) (.o1 .len (.o2 .idx (.o1 (.proj 2) (.v 0)) (.v 2))) (.int 1)))) (.o1 (.proj 2) (.v 5))) (.bool true) (.bool false)) (.bool false)) (.bool false))
                                (.ret (.int 1))
                                (.back 0 [(.o2 (.add .i64) (.v 2) (.int 1))])))))
                            (.back 0 [(.o2 (.add .i64) (.v 2) (.int 1))]))))))))
                  (.ret (.int 0)))))))))))
set_option maxRecDepth 100000 in
theorem qgv : za4 cx_view_Check 4 sg_view_Check Tryd.f88 (Tryd.f88.body.getD .skip) = tr_view_Check := by kernel_rfl
theorem qg8 {Γ : CEnv} (hg : ∀ n, Γ.glob n = globT n) (hs : ∀ s ∈ cx_view_Check.sigs, Contract Tryd.prog Γ gtabU s (Γ.pre s.no) (Γ.post s.no)) : CxOk cx_view_Check Γ := ⟨by kernel_rfl, hs, (fun x hx => by cases hx), (fun x hx => by cases hx)⟩
theorem qep {Γ : CEnv} (hg : ∀ n, Γ.glob n = globT n) (hs : ∀ s ∈ cx_view_Check.sigs, Contract Tryd.prog Γ gtabU s (Γ.pre s.no) (Γ.post s.no)) (k : Nat) {pre : List TV → Prop} {post : List TV → TV → Prop} (h : ∀ ts, ts.length = 1 → pre ts → tr_view_Check.den Γ (post ts) ts []) : Contract Tryd.prog Γ gtabU (qcj k) pre post :=
  Contract.renum (zas (qg8 hg hs) 4 sg_view_Check Tryd.func88 (by kernel_rfl) (by kernel_rfl) fun ts hl hp => by rw [qgv]; exact h ts hl hp) k
def sg_display_proper : Sig := ⟨47, 0, [(true, [(.int .i64), (.int .i64), (.int .i64), .bool]), (true, [(.int .i64), (.int .i64), (.slice false [(.slice true [.str, .bool, (.int .i64)])]), (.int .i64), (.int .i64), .bool])], [(false, [(.bool, none)])]⟩
def qb4 (k : Nat) : Sig := ⟨sg_display_proper.f, k, sg_display_proper.args, sg_display_proper.res⟩
def qe8 : List (FuncId × Nat × Head) := []
def qfw : List (FuncId × Nat × Nat × Plan) := []
noncomputable def cx_display_proper : Cx := ⟨Tryd.prog, gtabU, [qcj 0], [], qe8, qfw, []⟩
def tr_display_proper : Tree := (.br (.o2 .lei (.int 1) (.o1 (.proj 0) (.v 0)))
  (.br (.o2 .lei (.o1 (.proj 0) (.v 0)) (.int 80))
    (.br (.o2 .lei (.int 0) (.o1 (.proj 1) (.v 0)))
      (.br (.o2 .lti (.o1 (.proj 1) (.v 0)) (.int 60))
        (.br (.o2 .lei (.int 0) (.o1 (.proj 2) (.v 0)))
          (.br (.o2 .lei (.o1 (.proj 2) (.v 0)) (.int 10000))
            (.call 0 [(.o1 .agg (.cons (.o1 (.proj 0) (.v 1)) (.cons (.o1 (.proj 1) (.v 1)) (.cons (.o1 (.proj 2) (.v 1)) (.cons (.o1 (.proj 3) (.v 1)) (.cons (.o1 (.proj 4) (.v 1)) (.cons (.o1 (.proj 5) (.v 1)) .nil)))))))]
              (.ret (.o2 .eqi (.v 2) (.int 0))))
            (.ret (.bool false)))
          (.ret (.bool false)))
        (.ret (.bool false)))
      (.ret (.bool false)))
    (.ret (.bool false)))
  (.ret (.bool false)))
set_option maxRecDepth 100000 in
theorem qek : za4 cx_display_proper 4 sg_display_proper Tryd.f47 (Tryd.f47.body.getD .skip) = tr_display_proper := by kernel_rfl
theorem qen {Γ : CEnv} (hg : ∀ n, Γ.glob n = globT n) (hs : ∀ s ∈ cx_display_proper.sigs, Contract Tryd.prog Γ gtabU s (Γ.pre s.no) (Γ.post s.no)) : CxOk cx_display_proper Γ := ⟨by kernel_rfl, hs, (fun x hx => by cases hx), (fun x hx => by cases hx)⟩
theorem contract_display_proper {Γ : CEnv} (hg : ∀ n, Γ.glob n = globT n) (hs : ∀ s ∈ cx_display_proper.sigs, Contract Tryd.prog Γ gtabU s (Γ.pre s.no) (Γ.post s.no)) (k : Nat) {pre : List TV → Prop} {post : List TV → TV → Prop} (h : ∀ ts, ts.length = 2 → pre ts → tr_display_proper.den Γ (post ts) ts []) : Contract Tryd.prog Γ gtabU (qb4 k) pre post :=
  Contract.renum (zas (qen hg hs) 4 sg_display_proper Tryd.func47 (by kernel_rfl) (by kernel_rfl) fun ts hl hp => by rw [qek]; exact h ts hl hp) k
def sg_display_current : Sig := ⟨48, 0, [(true, [(.int .i64), (.int .i64), (.int .i64), .bool]), (true, [(.int .i64), (.int .i64), (.slice false [(.slice true [.str, .bool, (.int .i64)])]), (.int .i64), (.int .i64), .bool])], [(false, [((.int .i64), none)])]⟩
def qcc (k : Nat) : Sig := ⟨sg_display_current.f, k, sg_display_current.args, sg_display_current.res⟩
def qe2 : List (FuncId × Nat × Head) := []
def qev : List (FuncId × Nat × Nat × Plan) := []
noncomputable def cx_display_current : Cx := ⟨Tryd.prog, gtabU, [], [], qe2, qev, []⟩
def tr_display_current : Tree := (.ret (.o2 .min (.o1 (.proj 1) (.v 0)) (.o2 (.sub .i64) (.o1 (.proj 1) (.v 1)) (.int 1))))
set_option maxRecDepth 100000 in
theorem qdw : za4 cx_display_current 4 sg_display_current Tryd.f48 (Tryd.f48.body.getD .skip) = tr_display_current := by kernel_rfl
theorem qd4 {Γ : CEnv} (hg : ∀ n, Γ.glob n = globT n) (hs : ∀ s ∈ cx_display_current.sigs, Contract Tryd.prog Γ gtabU s (Γ.pre s.no) (Γ.post s.no)) : CxOk cx_display_current Γ := ⟨by kernel_rfl, hs, (fun x hx => by cases hx), (fun x hx => by cases hx)⟩
theorem contract_display_current {Γ : CEnv} (hg : ∀ n, Γ.glob n = globT n) (hs : ∀ s ∈ cx_display_current.sigs, Contract Tryd.prog Γ gtabU s (Γ.pre s.no) (Γ.post s.no)) (k : Nat) {pre : List TV → Prop} {post : List TV → TV → Prop} (h : ∀ ts, ts.length = 2 → pre ts → tr_display_current.den Γ (post ts) ts []) : Contract Tryd.prog Γ gtabU (qcc k) pre post :=
  Contract.renum (zas (qd4 hg hs) 4 sg_display_current Tryd.func48 (by kernel_rfl) (by kernel_rfl) fun ts hl hp => by rw [qdw]; exact h ts hl hp) k
def sg_display_cursor : Sig := ⟨49, 0, [(true, [(.int .i64), (.int .i64), (.slice false [(.slice true [.str, .bool, (.int .i64)])]), (.int .i64), (.int .i64), .bool]), (true, [(.int .i64), .bool, .bool, (.int .i64), .bool, (.int .i64)])], [(false, [((.int .i64), none)])]⟩
def qce (k : Nat) : Sig := ⟨sg_display_cursor.f, k, sg_display_cursor.args, sg_display_cursor.res⟩
def qft : List (FuncId × Nat × Head) := []
def qfp : List (FuncId × Nat × Nat × Plan) := [(49, 2, 9, (.op true 0 (.op true 1 (.op true 3 (.op true 4 (.op true 5 (.op false 2 (.op false 6 (.op false 7 (.op false 8 .nil))))))))))]
noncomputable def cx_display_cursor : Cx := ⟨Tryd.prog, gtabU, [zbs 0, zb5 1, qc5 2], [], qft, qfp, []⟩
def tr_display_cursor : Tree := (.req (.o2 .lei (.int 0) (.o1 (.proj 3) (.v 0))) (.req (.o2 .lti (.o1 (.proj 3) (.v 0)) (.o1 .len (.o1 (.proj 2) (.v 0)))) (.call 0 [(.o2 .idx (.o1 (.proj 2) (.v 0)) (.o1 (.proj 3) (.v 0))), (.o1 .agg (.cons (.o1 (.proj 0) (.v 1)) (.cons (.o1 (.proj 1) (.v 1)) (.cons (.o1 (.proj 2) (.v 1)) (.cons (.o1 (.proj 3) (.v 1)) (.cons (.o1 (.proj 4) (.v 1)) (.cons (.o1 (.proj 5) (.v 1)) .nil)))))))]
  (.call 2 [(.o2 .idx (.o1 (.proj 2) (.v 0)) (.o1 (.proj 3) (.v 0))), (.o1 (.proj 4) (.v 0))]
    (.call 1 [(.o1 .agg (.cons (.o1 (.proj 0) (.v 2)) (.cons (.o1 (.proj 1) (.v 2)) .nil))), (.v 3)]
      (.ret (.v 4)))))))
set_option maxRecDepth 100000 in
theorem qes : za4 cx_display_cursor 4 sg_display_cursor Tryd.f49 (Tryd.f49.body.getD .skip) = tr_display_cursor := by kernel_rfl
theorem qee {Γ : CEnv} (hg : ∀ n, Γ.glob n = globT n) (hs : ∀ s ∈ cx_display_cursor.sigs, Contract Tryd.prog Γ gtabU s (Γ.pre s.no) (Γ.post s.no)) : CxOk cx_display_cursor Γ := ⟨by kernel_rfl, hs, (fun x hx => by cases hx), (fun x hx => by cases hx)⟩
theorem contract_display_cursor {Γ : CEnv} (hg : ∀ n, Γ.glob n = globT n) (hs : ∀ s ∈ cx_display_cursor.sigs, Contract Tryd.prog Γ gtabU s (Γ.pre s.no) (Γ.post s.no)) (k : Nat) {pre : List TV → Prop} {post : List TV → TV → Prop} (h : ∀ ts, ts.length = 2 → pre ts → tr_display_cursor.den Γ (post ts) ts []) : Contract Tryd.prog Γ gtabU (qce k) pre post :=
  Contract.renum (zas (qee hg hs) 4 sg_display_cursor Tryd.func49 (by kernel_rfl) (by kernel_rfl) fun ts hl hp => by rw [qes]; exact h ts hl hp) k
def sg_display_Show : Sig := ⟨20, 0, [(true, [(.int .i64), (.int .i64), (.int .i64), .bool]), (true, [(.int .i64), (.int .i64), (.slice false [(.slice true [.str, .bool, (.int .i64)])]), (.int .i64), (.int .i64), .bool]), (true, [(.int .i64), .bool, .bool, (.int .i64), .bool, (.int .i64)])], [(false, [((.slice false [(.int .u8)]), some 5)]), (false, [((.int .i64), none)])]⟩
def qca (k : Nat) : Sig := ⟨sg_display_Show.f, k, sg_display_Show.args, sg_display_Show.res⟩
def qg1 : List (FuncId × Nat × Head) := []
def qg7 : List (FuncId × Nat × Nat × Plan) := [(20, 4, 9, (.op true 0 (.op true 1 (.op true 2 (.op true 3 (.op true 4 (.op true 5 (.op false 6 (.op false 7 (.op false 8 .nil)))))))))), (20, 8, 7, (.op true 0 (.op true 1 (.op true 3 (.op true 4 (.op false 2 (.op false 5 (.op false 6 .nil))))))))]
noncomputable def cx_display_Show : Cx := ⟨Tryd.prog, gtabU, [zbs 0, qb4 1, qcc 2, qce 3], [], qg1, qg7, []⟩
def tr_display_Show : Tree := (.call 1 [(.o1 .agg (.cons (.o1 (.proj 0) (.v 0)) (.cons (.o1 (.proj 1) (.v 0)) (.cons (.o1 (.proj 2) (.v 0)) (.cons (.o1 (.proj 3) (.v 0)) .nil))))), (.o1 .agg (.cons (.o1 (.proj 0) (.v 1)) (.cons (.o1 (.proj 1) (.v 1)) (.cons (.o1 (.proj 2) (.v 1)) (.cons (.o1 (.proj 3) (.v 1)) (.cons (.o1 (.proj 4) (.v 1)) (.cons (.o1 (.proj 5) (.v 1)) .nil)))))))]
  (.br (.o1 .no (.v 3))
    (.ret (.o1 .agg (.cons .nil (.cons (.int (-1)) .nil))))
    (.call 2 [(.o1 .agg (.cons (.o1 (.proj 0) (.v 0)) (.cons (.o1 (.proj 1) (.v 0)) (.cons (.o1 (.proj 2) (.v 0)) (.cons (.o1 (.proj 3) (.v 0)) .nil))))), (.o1 .agg (.cons (.o1 (.proj 0) (.v 1)) (.cons (.o1 (.proj 1) (.v 1)) (.cons (.o1 (.proj 2) (.v 1)) (.cons (.o1 (.proj 3) (.v 1)) (.cons (.o1 (.proj 4) (.v 1)) (.cons (.o1 (.proj 5) (.v 1)) .nil)))))))]
      (.req (.o2 .lei (.int 0) (.v 4)) (.req (.o2 .lti (.v 4) (.o1 .len (.o1 (.proj 2) (.v 1)))) (.call 0 [(.o2 .idx (.o1 (.proj 2) (.v 1)) (.v 4)), (.o1 .agg (.cons (.o1 (.proj 0) (.v 2)) (.cons (.o1 (.proj 1) (.v 2)) (.cons (.o1 (.proj 2) (.v 2)) (.cons (.o1 (.proj 3) (.v 2)) (.cons (.o1 (.proj 4) (.v 2)) (.cons (.o1 (.proj 5) (.v 2)) .nil)))))))]
        (.req (.o2 .lei (.int 0) (.o1 (.proj 0) (.v 0))) (.req (.o2 .lei (.o1 (.proj 0) (.v 0)) (.o1 (.proj 0) (.v 0))) (.req (.o2 .lei (.o1 (.proj 0) (.v 0)) (.int 1099511627776)) (.br (.o2 .lti (.o1 (.proj 2) (.v 0)) (.o1 .len (.o1 (.proj 0) (.v 5))))
          (.req (.o2 .lei (.int 0) (.o1 (.proj 2) (.v 0))) (.req (.o2 .lei (.o1 (.proj 2) (.v 0)) (.o1 .len (.o1 (.proj 0) (.v 5)))) (.call 3 [(.o1 .agg (.cons (.o1 (.proj 0) (.v 1)) (.cons (.o1 (.proj 1) (.v 1)) (.cons (.o1 (.proj 2) (.v 1)) (.cons (.o1 (.proj 3) (.v 1)) (.cons (.o1 (.proj 4) (.v 1)) (.cons (.o1 (.proj 5) (.v 1)) .nil))))))), (.o1 .agg (.cons (.o1 (.proj 0) (.v 2)) (.cons (.o1 (.proj 1) (.v 2)) (.cons (.o1 (.proj 2) (.v 2)) (.cons (.o1 (.proj 3) (.v 2)) (.cons (.o1 (.proj 4) (.v 2)) (.cons (.o1 (.proj 5) (.v 2)) .nil)))))))]
            (.br (.o2 .eqi (.v 4) (.o1 (.proj 3) (.v 1)))
              (.br (.o1 (.proj 5) (.v 1))
                (.br (.o2 .lei (.int 0) (.o2 (.sub .i64) (.v 6) (.o1 (.proj 2) (.v 0))))
                  (.br (.o2 .lti (.o2 (.sub .i64) (.v 6) (.o1 (.proj 2) (.v 0))) (.o1 (.proj 0) (.v 0)))
                    (.ret (.o1 .agg (.cons (.o2 .app (.o3 .sub (.o3 .sub (.o1 (.proj 0) (.v 5)) (.o1 (.proj 2) (.v 0)) (.o1 .len (.o1 (.proj 0) (.v 5)))) (.int 0) (.o2 .min (.o1 .len (.o3 .sub (.o1 (.proj 0) (.v 5)) (.o1 (.proj 2) (.v 0)) (.o1 .len (.o1 (.proj 0) (.v 5))))) (.o1 .len (.o2 .repl (.o1 (.proj 0) (.v 0)) (.int 0))))) (.o3 .sub (.o2 .repl (.o1 (.proj 0) (.v 0)) (.int 0)) (.o2 .min (.o1 .len (.o3 .sub (.o1 (.proj 0) (.v 5)) (.o1 (.proj 2) (.v 0)) (.o1 .len (.o1 (.proj 0) (.v 5))))) (.o1 .len (.o2 .repl (.o1 (.proj 0) (.v 0)) (.int 0)))) (.o1 .len (.o2 .repl (.o1 (.proj 0) (.v 0)) (.int 0))))) (.cons (.o2 (.sub .i64) (.v 6) (.o1 (.proj 2) (.v 0))) .nil))))
                    (.ret (.o1 .agg (.cons (.o2 .app (.o3 .sub (.o3 .sub (.o1 (.proj 0) (.v 5)) (.o1 (.proj 2) (.v 0)) (.o1 .len (.o1 (.proj 0) (.v 5)))) (.int 0) (.o2 .min (.o1 .len (.o3 .sub (.o1 (.proj 0) (.v 5)) (.o1 (.proj 2) (.v 0)) (.o1 .len (.o1 (.proj 0) (.v 5))))) (.o1 .len (.o2 .repl (.o1 (.proj 0) (.v 0)) (.int 0))))) (.o3 .sub (.o2 .repl (.o1 (.proj 0) (.v 0)) (.int 0)) (.o2 .min (.o1 .len (.o3 .sub (.o1 (.proj 0) (.v 5)) (.o1 (.proj 2) (.v 0)) (.o1 .len (.o1 (.proj 0) (.v 5))))) (.o1 .len (.o2 .repl (.o1 (.proj 0) (.v 0)) (.int 0)))) (.o1 .len (.o2 .repl (.o1 (.proj 0) (.v 0)) (.int 0))))) (.cons (.int (-1)) .nil)))))
                  (.ret (.o1 .agg (.cons (.o2 .app (.o3 .sub (.o3 .sub (.o1 (.proj 0) (.v 5)) (.o1 (.proj 2) (.v 0)) (.o1 .len (.o1 (.proj 0) (.v 5)))) (.int 0) (.o2 .min (.o1 .len (.o3 .sub (.o1 (.proj 0) (.v 5)) (.o1 (.proj 2) (.v 0)) (.o1 .len (.o1 (.proj 0) (.v 5))))) (.o1 .len (.o2 .repl (.o1 (.proj 0) (.v 0)) (.int 0))))) (.o3 .sub (.o2 .repl (.o1 (.proj 0) (.v 0)) (.int 0)) (.o2 .min (.o1 .len (.o3 .sub (.o1 (.proj 0) (.v 5)) (.o1 (.proj 2) (.v 0)) (.o1 .len (.o1 (.proj 0) (.v 5))))) (.o1 .len (.o2 .repl (.o1 (.proj 0) (.v 0)) (.int 0)))) (.o1 .len (.o2 .repl (.o1 (.proj 0) (.v 0)) (.int 0))))) (.cons (.int (-1)) .nil)))))
                (.ret (.o1 .agg (.cons (.o2 .app (.o3 .sub (.o3 .sub (.o1 (.proj 0) (.v 5)) (.o1 (.proj 2) (.v 0)) (.o1 .len (.o1 (.proj 0) (.v 5)))) (.int 0) (.o2 .min (.o1 .len (.o3 .sub (.o1 (.proj 0) (.v 5)) (.o1 (.proj 2) (.v 0)) (.o1 .len (.o1 (.proj 0) (.v 5))))) (.o1 .len (.o2 .repl (.o1 (.proj 0) (.v 0)) (.int 0))))) (.o3 .sub (.o2 .repl (.o1 (.proj 0) (.v 0)) (.int 0)) (.o2 .min (.o1 .len (.o3 .sub (.o1 (.proj 0) (.v 5)) (.o1 (.proj 2) (.v 0)) (.o1 .len (.o1 (.proj 0) (.v 5))))) (.o1 .len (.o2 .repl (.o1 (.proj 0) (.v 0)) (.int 0)))) (.o1 .len (.o2 .repl (.o1 (.proj 0) (.v 0)) (.int 0))))) (.cons (.int (-1)) .nil)))))
              (.ret (.o1 .agg (.cons (.o2 .app (.o3 .sub (.o3 .sub (.o1 (.proj 0) (.v 5)) (.o1 (.proj 2) (.v 0)) (.o1 .len (.o1 (.proj 0) (.v 5)))) (.int 0) (.o2 .min (.o1 .len (.o3 .sub (.o1 (.proj 0) (.v 5)) (.o1 (.proj 2) (.v 0)) (.o1 .len (.o1 (.proj 0) (.v 5))))) (.o1 .len (.o2 .repl (.o1 (.proj 0) (.v 0)) (.int 0))))) (.o3 .sub (.o2 .repl (.o1 (.proj 0) (.v 0)) (.int 0)) (.o2 .min (.o1 .len (.o3 .sub (.o1 (.proj 0) (.v 5)) (.o1 (.proj 2) (.v 0)) (.o1 .len (.o1 (.proj 0) (.v 5))))) (.o1 .len (.o2 .repl (.o1 (.proj 0) (.v 0)) (.int 0)))) (.o1 .len (.o2 .repl (.o1 (.proj 0) (.v 0)) (.int 0))))) (.cons (.int (-1)) .nil))))))))
          (.call 3 [(.o1 .agg (.cons (.o1 (.proj 0) (.v 1)) (.cons (.o1 (.proj 1) (.v 1)) (.cons (.o1 (.proj 2) (.v 1)) (.cons (.o1 (.proj 3) (.v 1)) (.cons (.o1 (.proj 4) (.v 1)) (.cons (.o1 (.proj 5) (.v 1)) .nil))))))), (.o1 .agg (.cons (.o1 (.proj 0) (.v 2)) (.cons (.o1 (.proj 1) (.v 2)) (.cons (.o1 (.proj 2) (.v 2)) (.cons (.o1 (.proj 3) (.v 2)) (.cons (.o1 (.proj 4) (.v 2)) (.cons (.o1 (.proj 5) (.v 2)) .nil)))))))]
            (.br (.o2 .eqi (.v 4) (.o1 (.proj 3) (.v 1)))
              (.br (.o1 (.proj 5) (.v 1))
                (.br (.o2 .lei (.int 0) (.o2 (.sub .i64) (.v 6) (.o1 (.proj 2) (.v 0))))
                  (.br (.o2 .lti (.o2 (.sub .i64) (.v 6) (.o1 (.proj 2) (.v 0))) (.o1 (.proj 0) (.v 0)))
                    (.ret (.o1 .agg (.cons (.o2 .repl (.o1 (.proj 0) (.v 0)) (.int 0)) (.cons (.o2 (.sub .i64) (.v 6) (.o1 (.proj 2) (.v 0))) .nil))))
                    (.ret (.o1 .agg (.cons (.o2 .repl (.o1 (.proj 0) (.v 0)) (.int 0)) (.cons (.int (-1)) .nil)))))
                  (.ret (.o1 .agg (.cons (.o2 .repl (.o1 (.proj 0) (.v 0)) (.int 0)) (.cons (.int (-1)) .nil)))))
                (.ret (.o1 .agg (.cons (.o2 .repl (.o1 (.proj 0) (.v 0)) (.int 0)) (.cons (.int (-1)) .nil)))))
              (.ret (.o1 .agg (.cons (.o2 .repl (.o1 (.proj 0) (.v 0)) (.int 0)) (.cons (.int (-1)) .nil))))))))))))))))
set_option maxRecDepth 100000 in
theorem qfv : za4 cx_display_Show 4 sg_display_Show Tryd.f20 (Tryd.f20.body.getD .skip) = tr_display_Show := by kernel_rfl
theorem qfe {Γ : CEnv} (hg : ∀ n, Γ.glob n = globT n) (hs : ∀ s ∈ cx_display_Show.sigs, Contract Tryd.prog Γ gtabU s (Γ.pre s.no) (Γ.post s.no)) : CxOk cx_display_Show Γ := ⟨by kernel_rfl, hs, (fun x hx => by cases hx), (fun x hx => by cases hx)⟩
theorem contract_display_Show {Γ : CEnv} (hg : ∀ n, Γ.glob n = globT n) (hs : ∀ s ∈ cx_display_Show.sigs, Contract Tryd.prog Γ gtabU s (Γ.pre s.no) (Γ.post s.no)) (k : Nat) {pre : List TV → Prop} {post : List TV → TV → Prop} (h : ∀ ts, ts.length = 3 → pre ts → tr_display_Show.den Γ (post ts) ts []) : Contract Tryd.prog Γ gtabU (qca k) pre post :=
  Contract.renum (zas (qfe hg hs) 4 sg_display_Show Tryd.func20 (by kernel_rfl) (by kernel_rfl) fun ts hl hp => by rw [qfv]; exact h ts hl hp) k
def sg_display_New : Sig := ⟨18, 0, [(false, [(.int .i64)])], [(true, [((.int .i64), none), ((.int .i64), none), ((.int .i64), none), (.bool, none)]), (false, [((.int .i64), none)])]⟩
def qcs (k : Nat) : Sig := ⟨sg_display_New.f, k, sg_display_New.args, sg_display_New.res⟩
def hd_display_New : List (FuncId × Nat × Head) := []
def pl_display_New : List (FuncId × Nat × Nat × Plan) := []
noncomputable def cx_display_New : Cx := ⟨Tryd.prog, gtabU, [], [], hd_display_New, pl_display_New, []⟩
def tr_display_New : Tree := (.br (.o2 .lti (.v 0) (.int 1))
  (.ret (.o1 .agg (.cons (.o1 .agg (.cons (.int 0) (.cons (.int 0) (.cons (.int 0) (.cons (.bool false) .nil))))) (.cons (.int 2) .nil))))
  (.br (.o2 .lti (.int 80) (.v 0))
    (.ret (.o1 .agg (.cons (.o1 .agg (.cons (.int 0) (.cons (.int 0) (.cons (.int 0) (.cons (.bool false) .nil))))) (.cons (.int 2) .nil))))
    (.ret (.o1 .agg (.cons (.o1 .agg (.cons (.v 0) (.cons (.int 0) (.cons (.int 0) (.cons (.bool true) .nil))))) (.cons (.int 0) .nil))))))
set_option maxRecDepth 100000 in
theorem qf6 : za4 cx_display_New 4 sg_display_New Tryd.f18 (Tryd.f18.body.getD .skip) = tr_display_New := by kernel_rfl
theorem qge {Γ : CEnv} (hg : ∀ n, Γ.glob n = globT n) (hs : ∀ s ∈ cx_display_New.sigs, Contract Tryd.prog Γ gtabU s (Γ.pre s.no) (Γ.post s.no)) : CxOk cx_display_New Γ := ⟨by kernel_rfl, hs, (fun x hx => by cases hx), (fun x hx => by cases hx)⟩
theorem contract_display_New {Γ : CEnv} (hg : ∀ n, Γ.glob n = globT n) (hs : ∀ s ∈ cx_display_New.sigs, Contract Tryd.prog Γ gtabU s (Γ.pre s.no) (Γ.post s.no)) (k : Nat) {pre : List TV → Prop} {post : List TV → TV → Prop} (h : ∀ ts, ts.length = 1 → pre ts → tr_display_New.den Γ (post ts) ts []) : Contract Tryd.prog Γ gtabU (qcs k) pre post :=
  Contract.renum (zas (qge hg hs) 4 sg_display_New Tryd.func18 (by kernel_rfl) (by kernel_rfl) fun ts hl hp => by rw [qf6]; exact h ts hl hp) k
def sg_display_Pan : Sig := ⟨21, 0, [(true, [(.int .i64), (.int .i64), (.int .i64), .bool]), (true, [(.int .i64), (.int .i64), (.slice false [(.slice true [.str, .bool, (.int .i64)])]), (.int .i64), (.int .i64), .bool]), (true, [(.int .i64), .bool, .bool, (.int .i64), .bool, (.int .i64)]), (false, [(.int .i64)])], [(true, [((.int .i64), none), ((.int .i64), none), ((.int .i64), none), (.bool, none)])]⟩
def qea (k : Nat) : Sig := ⟨sg_display_Pan.f, k, sg_display_Pan.args, sg_display_Pan.res⟩
def hd_display_Pan : List (FuncId × Nat × Head) := []
def pl_display_Pan : List (FuncId × Nat × Nat × Plan) := []
noncomputable def cx_display_Pan : Cx := ⟨Tryd.prog, gtabU, [qc9 0, qb4 1], [], hd_display_Pan, pl_display_Pan, []⟩
def tr_display_Pan : Tree := (.call 1 [(.o1 .agg (.cons (.o1 (.proj 0) (.v 0)) (.cons (.o1 (.proj 1) (.v 0)) (.cons (.o1 (.proj 2) (.v 0)) (.cons (.o1 (.proj 3) (.v 0)) .nil))))), (.o1 .agg (.cons (.o1 (.proj 0) (.v 1)) (.cons (.o1 (.proj 1) (.v 1)) (.cons (.o1 (.proj 2) (.v 1)) (.cons (.o1 (.proj 3) (.v 1)) (.cons (.o1 (.proj 4) (.v 1)) (.cons (.o1 (.proj 5) (.v 1)) .nil)))))))]
  (.br (.o1 .no (.v 4))
    (.ret (.o1 .agg (.cons (.o1 (.proj 0) (.v 0)) (.cons (.o1 (.proj 1) (.v 0)) (.cons (.o1 (.proj 2) (.v 0)) (.cons (.o1 (.proj 3) (.v 0)) .nil))))))
    (.call 0 [(.o1 .agg (.cons (.o1 (.proj 0) (.v 0)) (.cons (.o1 (.proj 1) (.v 0)) (.cons (.o1 (.proj 2) (.v 0)) (.cons (.o1 (.proj 3) (.v 0)) .nil))))), (.o1 .agg (.cons (.o1 (.proj 0) (.v 1)) (.cons (.o1 (.proj 1) (.v 1)) (.cons (.o1 (.proj 2) (.v 1)) (.cons (.o1 (.proj 3) (.v 1)) (.cons (.o1 (.proj 4) (.v 1)) (.cons (.o1 (.proj 5) (.v 1)) .nil))))))), (.o1 .agg (.cons (.o1 (.proj 0) (.v 2)) (.cons (.o1 (.proj 1) (.v 2)) (.cons (.o1 (.proj 2) (.v 2)) (.cons (.o1 (.proj 3) (.v 2)) (.cons (.o1 (.proj 4) (.v 2)) (.cons (.o1 (.proj 5) (.v 2)) .nil))))))), (.v 3)]
      (.ret (.o1 .agg (.cons (.o1 (.proj 0) (.v 5)) (.cons (.o1 (.proj 1) (.v 5)) (.cons (.o1 (.proj 2) (.v 5)) (.cons (.bool false) .nil)))))))))
set_option maxRecDepth 100000 in
theorem qf5 : za4 cx_display_Pan 4 sg_display_Pan Tryd.f21 (Tryd.f21.body.getD .skip) = tr_display_Pan := by kernel_rfl
theorem qf9 {Γ : CEnv} (hg : ∀ n, Γ.glob n = globT n) (hs : ∀ s ∈ cx_display_Pan.sigs, Contract Tryd.prog Γ gtabU s (Γ.pre s.no) (Γ.post s.no)) : CxOk cx_display_Pan Γ := ⟨by kernel_rfl, hs, (fun x hx => by cases hx), (fun x hx => by cases hx)⟩
theorem contract_display_Pan {Γ : CEnv} (hg : ∀ n, Γ.glob n = globT n) (hs : ∀ s ∈ cx_display_Pan.sigs, Contract Tryd.prog Γ gtabU s (Γ.pre s.no) (Γ.post s.no)) (k : Nat) {pre : List TV → Prop} {post : List TV → TV → Prop} (h : ∀ ts, ts.length = 4 → pre ts → tr_display_Pan.den Γ (post ts) ts []) : Contract Tryd.prog Γ gtabU (qea k) pre post :=
  Contract.renum (zas (qf9 hg hs) 4 sg_display_Pan Tryd.func21 (by kernel_rfl) (by kernel_rfl) fun ts hl hp => by rw [qf5]; exact h ts hl hp) k
def sg_view_Blank : Sig := ⟨43, 0, [(false, [(.int .i64)]), (false, [(.int .i64)])], [(true, [((.int .i64), none), ((.int .i64), none), ((.slice false [(.slice true [.str, .bool, (.int .i64)])]), some 23), ((.int .i64), none), ((.int .i64), none), (.bool, none)]), (false, [((.int .i64), none)])]⟩
def qjp (k : Nat) : Sig := ⟨sg_view_Blank.f, k, sg_view_Blank.args, sg_view_Blank.res⟩
def hd_view_Blank : List (FuncId × Nat × Head) := []
def pl_view_Blank : List (FuncId × Nat × Nat × Plan) := []
noncomputable def cx_view_Blank : Cx := ⟨Tryd.prog, gtabU, [qc1 0], [], hd_view_Blank, pl_view_Blank, []⟩
def tr_view_Blank : Tree := (.call 0 [(.v 0), (.v 1)]
  (.br (.o1 .no (.v 2))
    (.ret (.o1 .agg (.cons (.o1 .agg (.cons (.int 0) (.cons (.int 0) (.cons .nil (.cons (.int 0) (.cons (.int 0) (.cons (.bool false) .nil))))))) (.cons (.int 2) .nil))))
    (.req (.o2 .lei (.int 0) (.v 1)) (.req (.o2 .lei (.v 1) (.v 1)) (.req (.o2 .lei (.v 1) (.int 1099511627776)) (.ret (.o1 .agg (.cons (.o1 .agg (.cons (.v 0) (.cons (.v 1) (.cons (.o2 .repl (.v 1) .nil) (.cons (.int 0) (.cons (.int 0) (.cons (.bool true) .nil))))))) (.cons (.int 0) .nil)))))))))
set_option maxRecDepth 100000 in
theorem qjt : za4 cx_view_Blank 4 sg_view_Blank Tryd.f43 (Tryd.f43.body.getD .skip) = tr_view_Blank := by kernel_rfl
theorem qju {Γ : CEnv} (hg : ∀ n, Γ.glob n = globT n) (hs : ∀ s ∈ cx_view_Blank.sigs, Contract Tryd.prog Γ gtabU s (Γ.pre s.no) (Γ.post s.no)) : CxOk cx_view_Blank Γ := ⟨by kernel_rfl, hs, (fun x hx => by cases hx), (fun x hx => by cases hx)⟩
theorem contract_view_Blank {Γ : CEnv} (hg : ∀ n, Γ.glob n = globT n) (hs : ∀ s ∈ cx_view_Blank.sigs, Contract Tryd.prog Γ gtabU s (Γ.pre s.no) (Γ.post s.no)) (k : Nat) {pre : List TV → Prop} {post : List TV → TV → Prop} (h : ∀ ts, ts.length = 2 → pre ts → tr_view_Blank.den Γ (post ts) ts []) : Contract Tryd.prog Γ gtabU (qjp k) pre post :=
  Contract.renum (zas (qju hg hs) 4 sg_view_Blank Tryd.func43 (by kernel_rfl) (by kernel_rfl) fun ts hl hp => by rw [qjt]; exact h ts hl hp) k
def sg_narratortop_top42Small : Sig := ⟨16, 0, [(true, [(.int .i64), (.int .i64), (.slice false [(.slice true [.str, .bool, (.int .i64)])]), (.int .i64), (.int .i64), .bool])], [(false, [(.bool, none)])]⟩
def qiz (k : Nat) : Sig := ⟨sg_narratortop_top42Small.f, k, sg_narratortop_top42Small.args, sg_narratortop_top42Small.res⟩
def qji : List (FuncId × Nat × Head) := []
def qjh : List (FuncId × Nat × Nat × Plan) := []
noncomputable def cx_narratortop_top42Small : Cx := ⟨Tryd.prog, gtabU, [qb1 0, qb7 1], [], qji, qjh, []⟩
def tr_narratortop_top42Small : Tree := (.call 0 [(.o1 .agg (.cons (.o1 (.proj 0) (.v 0)) (.cons (.o1 (.proj 1) (.v 0)) (.cons (.o1 (.proj 2) (.v 0)) (.cons (.o1 (.proj 3) (.v 0)) (.cons (.o1 (.proj 4) (.v 0)) (.cons (.o1 (.proj 5) (.v 0)) .nil)))))))]
  (.br (.o1 .no (.v 1))
    (.br (.o2 .lei (.o1 .len (.o1 (.proj 2) (.v 0))) (.int 8))
      (.br (.o2 .lei (.o1 (.proj 0) (.v 0)) (.int 20))
        (.call 1 [(.o1 .agg (.cons (.o1 (.proj 0) (.v 0)) (.cons (.o1 (.proj 1) (.v 0)) (.cons (.o1 (.proj 2) (.v 0)) (.cons (.o1 (.proj 3) (.v 0)) (.cons (.o1 (.proj 4) (.v 0)) (.cons (.o1 (.proj 5) (.v 0)) .nil)))))))]
          (.ret (.o2 .eqi (.v 2) (.int 0))))
        (.ret (.bool false)))
      (.ret (.bool false)))
    (.ret (.bool false))))
set_option maxRecDepth 100000 in
theorem qjc : za4 cx_narratortop_top42Small 4 sg_narratortop_top42Small Tryd.f16 (Tryd.f16.body.getD .skip) = tr_narratortop_top42Small := by kernel_rfl
theorem qjb {Γ : CEnv} (hg : ∀ n, Γ.glob n = globT n) (hs : ∀ s ∈ cx_narratortop_top42Small.sigs, Contract Tryd.prog Γ gtabU s (Γ.pre s.no) (Γ.post s.no)) : CxOk cx_narratortop_top42Small Γ := ⟨by kernel_rfl, hs, (fun x hx => by cases hx), (fun x hx => by cases hx)⟩
theorem qjq {Γ : CEnv} (hg : ∀ n, Γ.glob n = globT n) (hs : ∀ s ∈ cx_narratortop_top42Small.sigs, Contract Tryd.prog Γ gtabU s (Γ.pre s.no) (Γ.post s.no)) (k : Nat) {pre : List TV → Prop} {post : List TV → TV → Prop} (h : ∀ ts, ts.length = 1 → pre ts → tr_narratortop_top42Small.den Γ (post ts) ts []) : Contract Tryd.prog Γ gtabU (qiz k) pre post :=
  Contract.renum (zas (qjb hg hs) 4 sg_narratortop_top42Small Tryd.func16 (by kernel_rfl) (by kernel_rfl) fun ts hl hp => by rw [qjc]; exact h ts hl hp) k
def sg_narratortop_top54Felt : Sig := ⟨17, 0, [], [(false, [(.bool, none)])]⟩
def qi0 (k : Nat) : Sig := ⟨sg_narratortop_top54Felt.f, k, sg_narratortop_top54Felt.args, sg_narratortop_top54Felt.res⟩
def qjj : List (FuncId × Nat × Head) := []
def qjm : List (FuncId × Nat × Nat × Plan) := [(17, 7, 21, (.op true 0 (.op true 1 (.op true 2 (.op true 3 (.op true 4 (.op true 5 (.op true 6 (.op true 7 (.op true 8 (.op true 9 (.op true 10 (.op true 11 (.op true 12 (.op true 13 (.op true 14 (.op true 15 (.op true 16 (.op true 17 (.op true 18 (.op true 19 (.op true 20 .nil))))))))))))))))))))))]
noncomputable def cx_narratortop_top54Felt : Cx := ⟨Tryd.prog, gtabU, [qca 0, qcs 1, qjp 2], [], qjj, qjm, []⟩
def tr_narratortop_top54Felt : Tree := (.call 2 [(.int 5), (.int 1)]
  (.br (.o1 .no (.o2 .eqi (.o1 (.proj 1) (.v 0)) (.int 0)))
    (.ret (.bool false))
    (.br (.o1 .no (.o2 .eqi (.o1 .len (.o1 (.proj 2) (.o1 (.proj 0) (.v 0)))) (.int 1)))
      (.ret (.bool false))
      (.call 1 [(.int 2)]
        (.call 0 [(.o1 .agg (.cons (.o1 (.proj 0) (.o1 (.proj 0) (.v 1))) (.cons (.o1 (.proj 1) (.o1 (.proj 0) (.v 1))) (.cons (.o1 (.proj 2) (.o1 (.proj 0) (.v 1))) (.cons (.o1 (.proj 3) (.o1 (.proj 0) (.v 1))) .nil))))), (.o1 .agg (.cons (.o1 (.proj 0) (.o1 (.proj 0) (.v 0))) (.cons (.o1 (.proj 1) (.o1 (.proj 0) (.v 0))) (.cons (.cons (.cons (.o1 .agg (.cons (.str [97]) (.cons (.bool false) (.cons (.int 0) .nil)))) (.cons (.o1 .agg (.cons (.str [98]) (.cons (.bool false) (.cons (.int 0) .nil)))) (.cons (.o1 .agg (.cons (.str [99]) (.cons (.bool false) (.cons (.int 0) .nil)))) .nil))) .nil) (.cons (.o1 (.proj 3) (.o1 (.proj 0) (.v 0))) (.cons (.o1 (.proj 4) (.o1 (.proj 0) (.v 0))) (.cons (.o1 (.proj 5) (.o1 (.proj 0) (.v 0))) .nil))))))), (.o1 .agg (.cons (.int 0) (.cons (.bool false) (.cons (.bool false) (.cons (.int 0) (.cons (.bool false) (.cons (.int 0) .nil)))))))]
          (.br (.o2 .eqi (.o1 (.proj 1) (.v 1)) (.int 0))
            (.br (.o2 .eqi (.o1 .len (.o1 (.proj 0) (.v 2))) (.int 2))
              (.br (.o2 .eqi (.o1 (.proj 1) (.v 2)) (.int 0))
                (.req (.o2 .lti (.int 0) (.o1 .len (.o1 (.proj 0) (.v 2)))) (.req (.o2 .lti (.int 1) (.o1 .len (.o1 (.proj 0) (.v 2)))) (.ret (.o1 .no (.o2 .eqi (.o2 .idx (.o1 (.proj 0) (.v 2)) (.int 0)) (.o2 .idx (.o1 (.proj 0) (.v 2)) (.int 1)))))))
                (.ret (.bool false)))
              (.ret (.bool false)))
            (.ret (.bool false))))))))
set_option maxRecDepth 100000 in
theorem qjd : za4 cx_narratortop_top54Felt 4 sg_narratortop_top54Felt Tryd.f17 (Tryd.f17.body.getD .skip) = tr_narratortop_top54Felt := by kernel_rfl
theorem qjg {Γ : CEnv} (hg : ∀ n, Γ.glob n = globT n) (hs : ∀ s ∈ cx_narratortop_top54Felt.sigs, Contract Tryd.prog Γ gtabU s (Γ.pre s.no) (Γ.post s.no)) : CxOk cx_narratortop_top54Felt Γ := ⟨by kernel_rfl, hs, (fun x hx => by cases hx), (fun x hx => by cases hx)⟩
theorem qjs {Γ : CEnv} (hg : ∀ n, Γ.glob n = globT n) (hs : ∀ s ∈ cx_narratortop_top54Felt.sigs, Contract Tryd.prog Γ gtabU s (Γ.pre s.no) (Γ.post s.no)) (k : Nat) {pre : List TV → Prop} {post : List TV → TV → Prop} (h : ∀ ts, ts.length = 0 → pre ts → tr_narratortop_top54Felt.den Γ (post ts) ts []) : Contract Tryd.prog Γ gtabU (qi0 k) pre post :=
  Contract.renum (zas (qjg hg hs) 4 sg_narratortop_top54Felt Tryd.func17 (by kernel_rfl) (by kernel_rfl) fun ts hl hp => by rw [qjd]; exact h ts hl hp) k
def sg_narratortop_top54Unstyled : Sig := ⟨24, 0, [(false, [(.slice true [.str, .bool, (.int .i64)])])], [(false, [((.slice true [.str, .bool, (.int .i64)]), some 107)])]⟩
def qiy (k : Nat) : Sig := ⟨sg_narratortop_top54Unstyled.f, k, sg_narratortop_top54Unstyled.args, sg_narratortop_top54Unstyled.res⟩
def qja : List (FuncId × Nat × Head) := [(24, 3, ⟨[3, 7, 8, 9], [.slot 3 true 107 true [.str, .bool, (.int .i64)]], [9], [0], [], []⟩)]
def qi9 : List (FuncId × Nat × Nat × Plan) := []
noncomputable def cx_narratortop_top54Unstyled : Cx := ⟨Tryd.prog, gtabU, [], [], qja, qi9, []⟩
def tr_narratortop_top54Unstyled : Tree := (.loop [(.int 0), .nil]
  (.br (.o2 .lti (.v 1) (.o1 .len (.v 0)))
    (.req (.o2 .lei (.int 0) (.v 1)) (.req (.o2 .lti (.v 1) (.o1 .len (.v 0))) (.req (.o2 .lei (.o1 .len (.o2 .app (.v 2) (.cons (.o1 .agg (.cons (.o1 (.proj 0) (.o2 .idx (.v 0) (.v 1))) (.cons (.o1 (.proj 1) (.o2 .idx (.v 0) (.v 1))) (.cons (.int 0) .nil)))) .nil))) (.int 1099511627776)) (.back 0 [(.o2 (.add .i64) (.v 1) (.int 1)), (.o2 .app (.v 2) (.cons (.o1 .agg (.cons (.o1 (.proj 0) (.o2 .idx (.v 0) (.v 1))) (.cons (.o1 (.proj 1) (.o2 .idx (.v 0) (.v 1))) (.cons (.int 0) .nil)))) .nil))]))))
    (.ret (.v 2))))
set_option maxRecDepth 100000 in
theorem qi4 : za4 cx_narratortop_top54Unstyled 4 sg_narratortop_top54Unstyled Tryd.f24 (Tryd.f24.body.getD .skip) = tr_narratortop_top54Unstyled := by kernel_rfl
theorem qi5 {Γ : CEnv} (hg : ∀ n, Γ.glob n = globT n) (hs : ∀ s ∈ cx_narratortop_top54Unstyled.sigs, Contract Tryd.prog Γ gtabU s (Γ.pre s.no) (Γ.post s.no)) : CxOk cx_narratortop_top54Unstyled Γ := ⟨by kernel_rfl, hs, (fun x hx => by cases hx), (fun x hx => by cases hx)⟩
theorem qjo {Γ : CEnv} (hg : ∀ n, Γ.glob n = globT n) (hs : ∀ s ∈ cx_narratortop_top54Unstyled.sigs, Contract Tryd.prog Γ gtabU s (Γ.pre s.no) (Γ.post s.no)) (k : Nat) {pre : List TV → Prop} {post : List TV → TV → Prop} (h : ∀ ts, ts.length = 1 → pre ts → tr_narratortop_top54Unstyled.den Γ (post ts) ts []) : Contract Tryd.prog Γ gtabU (qiy k) pre post :=
  Contract.renum (zas (qi5 hg hs) 4 sg_narratortop_top54Unstyled Tryd.func24 (by kernel_rfl) (by kernel_rfl) fun ts hl hp => by rw [qi4]; exact h ts hl hp) k
def sg_narratortop_top54Same : Sig := ⟨23, 0, [(false, [(.slice true [.str, .bool, (.int .i64)])]), (false, [(.slice true [.str, .bool, (.int .i64)])])], [(false, [(.bool, none)])]⟩
def qi1 (k : Nat) : Sig := ⟨sg_narratortop_top54Same.f, k, sg_narratortop_top54Same.args, sg_narratortop_top54Same.res⟩
def qjk : List (FuncId × Nat × Head) := [(23, 4, ⟨[0, 1, 12, 13], [], [13], [], [], []⟩)]
def qjl : List (FuncId × Nat × Nat × Plan) := [(23, 6, 9, (.op true 0 (.op true 1 (.op true 2 (.op true 3 (.op true 4 (.op true 5 (.op true 6 (.op true 7 (.op true 8 .nil))))))))))]
noncomputable def cx_narratortop_top54Same : Cx := ⟨Tryd.prog, gtabU, [], [], qjk, qjl, []⟩
def tr_narratortop_top54Same : Tree := (.br (.o1 .no (.o2 .eqi (.o1 .len (.v 0)) (.o1 .len (.v 1))))
  (.ret (.bool false))
  (.loop [(.int 0)]
    (.br (.o2 .lti (.v 2) (.o1 .len (.v 0)))
      (.req (.o2 .lei (.int 0) (.v 2)) (.req (.o2 .lti (.v 2) (.o1 .len (.v 0))) (.req (.o2 .lei (.int 0) (.v 2)) (.req (.o2 .lti (.v 2) (.o1 .len (.v 1))) (.br (.o1 .no (.o3 .ite (.o2 .eqs (.o1 (.proj 0) (.o2 .idx (.v 0) (.v 2))) (.o1 (.proj 0) (.o2 .idx (.v 1) (.v 2)))) (.o3 .ite (.o2 .eqb (.o1 (.proj 1) (.o2 .idx (.v 0) (.v 2))) (.o1 (.proj 1) (.o2 .idx (.v 1) (.v 2)))) (.o3 .ite (.o2 .eqi (.o1 (.proj 2) (.o2 .idx (.v 0) (.v 2))) (.o1 (.proj 2) (.o2 .idx (.v 1) (.v 2)))) (.bool true) (.bool false)) (.bool false)) (.bool false)))
        (.ret (.bool false))
        (.back 0 [(.o2 (.add .i64) (.v 2) (.int 1))]))))))
      (.ret (.bool true)))))
set_option maxRecDepth 100000 in
theorem qje : za4 cx_narratortop_top54Same 4 sg_narratortop_top54Same Tryd.f23 (Tryd.f23.body.getD .skip) = tr_narratortop_top54Same := by kernel_rfl
theorem qjf {Γ : CEnv} (hg : ∀ n, Γ.glob n = globT n) (hs : ∀ s ∈ cx_narratortop_top54Same.sigs, Contract Tryd.prog Γ gtabU s (Γ.pre s.no) (Γ.post s.no)) : CxOk cx_narratortop_top54Same Γ := ⟨by kernel_rfl, hs, (fun x hx => by cases hx), (fun x hx => by cases hx)⟩
theorem qjr {Γ : CEnv} (hg : ∀ n, Γ.glob n = globT n) (hs : ∀ s ∈ cx_narratortop_top54Same.sigs, Contract Tryd.prog Γ gtabU s (Γ.pre s.no) (Γ.post s.no)) (k : Nat) {pre : List TV → Prop} {post : List TV → TV → Prop} (h : ∀ ts, ts.length = 2 → pre ts → tr_narratortop_top54Same.den Γ (post ts) ts []) : Contract Tryd.prog Γ gtabU (qi1 k) pre post :=
  Contract.renum (zas (qjf hg hs) 4 sg_narratortop_top54Same Tryd.func23 (by kernel_rfl) (by kernel_rfl) fun ts hl hp => by rw [qje]; exact h ts hl hp) k
def sg_narratortop_TopBrailleRows : Sig := ⟨5, 0, [(true, [(.int .i64), (.int .i64), (.slice false [(.slice true [.str, .bool, (.int .i64)])]), (.int .i64), (.int .i64), .bool]), (false, [(.int .u8)]), (false, [.bool])], [(false, [(.bool, none)])]⟩
def qi8 (k : Nat) : Sig := ⟨sg_narratortop_TopBrailleRows.f, k, sg_narratortop_TopBrailleRows.args, sg_narratortop_TopBrailleRows.res⟩
def qi7 : List (FuncId × Nat × Head) := [(5, 8, ⟨[1, 3, 7, 8, 41, 42, 43], [.slot 3 true 61 false [], .slot 7 true 66 false [], .slot 8 true 68 false []], [43], [], [(2, 3), (2, 2), (2, 1), (2, 0)], []⟩), (5, 13, ⟨[1, 3, 7, 8, 10, 11, 12, 13, 14, 41, 42, 43], [.slot 3 true 61 false [], .slot 7 true 66 false [], .slot 8 true 68 false [], .slot 13 true 5 false [(.int .u8)]], [14], [3], [(2, 3), (2, 2), (2, 1), (2, 0)], []⟩)]
def qi6 : List (FuncId × Nat × Nat × Plan) := [(5, 20, 10, (.op true 0 (.op true 1 (.op true 2 (.op true 3 (.op false 4 (.op false 5 (.alt 6 (.alt 7 (.op false 8 (.op false 9 .nil)) (.op false 8 (.op false 7 (.op false 9 .nil)))) (.op false 7 (.op false 6 (.op false 8 (.op false 9 .nil))))))))))))]
noncomputable def cx_narratortop_TopBrailleRows : Cx := ⟨Tryd.prog, gtabU, [zbs 0, zd8 1, qca 2, qcs 3, qea 4, qiz 5, qi0 6, qiy 7, qi1 8], [], qi7, qi6, []⟩
def tr_narratortop_TopBrailleRows : Tree := (.call 5 [(.o1 .agg (.cons (.o1 (.proj 0) (.v 0)) (.cons (.o1 (.proj 1) (.v 0)) (.cons (.o1 (.proj 2) (.v 0)) (.cons (.o1 (.proj 3) (.v 0)) (.cons (.o1 (.proj 4) (.v 0)) (.cons (.o1 (.proj 5) (.v 0)) .nil)))))))]
  (.br (.o1 .no (.v 3))
    (.call 6 []
      (.ret (.v 4)))
    (.call 3 [(.o2 (.add .i64) (.int 1) (.o2 .rem (.o1 (.wrap .i64) (.v 1)) (.int 80)))]
      (.br (.o1 .no (.o2 .eqi (.o1 (.proj 1) (.v 4)) (.int 0)))
        (.ret (.bool false))
        (.br (.o2 .lti (.o1 (.proj 0) (.o1 (.proj 0) (.v 4))) (.int 1))
          (.ret (.bool false))
          (.loop [(.int 0), (.o1 (.proj 0) (.o1 (.proj 0) (.v 4))), (.o1 (.proj 1) (.o1 (.proj 0) (.v 4))), (.o1 (.proj 2) (.o1 (.proj 0) (.v 4))), (.o1 (.proj 3) (.o1 (.proj 0) (.v 4)))]
            (.br (.o2 .lti (.v 5) (.o1 .len (.o1 (.proj 2) (.v 0))))
              (.req (.o2 .lei (.int 0) (.v 5)) (.req (.o2 .lti (.v 5) (.o1 .len (.o1 (.proj 2) (.v 0)))) (.call 0 [(.o2 .idx (.o1 (.proj 2) (.v 0)) (.v 5)), (.o1 .agg (.cons (.int 0) (.cons (.bool false) (.cons (.bool false) (.cons (.int 0) (.cons (.v 2) (.cons (.int 0) .nil)))))))]
                (.loop [(.bool true), (.v 6), (.v 7), (.v 8), (.v 9), .nil]
                  (.br (.v 11)
                    (.call 2 [(.o1 .agg (.cons (.v 12) (.cons (.v 13) (.cons (.v 14) (.cons (.v 15) .nil))))), (.o1 .agg (.cons (.o1 (.proj 0) (.v 0)) (.cons (.o1 (.proj 1) (.v 0)) (.cons (.o1 (.proj 2) (.v 0)) (.cons (.o1 (.proj 3) (.v 0)) (.cons (.o1 (.proj 4) (.v 0)) (.cons (.o1 (.proj 5) (.v 0)) .nil))))))), (.o1 .agg (.cons (.int 0) (.cons (.bool false) (.cons (.bool false) (.cons (.int 0) (.cons (.v 2) (.cons (.int 0) .nil)))))))]
                      (.br (.o1 .no (.o2 .eqi (.v 13) (.v 5)))
                        (.ret (.bool false))
                        (.br (.o1 .no (.o2 .eqi (.o1 .len (.o1 (.proj 0) (.v 17))) (.o2 (.add .i64) (.int 1) (.o2 .rem (.o1 (.wrap .i64) (.v 1)) (.int 80)))))
                          (.ret (.bool false))
                          (.req (.o2 .lei (.o1 .len (.o2 .app (.v 16) (.o1 (.proj 0) (.v 17)))) (.int 1099511627776)) (.call 4 [(.o1 .agg (.cons (.v 12) (.cons (.v 13) (.cons (.v 14) (.cons (.v 15) .nil))))), (.o1 .agg (.cons (.o1 (.proj 0) (.v 0)) (.cons (.o1 (.proj 1) (.v 0)) (.cons (.o1 (.proj 2) (.v 0)) (.cons (.o1 (.proj 3) (.v 0)) (.cons (.o1 (.proj 4) (.v 0)) (.cons (.o1 (.proj 5) (.v 0)) .nil))))))), (.o1 .agg (.cons (.int 0) (.cons (.bool false) (.cons (.bool false) (.cons (.int 0) (.cons (.v 2) (.cons (.int 0) .nil))))))), (.int 1)]
                            (.back 1 [(.bool false), (.o1 (.proj 0) (.v 18)), (.o1 (.proj 1) (.v 18)), (.o1 (.proj 2) (.v 18)), (.o1 (.proj 3) (.v 18)), (.o2 .app (.v 16) (.o1 (.proj 0) (.v 17)))]))))))
                    (.br (.o2 .lti (.o1 .len (.v 16)) (.o1 .len (.o1 (.proj 0) (.v 10))))
                      (.call 2 [(.o1 .agg (.cons (.v 12) (.cons (.v 13) (.cons (.v 14) (.cons (.v 15) .nil))))), (.o1 .agg (.cons (.o1 (.proj 0) (.v 0)) (.cons (.o1 (.proj 1) (.v 0)) (.cons (.o1 (.proj 2) (.v 0)) (.cons (.o1 (.proj 3) (.v 0)) (.cons (.o1 (.proj 4) (.v 0)) (.cons (.o1 (.proj 5) (.v 0)) .nil))))))), (.o1 .agg (.cons (.int 0) (.cons (.bool false) (.cons (.bool false) (.cons (.int 0) (.cons (.v 2) (.cons (.int 0) .nil)))))))]
                        (.br (.o1 .no (.o2 .eqi (.v 13) (.v 5)))
                          (.ret (.bool false))
                          (.br (.o1 .no (.o2 .eqi (.o1 .len (.o1 (.proj 0) (.v 17))) (.o2 (.add .i64) (.int 1) (.o2 .rem (.o1 (.wrap .i64) (.v 1)) (.int 80)))))
                            (.ret (.bool false))
                            (.req (.o2 .lei (.o1 .len (.o2 .app (.v 16) (.o1 (.proj 0) (.v 17)))) (.int 1099511627776)) (.call 4 [(.o1 .agg (.cons (.v 12) (.cons (.v 13) (.cons (.v 14) (.cons (.v 15) .nil))))), (.o1 .agg (.cons (.o1 (.proj 0) (.v 0)) (.cons (.o1 (.proj 1) (.v 0)) (.cons (.o1 (.proj 2) (.v 0)) (.cons (.o1 (.proj 3) (.v 0)) (.cons (.o1 (.proj 4) (.v 0)) (.cons (.o1 (.proj 5) (.v 0)) .nil))))))), (.o1 .agg (.cons (.int 0) (.cons (.bool false) (.cons (.bool false) (.cons (.int 0) (.cons (.v 2) (.cons (.int 0) .nil))))))), (.int 1)]
                              (.back 1 [(.bool false), (.o1 (.proj 0) (.v 18)), (.o1 (.proj 1) (.v 18)), (.o1 (.proj 2) (.v 18)), (.o1 (.proj 3) (.v 18)), (.o2 .app (.v 16) (.o1 (.proj 0) (.v 17)))]))))))
                      (.req (.o2 .lei (.int 0) (.o1 .len (.o1 (.proj 0) (.v 10)))) (.req (.o2 .lei (.o1 .len (.o1 (.proj 0) (.v 10))) (.o1 .len (.v 16))) (.call 1 [(.o3 .sub (.v 16) (.int 0) (.o1 .len (.o1 (.proj 0) (.v 10)))), (.o1 .agg (.cons (.int 0) (.cons (.bool false) (.cons (.bool false) (.cons (.int 0) (.cons (.v 2) (.cons (.int 0) .nil)))))))]
                        (.both
                          (.both
                            (.br (.o1 .no (.o2 .eqi (.o1 (.proj 1) (.v 17)) (.int 0)))
                              (.ret (.bool false))
                              (.call 7 [(.o2 .idx (.o1 (.proj 2) (.v 0)) (.v 5))]
                                (.call 8 [(.o1 (.proj 0) (.v 17)), (.v 18)]
                                  (.br (.o1 .no (.v 19))
                                    (.ret (.bool false))
                                    (.back 0 [(.o2 (.add .i64) (.v 5) (.int 1)), (.v 12), (.v 13), (.v 14), (.v 15)])))))
                            (.br (.o1 .no (.o2 .eqi (.o1 (.proj 1) (.v 17)) (.int 0)))
                              (.ret (.bool false))
                              (.call 7 [(.o2 .idx (.o1 (.proj 2) (.v 0)) (.v 5))]
                                (.call 8 [(.o1 (.proj 0) (.v 17)), (.v 18)]
                                  (.br (.o1 .no (.v 19))
                                    (.ret (.bool false))
                                    (.back 0 [(.o2 (.add .i64) (.v 5) (.int 1)), (.v 12), (.v 13), (.v 14), (.v 15)]))))))
                          (.br (.o1 .no (.o2 .eqi (.o1 (.proj 1) (.v 17)) (.int 0)))
                            (.ret (.bool false))
                            (.call 7 [(.o2 .idx (.o1 (.proj 2) (.v 0)) (.v 5))]
                              (.call 8 [(.o1 (.proj 0) (.v 17)), (.v 18)]
                                (.br (.o1 .no (.v 19))
                                  (.ret (.bool false))
                                  (.back 0 [(.o2 (.add .i64) (.v 5) (.int 1)), (.v 12), (.v 13), (.v 14), (.v 15)])))))))))))))))
              (.call 6 []
                (.ret (.v 10))))))))))
set_option maxRecDepth 100000 in
theorem qi3 : za4 cx_narratortop_TopBrailleRows 4 sg_narratortop_TopBrailleRows Tryd.f5 (Tryd.f5.body.getD .skip) = tr_narratortop_TopBrailleRows := by kernel_rfl
theorem qi2 {Γ : CEnv} (hg : ∀ n, Γ.glob n = globT n) (hs : ∀ s ∈ cx_narratortop_TopBrailleRows.sigs, Contract Tryd.prog Γ gtabU s (Γ.pre s.no) (Γ.post s.no)) : CxOk cx_narratortop_TopBrailleRows Γ := ⟨by kernel_rfl, hs, (fun x hx => by cases hx), (fun x hx => by cases hx)⟩
theorem qjn {Γ : CEnv} (hg : ∀ n, Γ.glob n = globT n) (hs : ∀ s ∈ cx_narratortop_TopBrailleRows.sigs, Contract Tryd.prog Γ gtabU s (Γ.pre s.no) (Γ.post s.no)) (k : Nat) {pre : List TV → Prop} {post : List TV → TV → Prop} (h : ∀ ts, ts.length = 3 → pre ts → tr_narratortop_TopBrailleRows.den Γ (post ts) ts []) : Contract Tryd.prog Γ gtabU (qi8 k) pre post :=
  Contract.renum (zas (qi2 hg hs) 4 sg_narratortop_TopBrailleRows Tryd.func5 (by kernel_rfl) (by kernel_rfl) fun ts hl hp => by rw [qi3]; exact h ts hl hp) k
end Go.Proofs.YtlhagkbhojmjpaaDoor


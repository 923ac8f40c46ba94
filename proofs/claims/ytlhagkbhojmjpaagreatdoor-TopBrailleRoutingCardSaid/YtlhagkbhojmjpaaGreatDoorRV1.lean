/- Written by this repo's own program out of its texts. -/
import Derived.Test.YtlhagkbhojmjpaaGreatDoorRL1
namespace Go.Proofs.YtlhagkbhojmjpaaGreatDoor
set_option linter.unusedVariables false
set_option linter.unusedSimpArgs false
def sg_display_moved : Sig := ⟨29, 0, [(true, [(.int .i64), (.int .i64), (.int .i64), .bool]), (true, [(.int .i64), (.int .i64), (.slice false [(.slice true [.str, .bool, (.int .i64)])]), (.int .i64), (.int .i64), .bool]), (true, [(.int .i64), .bool, .bool, (.int .i64), .bool, (.int .i64)]), (false, [(.int .i64)])], [(true, [((.int .i64), none), ((.int .i64), none), ((.int .i64), none), (.bool, none)])]⟩
def qc9 (k : Nat) : Sig := ⟨sg_display_moved.f, k, sg_display_moved.args, sg_display_moved.res⟩
def sg_ref15_GreatRow : Sig := ⟨50, 0, [(false, [(.slice true [.str, .bool, (.int .i64)])])], [(false, [(.bool, none)])]⟩
def qcd (k : Nat) : Sig := ⟨sg_ref15_GreatRow.f, k, sg_ref15_GreatRow.args, sg_ref15_GreatRow.res⟩
def qfq : List (FuncId × Nat × Head) := [(50, 4, ⟨[0, 3], [], [3], [], [], []⟩)]
def qfb : List (FuncId × Nat × Nat × Plan) := []
noncomputable def cx_ref15_GreatRow : Cx := ⟨Tryz.prog, gtabU, [], [], qfq, qfb, []⟩
def tr_ref15_GreatRow : Tree := (.br (.o2 .lti (.int 140) (.o1 .len (.v 0)))
  (.ret (.bool true))
  (.loop [(.int 0)]
    (.br (.o2 .lti (.v 1) (.o1 .len (.v 0)))
      (.req (.o2 .lei (.int 0) (.v 1)) (.req (.o2 .lti (.v 1) (.o1 .len (.v 0))) (.br (.o2 .lti (.int 40) (.o1 .slen (.o1 (.proj 0) (.o2 .idx (.v 0) (.v 1)))))
        (.ret (.bool true))
        (.back 0 [(.o2 (.add .i64) (.v 1) (.int 1))]))))
      (.ret (.bool false)))))
set_option maxRecDepth 100000 in
theorem qeo : za4 cx_ref15_GreatRow 4 sg_ref15_GreatRow Tryz.f50 (Tryz.f50.body.getD .skip) = tr_ref15_GreatRow := by kernel_rfl
theorem qeg {Γ : CEnv} (hg : ∀ n, Γ.glob n = globT n) (hs : ∀ s ∈ cx_ref15_GreatRow.sigs, Contract Tryz.prog Γ gtabU s (Γ.pre s.no) (Γ.post s.no)) : CxOk cx_ref15_GreatRow Γ := ⟨by kernel_rfl, hs, (fun x hx => by cases hx), (fun x hx => by cases hx)⟩
theorem qcy {Γ : CEnv} (hg : ∀ n, Γ.glob n = globT n) (hs : ∀ s ∈ cx_ref15_GreatRow.sigs, Contract Tryz.prog Γ gtabU s (Γ.pre s.no) (Γ.post s.no)) (k : Nat) {pre : List TV → Prop} {post : List TV → TV → Prop} (h : ∀ ts, ts.length = 1 → pre ts → tr_ref15_GreatRow.den Γ (post ts) ts []) : Contract Tryz.prog Γ gtabU (qcd k) pre post :=
  Contract.renum (zas (qeg hg hs) 4 sg_ref15_GreatRow Tryz.func50 (by kernel_rfl) (by kernel_rfl) fun ts hl hp => by rw [qeo]; exact h ts hl hp) k
def sg_ref15_Great : Sig := ⟨17, 0, [(true, [(.int .i64), (.int .i64), (.slice false [(.slice true [.str, .bool, (.int .i64)])]), (.int .i64), (.int .i64), .bool])], [(false, [(.bool, none)])]⟩
def qb1 (k : Nat) : Sig := ⟨sg_ref15_Great.f, k, sg_ref15_Great.args, sg_ref15_Great.res⟩
def hd_ref15_Great : List (FuncId × Nat × Head) := [(17, 4, ⟨[1, 3], [.slot 1 true 24 false []], [3], [], [], []⟩)]
def pl_ref15_Great : List (FuncId × Nat × Nat × Plan) := []
noncomputable def cx_ref15_Great : Cx := ⟨Tryz.prog, gtabU, [qcd 0], [], hd_ref15_Great, pl_ref15_Great, []⟩
def tr_ref15_Great : Tree := (.br (.o2 .lti (.int 12) (.o1 .len (.o1 (.proj 2) (.v 0))))
  (.ret (.bool true))
  (.br (.o2 .lti (.int 40) (.o1 (.proj 0) (.v 0)))
    (.br (.o2 .lti (.int 2) (.o1 .len (.o1 (.proj 2) (.v 0))))
      (.ret (.bool true))
      (.loop [(.int 0)]
        (.br (.o2 .lti (.v 1) (.o1 .len (.o1 (.proj 2) (.v 0))))
          (.req (.o2 .lei (.int 0) (.v 1)) (.req (.o2 .lti (.v 1) (.o1 .len (.o1 (.proj 2) (.v 0)))) (.call 0 [(.o2 .idx (.o1 (.proj 2) (.v 0)) (.v 1))]
            (.br (.v 2)
              (.ret (.bool true))
              (.back 0 [(.o2 (.add .i64) (.v 1) (.int 1))])))))
          (.ret (.bool false)))))
    (.loop [(.int 0)]
      (.br (.o2 .lti (.v 1) (.o1 .len (.o1 (.proj 2) (.v 0))))
        (.req (.o2 .lei (.int 0) (.v 1)) (.req (.o2 .lti (.v 1) (.o1 .len (.o1 (.proj 2) (.v 0)))) (.call 0 [(.o2 .idx (.o1 (.proj 2) (.v 0)) (.v 1))]
          (.br (.v 2)
            (.ret (.bool true))
            (.back 0 [(.o2 (.add .i64) (.v 1) (.int 1))])))))
        (.ret (.bool false))))))
set_option maxRecDepth 100000 in
theorem qf1 : za4 cx_ref15_Great 4 sg_ref15_Great Tryz.f17 (Tryz.f17.body.getD .skip) = tr_ref15_Great := by kernel_rfl
theorem qgn {Γ : CEnv} (hg : ∀ n, Γ.glob n = globT n) (hs : ∀ s ∈ cx_ref15_Great.sigs, Contract Tryz.prog Γ gtabU s (Γ.pre s.no) (Γ.post s.no)) : CxOk cx_ref15_Great Γ := ⟨by kernel_rfl, hs, (fun x hx => by cases hx), (fun x hx => by cases hx)⟩
theorem qdx {Γ : CEnv} (hg : ∀ n, Γ.glob n = globT n) (hs : ∀ s ∈ cx_ref15_Great.sigs, Contract Tryz.prog Γ gtabU s (Γ.pre s.no) (Γ.post s.no)) (k : Nat) {pre : List TV → Prop} {post : List TV → TV → Prop} (h : ∀ ts, ts.length = 1 → pre ts → tr_ref15_Great.den Γ (post ts) ts []) : Contract Tryz.prog Γ gtabU (qb1 k) pre post :=
  Contract.renum (zas (qgn hg hs) 4 sg_ref15_Great Tryz.func17 (by kernel_rfl) (by kernel_rfl) fun ts hl hp => by rw [qf1]; exact h ts hl hp) k
def sg_ref15_Size : Sig := ⟨62, 0, [(false, [(.int .i64)]), (false, [(.int .i64)])], [(false, [(.bool, none)])]⟩
def qc3 (k : Nat) : Sig := ⟨sg_ref15_Size.f, k, sg_ref15_Size.args, sg_ref15_Size.res⟩
def hd_ref15_Size : List (FuncId × Nat × Head) := []
def pl_ref15_Size : List (FuncId × Nat × Nat × Plan) := []
noncomputable def cx_ref15_Size : Cx := ⟨Tryz.prog, gtabU, [], [], hd_ref15_Size, pl_ref15_Size, []⟩
def tr_ref15_Size : Tree := (.br (.o2 .lei (.int 1) (.v 0))
  (.br (.o2 .lei (.v 0) (.int 132))
    (.br (.o2 .lei (.int 1) (.v 1))
      (.ret (.o2 .lei (.v 1) (.int 60)))
      (.ret (.bool false)))
    (.ret (.bool false)))
  (.ret (.bool false)))
set_option maxRecDepth 100000 in
theorem qhq : za4 cx_ref15_Size 4 sg_ref15_Size Tryz.f62 (Tryz.f62.body.getD .skip) = tr_ref15_Size := by kernel_rfl
theorem qhh {Γ : CEnv} (hg : ∀ n, Γ.glob n = globT n) (hs : ∀ s ∈ cx_ref15_Size.sigs, Contract Tryz.prog Γ gtabU s (Γ.pre s.no) (Γ.post s.no)) : CxOk cx_ref15_Size Γ := ⟨by kernel_rfl, hs, (fun x hx => by cases hx), (fun x hx => by cases hx)⟩
theorem qem {Γ : CEnv} (hg : ∀ n, Γ.glob n = globT n) (hs : ∀ s ∈ cx_ref15_Size.sigs, Contract Tryz.prog Γ gtabU s (Γ.pre s.no) (Γ.post s.no)) (k : Nat) {pre : List TV → Prop} {post : List TV → TV → Prop} (h : ∀ ts, ts.length = 2 → pre ts → tr_ref15_Size.den Γ (post ts) ts []) : Contract Tryz.prog Γ gtabU (qc3 k) pre post :=
  Contract.renum (zas (qhh hg hs) 4 sg_ref15_Size Tryz.func62 (by kernel_rfl) (by kernel_rfl) fun ts hl hp => by rw [qhq]; exact h ts hl hp) k
def sg_ref15_Width : Sig := ⟨64, 0, [(false, [(.slice true [.str, .bool, (.int .i64)])])], [(false, [((.int .i64), none)])]⟩
def qb6 (k : Nat) : Sig := ⟨sg_ref15_Width.f, k, sg_ref15_Width.args, sg_ref15_Width.res⟩
def hd_ref15_Width : List (FuncId × Nat × Head) := [(64, 3, ⟨[0, 3, 4], [], [4, 3], [], [], []⟩)]
def pl_ref15_Width : List (FuncId × Nat × Nat × Plan) := []
noncomputable def cx_ref15_Width : Cx := ⟨Tryz.prog, gtabU, [], [], hd_ref15_Width, pl_ref15_Width, []⟩
def tr_ref15_Width : Tree := (.loop [(.int 0), (.int 0)]
  (.br (.o2 .lti (.v 2) (.o1 .len (.v 0)))
    (.req (.o2 .lei (.int 0) (.v 2)) (.req (.o2 .lti (.v 2) (.o1 .len (.v 0))) (.br (.o1 (.proj 1) (.o2 .idx (.v 0) (.v 2)))
      (.back 0 [(.o2 (.add .i64) (.o2 (.add .i64) (.v 1) (.int 1)) (.int 1)), (.o2 (.add .i64) (.v 2) (.int 1))])
      (.back 0 [(.o2 (.add .i64) (.v 1) (.int 1)), (.o2 (.add .i64) (.v 2) (.int 1))]))))
    (.ret (.v 1))))
set_option maxRecDepth 100000 in
theorem qga : za4 cx_ref15_Width 4 sg_ref15_Width Tryz.f64 (Tryz.f64.body.getD .skip) = tr_ref15_Width := by kernel_rfl
theorem qfz {Γ : CEnv} (hg : ∀ n, Γ.glob n = globT n) (hs : ∀ s ∈ cx_ref15_Width.sigs, Contract Tryz.prog Γ gtabU s (Γ.pre s.no) (Γ.post s.no)) : CxOk cx_ref15_Width Γ := ⟨by kernel_rfl, hs, (fun x hx => by cases hx), (fun x hx => by cases hx)⟩
theorem qds {Γ : CEnv} (hg : ∀ n, Γ.glob n = globT n) (hs : ∀ s ∈ cx_ref15_Width.sigs, Contract Tryz.prog Γ gtabU s (Γ.pre s.no) (Γ.post s.no)) (k : Nat) {pre : List TV → Prop} {post : List TV → TV → Prop} (h : ∀ ts, ts.length = 1 → pre ts → tr_ref15_Width.den Γ (post ts) ts []) : Contract Tryz.prog Γ gtabU (qb6 k) pre post :=
  Contract.renum (zas (qfz hg hs) 4 sg_ref15_Width Tryz.func64 (by kernel_rfl) (by kernel_rfl) fun ts hl hp => by rw [qga]; exact h ts hl hp) k
def sg_ref15_blank : Sig := ⟨65, 0, [(true, [.str, .bool, (.int .i64)])], [(false, [(.bool, none)])]⟩
def qcr (k : Nat) : Sig := ⟨sg_ref15_blank.f, k, sg_ref15_blank.args, sg_ref15_blank.res⟩
def hd_ref15_blank : List (FuncId × Nat × Head) := []
def pl_ref15_blank : List (FuncId × Nat × Nat × Plan) := []
noncomputable def cx_ref15_blank : Cx := ⟨Tryz.prog, gtabU, [], [], hd_ref15_blank, pl_ref15_blank, []⟩
def tr_ref15_blank : Tree := (.ret (.o3 .ite (.o2 .eqs (.o1 (.proj 0) (.v 0)) (.str [32])) (.o3 .ite (.o2 .eqb (.o1 (.proj 1) (.v 0)) (.bool false)) (.o3 .ite (.o2 .eqi (.o1 (.proj 2) (.v 0)) (.int 0)) (.bool true) (.bool false)) (.bool false)) (.bool false)))
set_option maxRecDepth 100000 in
theorem qgc : za4 cx_ref15_blank 4 sg_ref15_blank Tryz.f65 (Tryz.f65.body.getD .skip) = tr_ref15_blank := by kernel_rfl
theorem qgb {Γ : CEnv} (hg : ∀ n, Γ.glob n = globT n) (hs : ∀ s ∈ cx_ref15_blank.sigs, Contract Tryz.prog Γ gtabU s (Γ.pre s.no) (Γ.post s.no)) : CxOk cx_ref15_blank Γ := ⟨by kernel_rfl, hs, (fun x hx => by cases hx), (fun x hx => by cases hx)⟩
theorem qdz {Γ : CEnv} (hg : ∀ n, Γ.glob n = globT n) (hs : ∀ s ∈ cx_ref15_blank.sigs, Contract Tryz.prog Γ gtabU s (Γ.pre s.no) (Γ.post s.no)) (k : Nat) {pre : List TV → Prop} {post : List TV → TV → Prop} (h : ∀ ts, ts.length = 1 → pre ts → tr_ref15_blank.den Γ (post ts) ts []) : Contract Tryz.prog Γ gtabU (qcr k) pre post :=
  Contract.renum (zas (qgb hg hs) 4 sg_ref15_blank Tryz.func65 (by kernel_rfl) (by kernel_rfl) fun ts hl hp => by rw [qgc]; exact h ts hl hp) k
def sg_ref15_Check : Sig := ⟨25, 0, [(true, [(.int .i64), (.int .i64), (.slice false [(.slice true [.str, .bool, (.int .i64)])]), (.int .i64), (.int .i64), .bool])], [(false, [((.int .i64), none)])]⟩
def qb7 (k : Nat) : Sig := ⟨sg_ref15_Check.f, k, sg_ref15_Check.args, sg_ref15_Check.res⟩
def hd_ref15_Check : List (FuncId × Nat × Head) := [(25, 8, ⟨[1, 3], [.slot 1 true 24 false []], [3], [], [], []⟩), (25, 12, ⟨[1, 3, 4, 5], [.slot 1 true 24 false []], [5], [], [], []⟩)]
def pl_ref15_Check : List (FuncId × Nat × Nat × Plan) := [(25, 17, 5, (.op true 0 (.op true 2 (.op true 3 (.op false 1 (.op false 4 .nil))))))]
noncomputable def cx_ref15_Check : Cx := ⟨Tryz.prog, gtabU, [zpw 0, qc3 1, qb6 2, qcr 3], [], hd_ref15_Check, pl_ref15_Check, []⟩
def tr_ref15_Check : Tree := (.call 1 [(.o1 (.proj 0) (.v 0)), (.o1 (.proj 1) (.v 0))]
  (.br (.o1 .no (.v 1))
    (.ret (.int 2))
    (.br (.o1 .no (.o2 .eqi (.o1 .len (.o1 (.proj 2) (.v 0))) (.o1 (.proj 1) (.v 0))))
      (.ret (.int 11))
      (.br (.o2 .lti (.o1 (.proj 3) (.v 0)) (.int 0))
        (.ret (.int 2))
        (.br (.o2 .lei (.o1 (.proj 1) (.v 0)) (.o1 (.proj 3) (.v 0)))
          (.ret (.int 2))
          (.br (.o2 .lti (.o1 (.proj 4) (.v 0)) (.int 0))
            (.ret (.int 2))
            (.br (.o2 .lei (.o1 (.proj 0) (.v 0)) (.o1 (.proj 4) (.v 0)))
              (.ret (.int 2))
              (.loop [(.int 0)]
                (.br (.o2 .lti (.v 2) (.o1 .len (.o1 (.proj 2) (.v 0))))
                  (.req (.o2 .lei (.int 0) (.v 2)) (.req (.o2 .lti (.v 2) (.o1 .len (.o1 (.proj 2) (.v 0)))) (.loop [(.int 0)]
                    (.br (.o2 .lti (.v 3) (.o1 .len (.o2 .idx (.o1 (.proj 2) (.v 0)) (.v 2))))
                      (.req (.o2 .lei (.int 0) (.v 3)) (.req (.o2 .lti (.v 3) (.o1 .len (.o2 .idx (.o1 (.proj 2) (.v 0)) (.v 2)))) (.call 0 [(.o1 .agg (.cons (.o1 (.proj 0) (.o2 .idx (.o2 .idx (.o1 (.proj 2) (.v 0)) (.v 2)) (.v 3))) (.cons (.o1 (.proj 1) (.o2 .idx (.o2 .idx (.o1 (.proj 2) (.v 0)) (.v 2)) (.v 3))) (.cons (.o1 (.proj 2) (.o2 .idx (.o2 .idx (.o1 (.proj 2) (.v 0)) (.v 2)) (.v 3))) .nil))))]
                        (.br (.o1 .no (.o2 .eqi (.v 4) (.int 0)))
                          (.ret (.v 4))
                          (.back 1 [(.o2 (.add .i64) (.v 3) (.int 1))])))))
                      (.call 2 [(.o2 .idx (.o1 (.proj 2) (.v 0)) (.v 2))]
                        (.br (.o2 .lti (.o1 (.proj 0) (.v 0)) (.v 4))
                          (.ret (.int 12))
                          (.br (.o2 .lti (.int 0) (.o1 .len (.o2 .idx (.o1 (.proj 2) (.v 0)) (.v 2))))
                            (.req (.o2 .lei (.int 0) (.o2 (.sub .i64) (.o1 .len (.o2 .idx (.o1 (.proj 2) (.v 0)) (.v 2))) (.int 1))) (.req (.o2 .lti (.o2 (.sub .i64) (.o1 .len (.o2 .idx (.o1 (.proj 2) (.v 0)) (.v 2))) (.int 1)) (.o1 .len (.o2 .idx (.o1 (.proj 2) (.v 0)) (.v 2)))) (.call 3 [(.o1 .agg (.cons (.o1 (.proj 0) (.o2 .idx (.o2 .idx (.o1 (.proj 2) (.v 0)) (.v 2)) (.o2 (.sub .i64) (.o1 .len (.o2 .idx (.o1 (.proj 2) (.v 0)) (.v 2))) (.int 1)))) (.cons (.o1 (.proj 1) (.o2 .idx (.o2 .idx (.o1 (.proj 2) (.v 0)) (.v 2)) (.o2 (.sub .i64) (.o1 .len (.o2 .idx (.o1 (.proj 2) (.v 0)) (.v 2))) (.int 1)))) (.cons (.o1 (.proj 2) (.o2 .idx (.o2 .idx (.o1 (.proj 2) (.v 0)) (.v 2)) (.o2 (.sub .i64) (.o1 .len (.o2 .idx (.o1 (.proj 2) (.v 0)) (.v 2))) (.int 1)))) .nil))))]
                              (.br (.v 5)
                                (.ret (.int 1))
                                (.back 0 [(.o2 (.add .i64) (.v 2) (.int 1))])))))
                            (.back 0 [(.o2 (.add .i64) (.v 2) (.int 1))]))))))))
                  (.ret (.int 0)))))))))))
set_option maxRecDepth 100000 in
theorem qgh : za4 cx_ref15_Check 4 sg_ref15_Check Tryz.f25 (Tryz.f25.body.getD .skip) = tr_ref15_Check := by kernel_rfl
theorem qf8 {Γ : CEnv} (hg : ∀ n, Γ.glob n = globT n) (hs : ∀ s ∈ cx_ref15_Check.sigs, Contract Tryz.prog Γ gtabU s (Γ.pre s.no) (Γ.post s.no)) : CxOk cx_ref15_Check Γ := ⟨by kernel_rfl, hs, (fun x hx => by cases hx), (fun x hx => by cases hx)⟩
theorem qd6 {Γ : CEnv} (hg : ∀ n, Γ.glob n = globT n) (hs : ∀ s ∈ cx_ref15_Check.sigs, Contract Tryz.prog Γ gtabU s (Γ.pre s.no) (Γ.post s.no)) (k : Nat) {pre : List TV → Prop} {post : List TV → TV → Prop} (h : ∀ ts, ts.length = 1 → pre ts → tr_ref15_Check.den Γ (post ts) ts []) : Contract Tryz.prog Γ gtabU (qb7 k) pre post :=
  Contract.renum (zas (qf8 hg hs) 4 sg_ref15_Check Tryz.func25 (by kernel_rfl) (by kernel_rfl) fun ts hl hp => by rw [qgh]; exact h ts hl hp) k
def sg_view_sized : Sig := ⟨51, 0, [(false, [(.int .i64)]), (false, [(.int .i64)])], [(false, [(.bool, none)])]⟩
def qc1 (k : Nat) : Sig := ⟨sg_view_sized.f, k, sg_view_sized.args, sg_view_sized.res⟩
def hd_view_sized : List (FuncId × Nat × Head) := []
def pl_view_sized : List (FuncId × Nat × Nat × Plan) := []
noncomputable def cx_view_sized : Cx := ⟨Tryz.prog, gtabU, [], [], hd_view_sized, pl_view_sized, []⟩
def tr_view_sized : Tree := (.br (.o2 .lei (.int 1) (.v 0))
  (.br (.o2 .lei (.v 0) (.int 132))
    (.br (.o2 .lei (.int 1) (.v 1))
      (.ret (.o2 .lei (.v 1) (.int 60)))
      (.ret (.bool false)))
    (.ret (.bool false)))
  (.ret (.bool false)))
set_option maxRecDepth 100000 in
theorem qhd : za4 cx_view_sized 4 sg_view_sized Tryz.f51 (Tryz.f51.body.getD .skip) = tr_view_sized := by kernel_rfl
theorem qg4 {Γ : CEnv} (hg : ∀ n, Γ.glob n = globT n) (hs : ∀ s ∈ cx_view_sized.sigs, Contract Tryz.prog Γ gtabU s (Γ.pre s.no) (Γ.post s.no)) : CxOk cx_view_sized Γ := ⟨by kernel_rfl, hs, (fun x hx => by cases hx), (fun x hx => by cases hx)⟩
theorem qec {Γ : CEnv} (hg : ∀ n, Γ.glob n = globT n) (hs : ∀ s ∈ cx_view_sized.sigs, Contract Tryz.prog Γ gtabU s (Γ.pre s.no) (Γ.post s.no)) (k : Nat) {pre : List TV → Prop} {post : List TV → TV → Prop} (h : ∀ ts, ts.length = 2 → pre ts → tr_view_sized.den Γ (post ts) ts []) : Contract Tryz.prog Γ gtabU (qc1 k) pre post :=
  Contract.renum (zas (qg4 hg hs) 4 sg_view_sized Tryz.func51 (by kernel_rfl) (by kernel_rfl) fun ts hl hp => by rw [qhd]; exact h ts hl hp) k
def sg_view_glyph : Sig := ⟨52, 0, [(true, [.str, .bool, (.int .i64)])], [(false, [((.int .i64), none)])]⟩
def qc6 (k : Nat) : Sig := ⟨sg_view_glyph.f, k, sg_view_glyph.args, sg_view_glyph.res⟩
def hd_view_glyph : List (FuncId × Nat × Head) := []
def pl_view_glyph : List (FuncId × Nat × Nat × Plan) := [(52, 3, 27, (.op true 0 (.op true 1 (.op true 2 (.op true 3 (.op false 4 (.op false 5 (.op false 6 (.op false 7 (.op true 8 (.op true 9 (.op true 10 (.op false 11 (.op false 12 (.op true 13 (.op true 14 (.op true 15 (.op false 16 (.op false 17 (.op true 18 (.op true 19 (.op true 20 (.op true 21 (.op true 22 (.op true 23 (.op true 24 (.op true 25 (.op false 26 .nil))))))))))))))))))))))))))))]
noncomputable def cx_view_glyph : Cx := ⟨Tryz.prog, gtabU, [zh7 0, zh6 1], [], hd_view_glyph, pl_view_glyph, []⟩
def tr_view_glyph : Tree := (.call 0 [(.o1 (.proj 0) (.v 0))]
  (.br (.o1 .no (.o2 .eqi (.v 1) (.int 0)))
    (.ret (.int 3))
    (.call 1 [(.o1 (.proj 0) (.v 0))]
      (.br (.o1 .no (.o2 .eqb (.o1 (.proj 1) (.v 0)) (.o2 .eqi (.v 2) (.int 2))))
        (.ret (.int 9))
        (.br (.o2 .lti (.o1 (.proj 2) (.v 0)) (.int 0))
          (.ret (.int 9))
          (.br (.o2 .lti (.int 3) (.o1 (.proj 2) (.v 0)))
            (.ret (.int 9))
            (.br (.o2 .eqi (.o1 (.proj 2) (.v 0)) (.int 3))
              (.br (.o1 .no (.o2 .eqs (.o1 (.proj 0) (.v 0)) (.str [42])))
                (.ret (.int 9))
                (.ret (.int 0)))
              (.ret (.int 0)))))))))
set_option maxRecDepth 100000 in
theorem qgz : za4 cx_view_glyph 4 sg_view_glyph Tryz.f52 (Tryz.f52.body.getD .skip) = tr_view_glyph := by kernel_rfl
theorem qhj {Γ : CEnv} (hg : ∀ n, Γ.glob n = globT n) (hs : ∀ s ∈ cx_view_glyph.sigs, Contract Tryz.prog Γ gtabU s (Γ.pre s.no) (Γ.post s.no)) : CxOk cx_view_glyph Γ := ⟨by kernel_rfl, hs, (fun x hx => by cases hx), (fun x hx => by cases hx)⟩
theorem qeb {Γ : CEnv} (hg : ∀ n, Γ.glob n = globT n) (hs : ∀ s ∈ cx_view_glyph.sigs, Contract Tryz.prog Γ gtabU s (Γ.pre s.no) (Γ.post s.no)) (k : Nat) {pre : List TV → Prop} {post : List TV → TV → Prop} (h : ∀ ts, ts.length = 1 → pre ts → tr_view_glyph.den Γ (post ts) ts []) : Contract Tryz.prog Γ gtabU (qc6 k) pre post :=
  Contract.renum (zas (qhj hg hs) 4 sg_view_glyph Tryz.func52 (by kernel_rfl) (by kernel_rfl) fun ts hl hp => by rw [qgz]; exact h ts hl hp) k
def sg_view_blank : Sig := ⟨53, 0, [], [(true, [(.str, none), (.bool, none), ((.int .i64), none)])]⟩
def qcz (k : Nat) : Sig := ⟨sg_view_blank.f, k, sg_view_blank.args, sg_view_blank.res⟩
def hd_view_blank : List (FuncId × Nat × Head) := []
def pl_view_blank : List (FuncId × Nat × Nat × Plan) := []
noncomputable def cx_view_blank : Cx := ⟨Tryz.prog, gtabU, [], [], hd_view_blank, pl_view_blank, []⟩
def tr_view_blank : Tree := (.ret (.o1 .agg (.cons (.str [32]) (.cons (.bool false) (.cons (.int 0) .nil)))))
set_option maxRecDepth 100000 in
theorem qhp : za4 cx_view_blank 4 sg_view_blank Tryz.f53 (Tryz.f53.body.getD .skip) = tr_view_blank := by kernel_rfl
theorem qhg {Γ : CEnv} (hg : ∀ n, Γ.glob n = globT n) (hs : ∀ s ∈ cx_view_blank.sigs, Contract Tryz.prog Γ gtabU s (Γ.pre s.no) (Γ.post s.no)) : CxOk cx_view_blank Γ := ⟨by kernel_rfl, hs, (fun x hx => by cases hx), (fun x hx => by cases hx)⟩
theorem qeh {Γ : CEnv} (hg : ∀ n, Γ.glob n = globT n) (hs : ∀ s ∈ cx_view_blank.sigs, Contract Tryz.prog Γ gtabU s (Γ.pre s.no) (Γ.post s.no)) (k : Nat) {pre : List TV → Prop} {post : List TV → TV → Prop} (h : ∀ ts, ts.length = 0 → pre ts → tr_view_blank.den Γ (post ts) ts []) : Contract Tryz.prog Γ gtabU (qcz k) pre post :=
  Contract.renum (zas (qhg hg hs) 4 sg_view_blank Tryz.func53 (by kernel_rfl) (by kernel_rfl) fun ts hl hp => by rw [qhp]; exact h ts hl hp) k
def sg_view_Width : Sig := ⟨32, 0, [(false, [(.slice true [.str, .bool, (.int .i64)])])], [(false, [((.int .i64), none)])]⟩
def qck (k : Nat) : Sig := ⟨sg_view_Width.f, k, sg_view_Width.args, sg_view_Width.res⟩
def hd_view_Width : List (FuncId × Nat × Head) := [(32, 3, ⟨[3, 8, 9, 10], [], [10, 3], [], [], []⟩)]
def pl_view_Width : List (FuncId × Nat × Nat × Plan) := []
noncomputable def cx_view_Width : Cx := ⟨Tryz.prog, gtabU, [], [], hd_view_Width, pl_view_Width, []⟩
def tr_view_Width : Tree := (.loop [(.o1 .len (.v 0)), (.int 0)]
  (.br (.o2 .lti (.v 2) (.o1 .len (.v 0)))
    (.req (.o2 .lei (.int 0) (.v 2)) (.req (.o2 .lti (.v 2) (.o1 .len (.v 0))) (.br (.o1 (.proj 1) (.o2 .idx (.v 0) (.v 2)))
      (.back 0 [(.o2 (.add .i64) (.v 1) (.int 1)), (.o2 (.add .i64) (.v 2) (.int 1))])
      (.back 0 [(.v 1), (.o2 (.add .i64) (.v 2) (.int 1))]))))
    (.ret (.v 1))))
set_option maxRecDepth 100000 in
theorem qg0 : za4 cx_view_Width 4 sg_view_Width Tryz.f32 (Tryz.f32.body.getD .skip) = tr_view_Width := by kernel_rfl
theorem qhi {Γ : CEnv} (hg : ∀ n, Γ.glob n = globT n) (hs : ∀ s ∈ cx_view_Width.sigs, Contract Tryz.prog Γ gtabU s (Γ.pre s.no) (Γ.post s.no)) : CxOk cx_view_Width Γ := ⟨by kernel_rfl, hs, (fun x hx => by cases hx), (fun x hx => by cases hx)⟩
theorem qef {Γ : CEnv} (hg : ∀ n, Γ.glob n = globT n) (hs : ∀ s ∈ cx_view_Width.sigs, Contract Tryz.prog Γ gtabU s (Γ.pre s.no) (Γ.post s.no)) (k : Nat) {pre : List TV → Prop} {post : List TV → TV → Prop} (h : ∀ ts, ts.length = 1 → pre ts → tr_view_Width.den Γ (post ts) ts []) : Contract Tryz.prog Γ gtabU (qck k) pre post :=
  Contract.renum (zas (qhi hg hs) 4 sg_view_Width Tryz.func32 (by kernel_rfl) (by kernel_rfl) fun ts hl hp => by rw [qg0]; exact h ts hl hp) k
def sg_view_Index : Sig := ⟨21, 0, [(false, [(.slice true [.str, .bool, (.int .i64)])]), (false, [(.int .i64)])], [(false, [((.int .i64), none)])]⟩
def qc5 (k : Nat) : Sig := ⟨sg_view_Index.f, k, sg_view_Index.args, sg_view_Index.res⟩
def hd_view_Index : List (FuncId × Nat × Head) := [(21, 5, ⟨[0, 1, 5, 10, 11, 12], [], [12, 5], [], [], []⟩)]
def pl_view_Index : List (FuncId × Nat × Nat × Plan) := []
noncomputable def cx_view_Index : Cx := ⟨Tryz.prog, gtabU, [], [], hd_view_Index, pl_view_Index, []⟩
def tr_view_Index : Tree := (.br (.o2 .lti (.v 1) (.int 0))
  (.ret (.int (-1)))
  (.loop [(.int 0), (.int 0)]
    (.br (.o2 .lti (.v 3) (.o1 .len (.v 0)))
      (.req (.o2 .lei (.int 0) (.v 3)) (.req (.o2 .lti (.v 3) (.o1 .len (.v 0))) (.br (.o1 (.proj 1) (.o2 .idx (.v 0) (.v 3)))
        (.br (.o2 .lti (.v 1) (.o2 (.add .i64) (.o2 (.add .i64) (.v 2) (.int 1)) (.int 1)))
          (.ret (.v 3))
          (.back 0 [(.o2 (.add .i64) (.o2 (.add .i64) (.v 2) (.int 1)) (.int 1)), (.o2 (.add .i64) (.v 3) (.int 1))]))
        (.br (.o2 .lti (.v 1) (.o2 (.add .i64) (.v 2) (.int 1)))
          (.ret (.v 3))
          (.back 0 [(.o2 (.add .i64) (.v 2) (.int 1)), (.o2 (.add .i64) (.v 3) (.int 1))])))))
      (.ret (.o2 (.sub .i64) (.o2 (.add .i64) (.o1 .len (.v 0)) (.v 1)) (.v 2))))))
set_option maxRecDepth 100000 in
theorem qgt : za4 cx_view_Index 4 sg_view_Index Tryz.f21 (Tryz.f21.body.getD .skip) = tr_view_Index := by kernel_rfl
theorem qhu {Γ : CEnv} (hg : ∀ n, Γ.glob n = globT n) (hs : ∀ s ∈ cx_view_Index.sigs, Contract Tryz.prog Γ gtabU s (Γ.pre s.no) (Γ.post s.no)) : CxOk cx_view_Index Γ := ⟨by kernel_rfl, hs, (fun x hx => by cases hx), (fun x hx => by cases hx)⟩
theorem qej {Γ : CEnv} (hg : ∀ n, Γ.glob n = globT n) (hs : ∀ s ∈ cx_view_Index.sigs, Contract Tryz.prog Γ gtabU s (Γ.pre s.no) (Γ.post s.no)) (k : Nat) {pre : List TV → Prop} {post : List TV → TV → Prop} (h : ∀ ts, ts.length = 2 → pre ts → tr_view_Index.den Γ (post ts) ts []) : Contract Tryz.prog Γ gtabU (qc5 k) pre post :=
  Contract.renum (zas (qhu hg hs) 4 sg_view_Index Tryz.func21 (by kernel_rfl) (by kernel_rfl) fun ts hl hp => by rw [qgt]; exact h ts hl hp) k
def sg_view_Check : Sig := ⟨18, 0, [(true, [(.int .i64), (.int .i64), (.slice false [(.slice true [.str, .bool, (.int .i64)])]), (.int .i64), (.int .i64), .bool])], [(false, [((.int .i64), none)])]⟩
def qcj (k : Nat) : Sig := ⟨sg_view_Check.f, k, sg_view_Check.args, sg_view_Check.res⟩
def hd_view_Check : List (FuncId × Nat × Head) := [(18, 8, ⟨[1, 47, 48, 49], [.slot 1 true 24 false []], [49], [], [], []⟩), (18, 11, ⟨[1, 4, 47, 48, 49, 53, 54, 55], [.slot 1 true 24 false []], [55], [], [], []⟩)]
def pl_view_Check : List (FuncId × Nat × Nat × Plan) := [(18, 17, 5, (.op true 0 (.op true 2 (.op true 3 (.op false 1 (.op false 4 .nil)))))), (18, 20, 11, (.op true 0 (.op true 1 (.op true 2 (.op true 3 (.op true 4 (.op true 5 (.op true 6 (.op true 7 (.op false 8 (.op false 9 (.op false 10 .nil))))))))))))]
noncomputable def cx_view_Check : Cx := ⟨Tryz.prog, gtabU, [qc1 0, qc6 1, qcz 2, qck 3], [], hd_view_Check, pl_view_Check, []⟩
def tr_view_Check : Tree := (.call 0 [(.o1 (.proj 0) (.v 0)), (.o1 (.proj 1) (.v 0))]
  (.br (.o1 .no (.v 1))
    (.ret (.int 2))
    (.br (.o1 .no (.o2 .eqi (.o1 .len (.o1 (.proj 2) (.v 0))) (.o1 (.proj 1) (.v 0))))
      (.ret (.int 11))
      (.br (.o2 .lti (.o1 (.proj 3) (.v 0)) (.int 0))
        (.ret (.int 2))
        (.br (.o2 .lei (.o1 (.proj 1) (.v 0)) (.o1 (.proj 3) (.v 0)))
          (.ret (.int 2))
          (.br (.o2 .lti (.o1 (.proj 4) (.v 0)) (.int 0))
            (.ret (.int 2))
            (.br (.o2 .lei (.o1 (.proj 0) (.v 0)) (.o1 (.proj 4) (.v 0)))
              (.ret (.int 2))
              (.loop [(.int 0)]
                (.br (.o2 .lti (.v 2) (.o1 .len (.o1 (.proj 2) (.v 0))))
                  (.req (.o2 .lei (.int 0) (.v 2)) (.req (.o2 .lti (.v 2) (.o1 .len (.o1 (.proj 2) (.v 0)))) (.loop [(.int 0)]
                    (.br (.o2 .lti (.v 3) (.o1 .len (.o2 .idx (.o1 (.proj 2) (.v 0)) (.v 2))))
                      (.req (.o2 .lei (.int 0) (.v 3)) (.req (.o2 .lti (.v 3) (.o1 .len (.o2 .idx (.o1 (.proj 2) (.v 0)) (.v 2)))) (.call 1 [(.o1 .agg (.cons (.o1 (.proj 0) (.o2 .idx (.o2 .idx (.o1 (.proj 2) (.v 0)) (.v 2)) (.v 3))) (.cons (.o1 (.proj 1) (.o2 .idx (.o2 .idx (.o1 (.proj 2) (.v 0)) (.v 2)) (.v 3))) (.cons (.o1 (.proj 2) (.o2 .idx (.o2 .idx (.o1 (.proj 2) (.v 0)) (.v 2)) (.v 3))) .nil))))]
                        (.br (.o1 .no (.o2 .eqi (.v 4) (.int 0)))
                          (.ret (.v 4))
                          (.back 1 [(.o2 (.add .i64) (.v 3) (.int 1))])))))
                      (.call 3 [(.o2 .idx (.o1 (.proj 2) (.v 0)) (.v 2))]
                        (.br (.o2 .lti (.o1 (.proj 0) (.v 0)) (.v 4))
                          (.ret (.int 12))
                          (.br (.o2 .lti (.int 0) (.o1 .len (.o2 .idx (.o1 (.proj 2) (.v 0)) (.v 2))))
                            (.req (.o2 .lei (.int 0) (.o2 (.sub .i64) (.o1 .len (.o2 .idx (.o1 (.proj 2) (.v 0)) (.v 2))) (.int 1))) (.req (.o2 .lti (.o2 (.sub .i64) (.o1 .len (.o2 .idx (.o1 (.proj 2) (.v 0)) (.v 2))) (.int 1)) (.o1 .len (.o2 .idx (.o1 (.proj 2) (.v 0)) (.v 2)))) (.call 2 []
                              (.br (.o3 .ite (.o2 .eqs (.o1 (.proj 0) (.o2 .idx (.o2 .idx (.o1 (.proj 2) (.v 0)) (.v 2)) (.o2 (.sub .i64) (.o1 .len (.o2 .idx (.o1 (.proj 2) (.v 0)) (.v 2))) (.int 1)))) (.o1 (.proj 0) (.v 5))) (.o3 .ite (.o2 .eqb (.o1 (.proj 1) (.o2 .idx (.o2 .idx (.o1 (.proj 2) (.v 0)) (.v 2)) (.o2 (.sub .i64) (.o1 .len (.o2 .idx (.o1 (.proj 2) (.v 0)) (.v 2))) (.int 1)))) (.o1 (.proj 1) (.v 5))) (.o3 .ite (.o2 .eqi (.o1 (.proj 2) (.o2 .idx (.o2 .idx (.o1 (.proj 2) (.v 0)) (.v 2)) (.o2 (.sub .i64) (.o1 .len (.o2 .idx (.o1 (.proj 2) (.v 0)) (.v 2))) (.int 1)))) (.o1 (.proj 2) (.v 5))) (.bool true) (.bool false)) (.bool false)) (.bool false))
                                (.ret (.int 1))
                                (.back 0 [(.o2 (.add .i64) (.v 2) (.int 1))])))))
                            (.back 0 [(.o2 (.add .i64) (.v 2) (.int 1))]))))))))
                  (.ret (.int 0)))))))))))
set_option maxRecDepth 100000 in
theorem qgv : za4 cx_view_Check 4 sg_view_Check Tryz.f18 (Tryz.f18.body.getD .skip) = tr_view_Check := by kernel_rfl
theorem qg8 {Γ : CEnv} (hg : ∀ n, Γ.glob n = globT n) (hs : ∀ s ∈ cx_view_Check.sigs, Contract Tryz.prog Γ gtabU s (Γ.pre s.no) (Γ.post s.no)) : CxOk cx_view_Check Γ := ⟨by kernel_rfl, hs, (fun x hx => by cases hx), (fun x hx => by cases hx)⟩
theorem qep {Γ : CEnv} (hg : ∀ n, Γ.glob n = globT n) (hs : ∀ s ∈ cx_view_Check.sigs, Contract Tryz.prog Γ gtabU s (Γ.pre s.no) (Γ.post s.no)) (k : Nat) {pre : List TV → Prop} {post : List TV → TV → Prop} (h : ∀ ts, ts.length = 1 → pre ts → tr_view_Check.den Γ (post ts) ts []) : Contract Tryz.prog Γ gtabU (qcj k) pre post :=
  Contract.renum (zas (qg8 hg hs) 4 sg_view_Check Tryz.func18 (by kernel_rfl) (by kernel_rfl) fun ts hl hp => by rw [qgv]; exact h ts hl hp) k
def sg_display_proper : Sig := ⟨28, 0, [(true, [(.int .i64), (.int .i64), (.int .i64), .bool]), (true, [(.int .i64), (.int .i64), (.slice false [(.slice true [.str, .bool, (.int .i64)])]), (.int .i64), (.int .i64), .bool])], [(false, [(.bool, none)])]⟩
def qb4 (k : Nat) : Sig := ⟨sg_display_proper.f, k, sg_display_proper.args, sg_display_proper.res⟩
def qe8 : List (FuncId × Nat × Head) := []
def qfw : List (FuncId × Nat × Nat × Plan) := []
noncomputable def cx_display_proper : Cx := ⟨Tryz.prog, gtabU, [qcj 0], [], qe8, qfw, []⟩
def tr_display_proper : Tree := (.br (.o2 .lei (.int 1) (.o1 (.proj 0) (.v 0)))
  (.br (.o2 .lei (.o1 (.proj 0) (.v 0)) (.int 80))
    (.br (.o2 .lei (.int 0) (.o1 (.proj 1) (.v 0)))
      (.br (.o2 .lti (.o1 (.proj 1) (.v 0)) (.int 60))
        (.br (.o2 .lei (.int 0) (.o1 (.proj 2) (.v 0)))
          (.br (.o2 .lei (.o1 (.proj 2) (.v 0)) (.int 10000))
            (.call 0 [(.o1 .agg (.cons (.o1 (.proj 0) (.v 1)) (.cons (.o1 (.proj 1) (.v 1)) (.cons (.o1 (.proj 2) (.v 1)) (.cons (.o1 (.proj 3) (.v 1)) (.cons (.o1 (.proj 4) (.v 1)) (.cons (.o1 (.proj 5) (.v 1)) .nil)))))))]
              (.ret (.o2 .eqi (.v 2) (.int 0))))
            (.ret (.bool false)))
          (.ret (.bool false)))
        (.ret (.bool false)))
      (.ret (.bool false)))
    (.ret (.bool false)))
  (.ret (.bool false)))
set_option maxRecDepth 100000 in
theorem qek : za4 cx_display_proper 4 sg_display_proper Tryz.f28 (Tryz.f28.body.getD .skip) = tr_display_proper := by kernel_rfl
theorem qen {Γ : CEnv} (hg : ∀ n, Γ.glob n = globT n) (hs : ∀ s ∈ cx_display_proper.sigs, Contract Tryz.prog Γ gtabU s (Γ.pre s.no) (Γ.post s.no)) : CxOk cx_display_proper Γ := ⟨by kernel_rfl, hs, (fun x hx => by cases hx), (fun x hx => by cases hx)⟩
theorem contract_display_proper {Γ : CEnv} (hg : ∀ n, Γ.glob n = globT n) (hs : ∀ s ∈ cx_display_proper.sigs, Contract Tryz.prog Γ gtabU s (Γ.pre s.no) (Γ.post s.no)) (k : Nat) {pre : List TV → Prop} {post : List TV → TV → Prop} (h : ∀ ts, ts.length = 2 → pre ts → tr_display_proper.den Γ (post ts) ts []) : Contract Tryz.prog Γ gtabU (qb4 k) pre post :=
  Contract.renum (zas (qen hg hs) 4 sg_display_proper Tryz.func28 (by kernel_rfl) (by kernel_rfl) fun ts hl hp => by rw [qek]; exact h ts hl hp) k
def sg_display_current : Sig := ⟨31, 0, [(true, [(.int .i64), (.int .i64), (.int .i64), .bool]), (true, [(.int .i64), (.int .i64), (.slice false [(.slice true [.str, .bool, (.int .i64)])]), (.int .i64), (.int .i64), .bool])], [(false, [((.int .i64), none)])]⟩
def qcc (k : Nat) : Sig := ⟨sg_display_current.f, k, sg_display_current.args, sg_display_current.res⟩
def qe2 : List (FuncId × Nat × Head) := []
def qev : List (FuncId × Nat × Nat × Plan) := []
noncomputable def cx_display_current : Cx := ⟨Tryz.prog, gtabU, [], [], qe2, qev, []⟩
def tr_display_current : Tree := (.ret (.o2 .min (.o1 (.proj 1) (.v 0)) (.o2 (.sub .i64) (.o1 (.proj 1) (.v 1)) (.int 1))))
set_option maxRecDepth 100000 in
theorem qdw : za4 cx_display_current 4 sg_display_current Tryz.f31 (Tryz.f31.body.getD .skip) = tr_display_current := by kernel_rfl
theorem qd4 {Γ : CEnv} (hg : ∀ n, Γ.glob n = globT n) (hs : ∀ s ∈ cx_display_current.sigs, Contract Tryz.prog Γ gtabU s (Γ.pre s.no) (Γ.post s.no)) : CxOk cx_display_current Γ := ⟨by kernel_rfl, hs, (fun x hx => by cases hx), (fun x hx => by cases hx)⟩
theorem contract_display_current {Γ : CEnv} (hg : ∀ n, Γ.glob n = globT n) (hs : ∀ s ∈ cx_display_current.sigs, Contract Tryz.prog Γ gtabU s (Γ.pre s.no) (Γ.post s.no)) (k : Nat) {pre : List TV → Prop} {post : List TV → TV → Prop} (h : ∀ ts, ts.length = 2 → pre ts → tr_display_current.den Γ (post ts) ts []) : Contract Tryz.prog Γ gtabU (qcc k) pre post :=
  Contract.renum (zas (qd4 hg hs) 4 sg_display_current Tryz.func31 (by kernel_rfl) (by kernel_rfl) fun ts hl hp => by rw [qdw]; exact h ts hl hp) k
def sg_display_cursor : Sig := ⟨30, 0, [(true, [(.int .i64), (.int .i64), (.slice false [(.slice true [.str, .bool, (.int .i64)])]), (.int .i64), (.int .i64), .bool]), (true, [(.int .i64), .bool, .bool, (.int .i64), .bool, (.int .i64)])], [(false, [((.int .i64), none)])]⟩
def qce (k : Nat) : Sig := ⟨sg_display_cursor.f, k, sg_display_cursor.args, sg_display_cursor.res⟩
def qft : List (FuncId × Nat × Head) := []
def qfp : List (FuncId × Nat × Nat × Plan) := [(30, 2, 9, (.op true 0 (.op true 1 (.op true 3 (.op true 4 (.op true 5 (.op false 2 (.op false 6 (.op false 7 (.op false 8 .nil))))))))))]
noncomputable def cx_display_cursor : Cx := ⟨Tryz.prog, gtabU, [zbs 0, zb5 1, qc5 2], [], qft, qfp, []⟩
def tr_display_cursor : Tree := (.req (.o2 .lei (.int 0) (.o1 (.proj 3) (.v 0))) (.req (.o2 .lti (.o1 (.proj 3) (.v 0)) (.o1 .len (.o1 (.proj 2) (.v 0)))) (.call 0 [(.o2 .idx (.o1 (.proj 2) (.v 0)) (.o1 (.proj 3) (.v 0))), (.o1 .agg (.cons (.o1 (.proj 0) (.v 1)) (.cons (.o1 (.proj 1) (.v 1)) (.cons (.o1 (.proj 2) (.v 1)) (.cons (.o1 (.proj 3) (.v 1)) (.cons (.o1 (.proj 4) (.v 1)) (.cons (.o1 (.proj 5) (.v 1)) .nil)))))))]
  (.call 2 [(.o2 .idx (.o1 (.proj 2) (.v 0)) (.o1 (.proj 3) (.v 0))), (.o1 (.proj 4) (.v 0))]
    (.call 1 [(.o1 .agg (.cons (.o1 (.proj 0) (.v 2)) (.cons (.o1 (.proj 1) (.v 2)) .nil))), (.v 3)]
      (.ret (.v 4)))))))
set_option maxRecDepth 100000 in
theorem qes : za4 cx_display_cursor 4 sg_display_cursor Tryz.f30 (Tryz.f30.body.getD .skip) = tr_display_cursor := by kernel_rfl
theorem qee {Γ : CEnv} (hg : ∀ n, Γ.glob n = globT n) (hs : ∀ s ∈ cx_display_cursor.sigs, Contract Tryz.prog Γ gtabU s (Γ.pre s.no) (Γ.post s.no)) : CxOk cx_display_cursor Γ := ⟨by kernel_rfl, hs, (fun x hx => by cases hx), (fun x hx => by cases hx)⟩
theorem contract_display_cursor {Γ : CEnv} (hg : ∀ n, Γ.glob n = globT n) (hs : ∀ s ∈ cx_display_cursor.sigs, Contract Tryz.prog Γ gtabU s (Γ.pre s.no) (Γ.post s.no)) (k : Nat) {pre : List TV → Prop} {post : List TV → TV → Prop} (h : ∀ ts, ts.length = 2 → pre ts → tr_display_cursor.den Γ (post ts) ts []) : Contract Tryz.prog Γ gtabU (qce k) pre post :=
  Contract.renum (zas (qee hg hs) 4 sg_display_cursor Tryz.func30 (by kernel_rfl) (by kernel_rfl) fun ts hl hp => by rw [qes]; exact h ts hl hp) k
def sg_display_Show : Sig := ⟨15, 0, [(true, [(.int .i64), (.int .i64), (.int .i64), .bool]), (true, [(.int .i64), (.int .i64), (.slice false [(.slice true [.str, .bool, (.int .i64)])]), (.int .i64), (.int .i64), .bool]), (true, [(.int .i64), .bool, .bool, (.int .i64), .bool, (.int .i64)])], [(false, [((.slice false [(.int .u8)]), some 5)]), (false, [((.int .i64), none)])]⟩
def qca (k : Nat) : Sig := ⟨sg_display_Show.f, k, sg_display_Show.args, sg_display_Show.res⟩
def qg1 : List (FuncId × Nat × Head) := []
def qg7 : List (FuncId × Nat × Nat × Plan) := [(15, 4, 9, (.op true 0 (.op true 1 (.op true 2 (.op true 3 (.op true 4 (.op true 5 (.op false 6 (.op false 7 (.op false 8 .nil)))))))))), (15, 8, 7, (.op true 0 (.op true 1 (.op true 3 (.op true 4 (.op false 2 (.op false 5 (.op false 6 .nil))))))))]
noncomputable def cx_display_Show : Cx := ⟨Tryz.prog, gtabU, [zbs 0, qb4 1, qcc 2, qce 3], [], qg1, qg7, []⟩
def tr_display_Show : Tree := (.call 1 [(.o1 .agg (.cons (.o1 (.proj 0) (.v 0)) (.cons (.o1 (.proj 1) (.v 0)) (.cons (.o1 (.proj 2) (.v 0)) (.cons (.o1 (.proj 3) (.v 0)) .nil))))), (.o1 .agg (.cons (.o1 (.proj 0) (.v 1)) (.cons (.o1 (.proj 1) (.v 1)) (.cons (.o1 (.proj 2) (.v 1)) (.cons (.o1 (.proj 3) (.v 1)) (.cons (.o1 (.proj 4) (.v 1)) (.cons (.o1 (.proj 5) (.v 1)) .nil)))))))]
  (.br (.o1 .no (.v 3))
    (.ret (.o1 .agg (.cons .nil (.cons (.int (-1)) .nil))))
    (.call 2 [(.o1 .agg (.cons (.o1 (.proj 0) (.v 0)) (.cons (.o1 (.proj 1) (.v 0)) (.cons (.o1 (.proj 2) (.v 0)) (.cons (.o1 (.proj 3) (.v 0)) .nil))))), (.o1 .agg (.cons (.o1 (.proj 0) (.v 1)) (.cons (.o1 (.proj 1) (.v 1)) (.cons (.o1 (.proj 2) (.v 1)) (.cons (.o1 (.proj 3) (.v 1)) (.cons (.o1 (.proj 4) (.v 1)) (.cons (.o1 (.proj 5) (.v 1)) .nil)))))))]
      (.req (.o2 .lei (.int 0) (.v 4)) (.req (.o2 .lti (.v 4) (.o1 .len (.o1 (.proj 2) (.v 1)))) (.call 0 [(.o2 .idx (.o1 (.proj 2) (.v 1)) (.v 4)), (.o1 .agg (.cons (.o1 (.proj 0) (.v 2)) (.cons (.o1 (.proj 1) (.v 2)) (.cons (.o1 (.proj 2) (.v 2)) (.cons (.o1 (.proj 3) (.v 2)) (.cons (.o1 (.proj 4) (.v 2)) (.cons (.o1 (.proj 5) (.v 2)) .nil)))))))]
        (.req (.o2 .lei (.int 0) (.o1 (.proj 0) (.v 0))) (.req (.o2 .lei (.o1 (.proj 0) (.v 0)) (.o1 (.proj 0) (.v 0))) (.req (.o2 .lei (.o1 (.proj 0) (.v 0)) (.int 1099511627776)) (.br (.o2 .lti (.o1 (.proj 2) (.v 0)) (.o1 .len (.o1 (.proj 0) (.v 5))))
          (.req (.o2 .lei (.int 0) (.o1 (.proj 2) (.v 0))) (.req (.o2 .lei (.o1 (.proj 2) (.v 0)) (.o1 .len (.o1 (.proj 0) (.v 5)))) (.call 3 [(.o1 .agg (.cons (.o1 (.proj 0) (.v 1)) (.cons (.o1 (.proj 1) (.v 1)) (.cons (.o1 (.proj 2) (.v 1)) (.cons (.o1 (.proj 3) (.v 1)) (.cons (.o1 (.proj 4) (.v 1)) (.cons (.o1 (.proj 5) (.v 1)) .nil))))))), (.o1 .agg (.cons (.o1 (.proj 0) (.v 2)) (.cons (.o1 (.proj 1) (.v 2)) (.cons (.o1 (.proj 2) (.v 2)) (.cons (.o1 (.proj 3) (.v 2)) (.cons (.o1 (.proj 4) (.v 2)) (.cons (.o1 (.proj 5) (.v 2)) .nil)))))))]
            (.br (.o2 .eqi (.v 4) (.o1 (.proj 3) (.v 1)))
              (.br (.o1 (.proj 5) (.v 1))
                (.br (.o2 .lei (.int 0) (.o2 (.sub .i64) (.v 6) (.o1 (.proj 2) (.v 0))))
                  (.br (.o2 .lti (.o2 (.sub .i64) (.v 6) (.o1 (.proj 2) (.v 0))) (.o1 (.proj 0) (.v 0)))
                    (.ret (.o1 .agg (.cons (.o2 .app (.o3 .sub (.o3 .sub (.o1 (.proj 0) (.v 5)) (.o1 (.proj 2) (.v 0)) (.o1 .len (.o1 (.proj 0) (.v 5)))) (.int 0) (.o2 .min (.o1 .len (.o3 .sub (.o1 (.proj 0) (.v 5)) (.o1 (.proj 2) (.v 0)) (.o1 .len (.o1 (.proj 0) (.v 5))))) (.o1 .len (.o2 .repl (.o1 (.proj 0) (.v 0)) (.int 0))))) (.o3 .sub (.o2 .repl (.o1 (.proj 0) (.v 0)) (.int 0)) (.o2 .min (.o1 .len (.o3 .sub (.o1 (.proj 0) (.v 5)) (.o1 (.proj 2) (.v 0)) (.o1 .len (.o1 (.proj 0) (.v 5))))) (.o1 .len (.o2 .repl (.o1 (.proj 0) (.v 0)) (.int 0)))) (.o1 .len (.o2 .repl (.o1 (.proj 0) (.v 0)) (.int 0))))) (.cons (.o2 (.sub .i64) (.v 6) (.o1 (.proj 2) (.v 0))) .nil))))
                    (.ret (.o1 .agg (.cons (.o2 .app (.o3 .sub (.o3 .sub (.o1 (.proj 0) (.v 5)) (.o1 (.proj 2) (.v 0)) (.o1 .len (.o1 (.proj 0) (.v 5)))) (.int 0) (.o2 .min (.o1 .len (.o3 .sub (.o1 (.proj 0) (.v 5)) (.o1 (.proj 2) (.v 0)) (.o1 .len (.o1 (.proj 0) (.v 5))))) (.o1 .len (.o2 .repl (.o1 (.proj 0) (.v 0)) (.int 0))))) (.o3 .sub (.o2 .repl (.o1 (.proj 0) (.v 0)) (.int 0)) (.o2 .min (.o1 .len (.o3 .sub (.o1 (.proj 0) (.v 5)) (.o1 (.proj 2) (.v 0)) (.o1 .len (.o1 (.proj 0) (.v 5))))) (.o1 .len (.o2 .repl (.o1 (.proj 0) (.v 0)) (.int 0)))) (.o1 .len (.o2 .repl (.o1 (.proj 0) (.v 0)) (.int 0))))) (.cons (.int (-1)) .nil)))))
                  (.ret (.o1 .agg (.cons (.o2 .app (.o3 .sub (.o3 .sub (.o1 (.proj 0) (.v 5)) (.o1 (.proj 2) (.v 0)) (.o1 .len (.o1 (.proj 0) (.v 5)))) (.int 0) (.o2 .min (.o1 .len (.o3 .sub (.o1 (.proj 0) (.v 5)) (.o1 (.proj 2) (.v 0)) (.o1 .len (.o1 (.proj 0) (.v 5))))) (.o1 .len (.o2 .repl (.o1 (.proj 0) (.v 0)) (.int 0))))) (.o3 .sub (.o2 .repl (.o1 (.proj 0) (.v 0)) (.int 0)) (.o2 .min (.o1 .len (.o3 .sub (.o1 (.proj 0) (.v 5)) (.o1 (.proj 2) (.v 0)) (.o1 .len (.o1 (.proj 0) (.v 5))))) (.o1 .len (.o2 .repl (.o1 (.proj 0) (.v 0)) (.int 0)))) (.o1 .len (.o2 .repl (.o1 (.proj 0) (.v 0)) (.int 0))))) (.cons (.int (-1)) .nil)))))
                (.ret (.o1 .agg (.cons (.o2 .app (.o3 .sub (.o3 .sub (.o1 (.proj 0) (.v 5)) (.o1 (.proj 2) (.v 0)) (.o1 .len (.o1 (.proj 0) (.v 5)))) (.int 0) (.o2 .min (.o1 .len (.o3 .sub (.o1 (.proj 0) (.v 5)) (.o1 (.proj 2) (.v 0)) (.o1 .len (.o1 (.proj 0) (.v 5))))) (.o1 .len (.o2 .repl (.o1 (.proj 0) (.v 0)) (.int 0))))) (.o3 .sub (.o2 .repl (.o1 (.proj 0) (.v 0)) (.int 0)) (.o2 .min (.o1 .len (.o3 .sub (.o1 (.proj 0) (.v 5)) (.o1 (.proj 2) (.v 0)) (.o1 .len (.o1 (.proj 0) (.v 5))))) (.o1 .len (.o2 .repl (.o1 (.proj 0) (.v 0)) (.int 0)))) (.o1 .len (.o2 .repl (.o1 (.proj 0) (.v 0)) (.int 0))))) (.cons (.int (-1)) .nil)))))
              (.ret (.o1 .agg (.cons (.o2 .app (.o3 .sub (.o3 .sub (.o1 (.proj 0) (.v 5)) (.o1 (.proj 2) (.v 0)) (.o1 .len (.o1 (.proj 0) (.v 5)))) (.int 0) (.o2 .min (.o1 .len (.o3 .sub (.o1 (.proj 0) (.v 5)) (.o1 (.proj 2) (.v 0)) (.o1 .len (.o1 (.proj 0) (.v 5))))) (.o1 .len (.o2 .repl (.o1 (.proj 0) (.v 0)) (.int 0))))) (.o3 .sub (.o2 .repl (.o1 (.proj 0) (.v 0)) (.int 0)) (.o2 .min (.o1 .len (.o3 .sub (.o1 (.proj 0) (.v 5)) (.o1 (.proj 2) (.v 0)) (.o1 .len (.o1 (.proj 0) (.v 5))))) (.o1 .len (.o2 .repl (.o1 (.proj 0) (.v 0)) (.int 0)))) (.o1 .len (.o2 .repl (.o1 (.proj 0) (.v 0)) (.int 0))))) (.cons (.int (-1)) .nil))))))))
          (.call 3 [(.o1 .agg (.cons (.o1 (.proj 0) (.v 1)) (.cons (.o1 (.proj 1) (.v 1)) (.cons (.o1 (.proj 2) (.v 1)) (.cons (.o1 (.proj 3) (.v 1)) (.cons (.o1 (.proj 4) (.v 1)) (.cons (.o1 (.proj 5) (.v 1)) .nil))))))), (.o1 .agg (.cons (.o1 (.proj 0) (.v 2)) (.cons (.o1 (.proj 1) (.v 2)) (.cons (.o1 (.proj 2) (.v 2)) (.cons (.o1 (.proj 3) (.v 2)) (.cons (.o1 (.proj 4) (.v 2)) (.cons (.o1 (.proj 5) (.v 2)) .nil)))))))]
            (.br (.o2 .eqi (.v 4) (.o1 (.proj 3) (.v 1)))
              (.br (.o1 (.proj 5) (.v 1))
                (.br (.o2 .lei (.int 0) (.o2 (.sub .i64) (.v 6) (.o1 (.proj 2) (.v 0))))
                  (.br (.o2 .lti (.o2 (.sub .i64) (.v 6) (.o1 (.proj 2) (.v 0))) (.o1 (.proj 0) (.v 0)))
                    (.ret (.o1 .agg (.cons (.o2 .repl (.o1 (.proj 0) (.v 0)) (.int 0)) (.cons (.o2 (.sub .i64) (.v 6) (.o1 (.proj 2) (.v 0))) .nil))))
                    (.ret (.o1 .agg (.cons (.o2 .repl (.o1 (.proj 0) (.v 0)) (.int 0)) (.cons (.int (-1)) .nil)))))
                  (.ret (.o1 .agg (.cons (.o2 .repl (.o1 (.proj 0) (.v 0)) (.int 0)) (.cons (.int (-1)) .nil)))))
                (.ret (.o1 .agg (.cons (.o2 .repl (.o1 (.proj 0) (.v 0)) (.int 0)) (.cons (.int (-1)) .nil)))))
              (.ret (.o1 .agg (.cons (.o2 .repl (.o1 (.proj 0) (.v 0)) (.int 0)) (.cons (.int (-1)) .nil))))))))))))))))
set_option maxRecDepth 100000 in
theorem qfv : za4 cx_display_Show 4 sg_display_Show Tryz.f15 (Tryz.f15.body.getD .skip) = tr_display_Show := by kernel_rfl
theorem qfe {Γ : CEnv} (hg : ∀ n, Γ.glob n = globT n) (hs : ∀ s ∈ cx_display_Show.sigs, Contract Tryz.prog Γ gtabU s (Γ.pre s.no) (Γ.post s.no)) : CxOk cx_display_Show Γ := ⟨by kernel_rfl, hs, (fun x hx => by cases hx), (fun x hx => by cases hx)⟩
theorem contract_display_Show {Γ : CEnv} (hg : ∀ n, Γ.glob n = globT n) (hs : ∀ s ∈ cx_display_Show.sigs, Contract Tryz.prog Γ gtabU s (Γ.pre s.no) (Γ.post s.no)) (k : Nat) {pre : List TV → Prop} {post : List TV → TV → Prop} (h : ∀ ts, ts.length = 3 → pre ts → tr_display_Show.den Γ (post ts) ts []) : Contract Tryz.prog Γ gtabU (qca k) pre post :=
  Contract.renum (zas (qfe hg hs) 4 sg_display_Show Tryz.func15 (by kernel_rfl) (by kernel_rfl) fun ts hl hp => by rw [qfv]; exact h ts hl hp) k
def sg_display_New : Sig := ⟨27, 0, [(false, [(.int .i64)])], [(true, [((.int .i64), none), ((.int .i64), none), ((.int .i64), none), (.bool, none)]), (false, [((.int .i64), none)])]⟩
def qcs (k : Nat) : Sig := ⟨sg_display_New.f, k, sg_display_New.args, sg_display_New.res⟩
def hd_display_New : List (FuncId × Nat × Head) := []
def pl_display_New : List (FuncId × Nat × Nat × Plan) := []
noncomputable def cx_display_New : Cx := ⟨Tryz.prog, gtabU, [], [], hd_display_New, pl_display_New, []⟩
def tr_display_New : Tree := (.br (.o2 .lti (.v 0) (.int 1))
  (.ret (.o1 .agg (.cons (.o1 .agg (.cons (.int 0) (.cons (.int 0) (.cons (.int 0) (.cons (.bool false) .nil))))) (.cons (.int 2) .nil))))
  (.br (.o2 .lti (.int 80) (.v 0))
    (.ret (.o1 .agg (.cons (.o1 .agg (.cons (.int 0) (.cons (.int 0) (.cons (.int 0) (.cons (.bool false) .nil))))) (.cons (.int 2) .nil))))
    (.ret (.o1 .agg (.cons (.o1 .agg (.cons (.v 0) (.cons (.int 0) (.cons (.int 0) (.cons (.bool true) .nil))))) (.cons (.int 0) .nil))))))
set_option maxRecDepth 100000 in
theorem qf6 : za4 cx_display_New 4 sg_display_New Tryz.f27 (Tryz.f27.body.getD .skip) = tr_display_New := by kernel_rfl
theorem qge {Γ : CEnv} (hg : ∀ n, Γ.glob n = globT n) (hs : ∀ s ∈ cx_display_New.sigs, Contract Tryz.prog Γ gtabU s (Γ.pre s.no) (Γ.post s.no)) : CxOk cx_display_New Γ := ⟨by kernel_rfl, hs, (fun x hx => by cases hx), (fun x hx => by cases hx)⟩
theorem contract_display_New {Γ : CEnv} (hg : ∀ n, Γ.glob n = globT n) (hs : ∀ s ∈ cx_display_New.sigs, Contract Tryz.prog Γ gtabU s (Γ.pre s.no) (Γ.post s.no)) (k : Nat) {pre : List TV → Prop} {post : List TV → TV → Prop} (h : ∀ ts, ts.length = 1 → pre ts → tr_display_New.den Γ (post ts) ts []) : Contract Tryz.prog Γ gtabU (qcs k) pre post :=
  Contract.renum (zas (qge hg hs) 4 sg_display_New Tryz.func27 (by kernel_rfl) (by kernel_rfl) fun ts hl hp => by rw [qf6]; exact h ts hl hp) k
def sg_display_Route : Sig := ⟨8, 0, [(true, [(.int .i64), (.int .i64), (.int .i64), .bool]), (true, [(.int .i64), (.int .i64), (.slice false [(.slice true [.str, .bool, (.int .i64)])]), (.int .i64), (.int .i64), .bool]), (true, [(.int .i64), .bool, .bool, (.int .i64), .bool, (.int .i64)]), (false, [(.int .i64)])], [(false, [((.int .i64), none)]), (false, [((.int .i64), none)]), (false, [((.int .i64), none)])]⟩
def qb8 (k : Nat) : Sig := ⟨sg_display_Route.f, k, sg_display_Route.args, sg_display_Route.res⟩
def qgd : List (FuncId × Nat × Head) := []
def qgf : List (FuncId × Nat × Nat × Plan) := [(8, 7, 9, (.op true 0 (.op true 1 (.op true 3 (.op true 4 (.op true 5 (.op true 6 (.op false 2 (.op false 7 (.op false 8 .nil))))))))))]
noncomputable def cx_display_Route : Cx := ⟨Tryz.prog, gtabU, [zbs 0, zby 1, qck 2, qb4 3, qcc 4], [], qgd, qgf, []⟩
def tr_display_Route : Tree := (.call 3 [(.o1 .agg (.cons (.o1 (.proj 0) (.v 0)) (.cons (.o1 (.proj 1) (.v 0)) (.cons (.o1 (.proj 2) (.v 0)) (.cons (.o1 (.proj 3) (.v 0)) .nil))))), (.o1 .agg (.cons (.o1 (.proj 0) (.v 1)) (.cons (.o1 (.proj 1) (.v 1)) (.cons (.o1 (.proj 2) (.v 1)) (.cons (.o1 (.proj 3) (.v 1)) (.cons (.o1 (.proj 4) (.v 1)) (.cons (.o1 (.proj 5) (.v 1)) .nil)))))))]
  (.br (.o1 .no (.v 4))
    (.ret (.o1 .agg (.cons (.int 0) (.cons (.int 0) (.cons (.int 1) .nil)))))
    (.br (.o2 .lti (.v 3) (.int 0))
      (.ret (.o1 .agg (.cons (.int 0) (.cons (.int 0) (.cons (.int 2) .nil)))))
      (.br (.o2 .lei (.o1 (.proj 0) (.v 0)) (.v 3))
        (.ret (.o1 .agg (.cons (.int 0) (.cons (.int 0) (.cons (.int 2) .nil)))))
        (.call 4 [(.o1 .agg (.cons (.o1 (.proj 0) (.v 0)) (.cons (.o1 (.proj 1) (.v 0)) (.cons (.o1 (.proj 2) (.v 0)) (.cons (.o1 (.proj 3) (.v 0)) .nil))))), (.o1 .agg (.cons (.o1 (.proj 0) (.v 1)) (.cons (.o1 (.proj 1) (.v 1)) (.cons (.o1 (.proj 2) (.v 1)) (.cons (.o1 (.proj 3) (.v 1)) (.cons (.o1 (.proj 4) (.v 1)) (.cons (.o1 (.proj 5) (.v 1)) .nil)))))))]
          (.req (.o2 .lei (.int 0) (.v 5)) (.req (.o2 .lti (.v 5) (.o1 .len (.o1 (.proj 2) (.v 1)))) (.call 0 [(.o2 .idx (.o1 (.proj 2) (.v 1)) (.v 5)), (.o1 .agg (.cons (.o1 (.proj 0) (.v 2)) (.cons (.o1 (.proj 1) (.v 2)) (.cons (.o1 (.proj 2) (.v 2)) (.cons (.o1 (.proj 3) (.v 2)) (.cons (.o1 (.proj 4) (.v 2)) (.cons (.o1 (.proj 5) (.v 2)) .nil)))))))]
            (.call 1 [(.o1 .agg (.cons (.o1 (.proj 0) (.v 6)) (.cons (.o1 (.proj 1) (.v 6)) .nil))), (.o2 (.add .i64) (.o1 (.proj 2) (.v 0)) (.v 3))]
              (.req (.o2 .lei (.int 0) (.o2 .min (.v 7) (.o1 .len (.o2 .idx (.o1 (.proj 2) (.v 1)) (.v 5))))) (.req (.o2 .lei (.o2 .min (.v 7) (.o1 .len (.o2 .idx (.o1 (.proj 2) (.v 1)) (.v 5)))) (.o1 .len (.o2 .idx (.o1 (.proj 2) (.v 1)) (.v 5)))) (.call 2 [(.o3 .sub (.o2 .idx (.o1 (.proj 2) (.v 1)) (.v 5)) (.int 0) (.o2 .min (.v 7) (.o1 .len (.o2 .idx (.o1 (.proj 2) (.v 1)) (.v 5)))))]
                (.br (.o2 .lei (.o1 (.proj 0) (.v 1)) (.o2 (.add .i64) (.v 8) (.o2 .max (.int 0) (.o2 (.sub .i64) (.v 7) (.o1 .len (.o2 .idx (.o1 (.proj 2) (.v 1)) (.v 5)))))))
                  (.ret (.o1 .agg (.cons (.int 0) (.cons (.int 0) (.cons (.int 2) .nil)))))
                  (.ret (.o1 .agg (.cons (.v 5) (.cons (.o2 (.add .i64) (.v 8) (.o2 .max (.int 0) (.o2 (.sub .i64) (.v 7) (.o1 .len (.o2 .idx (.o1 (.proj 2) (.v 1)) (.v 5)))))) (.cons (.int 0) .nil))))))))))))))))))
set_option maxRecDepth 100000 in
theorem qew : za4 cx_display_Route 4 sg_display_Route Tryz.f8 (Tryz.f8.body.getD .skip) = tr_display_Route := by kernel_rfl
theorem qe0 {Γ : CEnv} (hg : ∀ n, Γ.glob n = globT n) (hs : ∀ s ∈ cx_display_Route.sigs, Contract Tryz.prog Γ gtabU s (Γ.pre s.no) (Γ.post s.no)) : CxOk cx_display_Route Γ := ⟨by kernel_rfl, hs, (fun x hx => by cases hx), (fun x hx => by cases hx)⟩
theorem contract_display_Route {Γ : CEnv} (hg : ∀ n, Γ.glob n = globT n) (hs : ∀ s ∈ cx_display_Route.sigs, Contract Tryz.prog Γ gtabU s (Γ.pre s.no) (Γ.post s.no)) (k : Nat) {pre : List TV → Prop} {post : List TV → TV → Prop} (h : ∀ ts, ts.length = 4 → pre ts → tr_display_Route.den Γ (post ts) ts []) : Contract Tryz.prog Γ gtabU (qb8 k) pre post :=
  Contract.renum (zas (qe0 hg hs) 4 sg_display_Route Tryz.func8 (by kernel_rfl) (by kernel_rfl) fun ts hl hp => by rw [qew]; exact h ts hl hp) k
def sg_display_Keys : Sig := ⟨9, 0, [(true, [(.int .i64), (.int .i64), (.slice false [(.slice true [.str, .bool, (.int .i64)])]), (.int .i64), (.int .i64), .bool]), (false, [(.int .i64)]), (false, [(.int .i64)])], [(false, [((.slice true [.str, (.int .i32), .bool, .bool, .bool]), some 42)])]⟩
def qcm (k : Nat) : Sig := ⟨sg_display_Keys.f, k, sg_display_Keys.args, sg_display_Keys.res⟩
def qha : List (FuncId × Nat × Head) := [(33, 3, ⟨[0, 2, 3], [.blk 0, .blk 1, .cell 3 0 true 42 true [.str, (.int .i32), .bool, .bool, .bool]], [0], [2], [], []⟩), (33, 0, ⟨[0, 1, 2, 3], [.blk 0, .blk 1, .cell 3 0 true 42 true [.str, (.int .i32), .bool, .bool, .bool]], [0], [2], [], []⟩)]
def qg9 : List (FuncId × Nat × Nat × Plan) := []
noncomputable def cx_display_Keys : Cx := ⟨Tryz.prog, gtabU, [qcj 0], [(33, Tryz.f33)], qha, qg9, []⟩
def tr_display_Keys : Tree := (.call 0 [(.o1 .agg (.cons (.o1 (.proj 0) (.v 0)) (.cons (.o1 (.proj 1) (.v 0)) (.cons (.o1 (.proj 2) (.v 0)) (.cons (.o1 (.proj 3) (.v 0)) (.cons (.o1 (.proj 4) (.v 0)) (.cons (.o1 (.proj 5) (.v 0)) .nil)))))))]
  (.br (.o1 .no (.o2 .eqi (.v 3) (.int 0)))
    (.ret .nil)
    (.br (.o2 .lti (.v 1) (.int 0))
      (.ret .nil)
      (.br (.o2 .lei (.o1 (.proj 1) (.v 0)) (.v 1))
        (.ret .nil)
        (.br (.o2 .lti (.v 2) (.int 0))
          (.ret .nil)
          (.br (.o2 .lei (.o1 (.proj 0) (.v 0)) (.v 2))
            (.ret .nil)
            (.loop [(.o2 (.sub .i64) (.v 2) (.o1 (.proj 4) (.v 0))), .nil]
              (.br (.o2 .lti (.int 0) (.v 4))
                (.req (.o2 .lei (.o1 .len (.o2 .app (.v 5) (.cons (.o1 .agg (.cons (.str [82, 105, 103, 104, 116]) (.cons (.int 0) (.cons (.bool false) (.cons (.bool false) (.cons (.bool false) .nil)))))) .nil))) (.int 1099511627776)) (.back 0 [(.o2 (.sub .i64) (.v 4) (.int 1)), (.o2 .app (.v 5) (.cons (.o1 .agg (.cons (.str [82, 105, 103, 104, 116]) (.cons (.int 0) (.cons (.bool false) (.cons (.bool false) (.cons (.bool false) .nil)))))) .nil))]))
                (.loop [(.v 4), (.v 5)]
                  (.br (.o2 .lti (.v 6) (.int 0))
                    (.req (.o2 .lei (.o1 .len (.o2 .app (.v 7) (.cons (.o1 .agg (.cons (.str [76, 101, 102, 116]) (.cons (.int 0) (.cons (.bool false) (.cons (.bool false) (.cons (.bool false) .nil)))))) .nil))) (.int 1099511627776)) (.back 1 [(.o2 (.add .i64) (.v 6) (.int 1)), (.o2 .app (.v 7) (.cons (.o1 .agg (.cons (.str [76, 101, 102, 116]) (.cons (.int 0) (.cons (.bool false) (.cons (.bool false) (.cons (.bool false) .nil)))))) .nil))]))
                    (.loop [(.o2 (.sub .i64) (.v 1) (.o1 (.proj 3) (.v 0))), (.v 7)]
                      (.br (.o2 .lti (.int 0) (.v 8))
                        (.req (.o2 .lei (.o1 .len (.o2 .app (.v 9) (.cons (.o1 .agg (.cons (.str [68, 111, 119, 110]) (.cons (.int 0) (.cons (.bool false) (.cons (.bool false) (.cons (.bool false) .nil)))))) .nil))) (.int 1099511627776)) (.back 2 [(.o2 (.sub .i64) (.v 8) (.int 1)), (.o2 .app (.v 9) (.cons (.o1 .agg (.cons (.str [68, 111, 119, 110]) (.cons (.int 0) (.cons (.bool false) (.cons (.bool false) (.cons (.bool false) .nil)))))) .nil))]))
                        (.loop [(.v 8), (.v 9)]
                          (.br (.o2 .lti (.v 10) (.int 0))
                            (.req (.o2 .lei (.o1 .len (.o2 .app (.v 11) (.cons (.o1 .agg (.cons (.str [85, 112]) (.cons (.int 0) (.cons (.bool false) (.cons (.bool false) (.cons (.bool false) .nil)))))) .nil))) (.int 1099511627776)) (.back 3 [(.o2 (.add .i64) (.v 10) (.int 1)), (.o2 .app (.v 11) (.cons (.o1 .agg (.cons (.str [85, 112]) (.cons (.int 0) (.cons (.bool false) (.cons (.bool false) (.cons (.bool false) .nil)))))) .nil))]))
                            (.ret (.v 11))))))))))))))))
set_option maxRecDepth 100000 in
theorem qe9 : za4 cx_display_Keys 4 sg_display_Keys Tryz.f9 (Tryz.f9.body.getD .skip) = tr_display_Keys := by kernel_rfl
theorem qfs {Γ : CEnv} (hg : ∀ n, Γ.glob n = globT n) (hs : ∀ s ∈ cx_display_Keys.sigs, Contract Tryz.prog Γ gtabU s (Γ.pre s.no) (Γ.post s.no)) : CxOk cx_display_Keys Γ := ⟨by kernel_rfl, hs, (fun x hx => by
  simp only [cx_display_Keys, List.mem_cons, List.not_mem_nil, or_false] at hx
  rcases hx with rfl
  · exact ⟨Tryz.func33, by kernel_rfl⟩), (fun x hx => by cases hx)⟩
theorem contract_display_Keys {Γ : CEnv} (hg : ∀ n, Γ.glob n = globT n) (hs : ∀ s ∈ cx_display_Keys.sigs, Contract Tryz.prog Γ gtabU s (Γ.pre s.no) (Γ.post s.no)) (k : Nat) {pre : List TV → Prop} {post : List TV → TV → Prop} (h : ∀ ts, ts.length = 3 → pre ts → tr_display_Keys.den Γ (post ts) ts []) : Contract Tryz.prog Γ gtabU (qcm k) pre post :=
  Contract.renum (zas (qfs hg hs) 4 sg_display_Keys Tryz.func9 (by kernel_rfl) (by kernel_rfl) fun ts hl hp => by rw [qe9]; exact h ts hl hp) k
def sg_display_Follow : Sig := ⟨7, 0, [(true, [(.int .i64), (.int .i64), (.int .i64), .bool]), (true, [(.int .i64), (.int .i64), (.slice false [(.slice true [.str, .bool, (.int .i64)])]), (.int .i64), (.int .i64), .bool]), (true, [(.int .i64), .bool, .bool, (.int .i64), .bool, (.int .i64)])], [(true, [((.int .i64), none), ((.int .i64), none), ((.int .i64), none), (.bool, none)])]⟩
def qb5 (k : Nat) : Sig := ⟨sg_display_Follow.f, k, sg_display_Follow.args, sg_display_Follow.res⟩
def qfa : List (FuncId × Nat × Head) := []
def qe5 : List (FuncId × Nat × Nat × Plan) := [(7, 6, 10, (.op true 0 (.op true 1 (.op true 3 (.op true 4 (.op true 6 (.op true 7 (.op false 2 (.op false 5 (.op false 8 (.op true 9 .nil)))))))))))]
noncomputable def cx_display_Follow : Cx := ⟨Tryz.prog, gtabU, [qc9 0, qb4 1, qce 2], [], qfa, qe5, []⟩
def tr_display_Follow : Tree := (.call 1 [(.o1 .agg (.cons (.o1 (.proj 0) (.v 0)) (.cons (.o1 (.proj 1) (.v 0)) (.cons (.o1 (.proj 2) (.v 0)) (.cons (.o1 (.proj 3) (.v 0)) .nil))))), (.o1 .agg (.cons (.o1 (.proj 0) (.v 1)) (.cons (.o1 (.proj 1) (.v 1)) (.cons (.o1 (.proj 2) (.v 1)) (.cons (.o1 (.proj 3) (.v 1)) (.cons (.o1 (.proj 4) (.v 1)) (.cons (.o1 (.proj 5) (.v 1)) .nil)))))))]
  (.br (.o1 .no (.v 3))
    (.ret (.o1 .agg (.cons (.o1 (.proj 0) (.v 0)) (.cons (.o1 (.proj 1) (.v 0)) (.cons (.o1 (.proj 2) (.v 0)) (.cons (.o1 (.proj 3) (.v 0)) .nil))))))
    (.br (.o1 .no (.o1 (.proj 3) (.v 0)))
      (.call 0 [(.o1 .agg (.cons (.o1 (.proj 0) (.v 0)) (.cons (.o1 (.proj 1) (.v 0)) (.cons (.o1 (.proj 2) (.v 0)) (.cons (.o1 (.proj 3) (.v 0)) .nil))))), (.o1 .agg (.cons (.o1 (.proj 0) (.v 1)) (.cons (.o1 (.proj 1) (.v 1)) (.cons (.o1 (.proj 2) (.v 1)) (.cons (.o1 (.proj 3) (.v 1)) (.cons (.o1 (.proj 4) (.v 1)) (.cons (.o1 (.proj 5) (.v 1)) .nil))))))), (.o1 .agg (.cons (.o1 (.proj 0) (.v 2)) (.cons (.o1 (.proj 1) (.v 2)) (.cons (.o1 (.proj 2) (.v 2)) (.cons (.o1 (.proj 3) (.v 2)) (.cons (.o1 (.proj 4) (.v 2)) (.cons (.o1 (.proj 5) (.v 2)) .nil))))))), (.int 0)]
        (.ret (.o1 .agg (.cons (.o1 (.proj 0) (.v 4)) (.cons (.o1 (.proj 1) (.v 4)) (.cons (.o1 (.proj 2) (.v 4)) (.cons (.o1 (.proj 3) (.v 4)) .nil)))))))
      (.call 2 [(.o1 .agg (.cons (.o1 (.proj 0) (.v 1)) (.cons (.o1 (.proj 1) (.v 1)) (.cons (.o1 (.proj 2) (.v 1)) (.cons (.o1 (.proj 3) (.v 1)) (.cons (.o1 (.proj 4) (.v 1)) (.cons (.o1 (.proj 5) (.v 1)) .nil))))))), (.o1 .agg (.cons (.o1 (.proj 0) (.v 2)) (.cons (.o1 (.proj 1) (.v 2)) (.cons (.o1 (.proj 2) (.v 2)) (.cons (.o1 (.proj 3) (.v 2)) (.cons (.o1 (.proj 4) (.v 2)) (.cons (.o1 (.proj 5) (.v 2)) .nil)))))))]
        (.req (.o1 .no (.o2 .eqi (.o1 (.proj 0) (.v 0)) (.int 0))) (.ret (.o1 .agg (.cons (.o1 (.proj 0) (.v 0)) (.cons (.o1 (.proj 3) (.v 1)) (.cons (.o2 (.mul .i64) (.o2 (.quo .i64) (.v 4) (.o1 (.proj 0) (.v 0))) (.o1 (.proj 0) (.v 0))) (.cons (.o1 (.proj 3) (.v 0)) .nil)))))))))))
set_option maxRecDepth 100000 in
theorem qer : za4 cx_display_Follow 4 sg_display_Follow Tryz.f7 (Tryz.f7.body.getD .skip) = tr_display_Follow := by kernel_rfl
theorem qei {Γ : CEnv} (hg : ∀ n, Γ.glob n = globT n) (hs : ∀ s ∈ cx_display_Follow.sigs, Contract Tryz.prog Γ gtabU s (Γ.pre s.no) (Γ.post s.no)) : CxOk cx_display_Follow Γ := ⟨by kernel_rfl, hs, (fun x hx => by cases hx), (fun x hx => by cases hx)⟩
theorem contract_display_Follow {Γ : CEnv} (hg : ∀ n, Γ.glob n = globT n) (hs : ∀ s ∈ cx_display_Follow.sigs, Contract Tryz.prog Γ gtabU s (Γ.pre s.no) (Γ.post s.no)) (k : Nat) {pre : List TV → Prop} {post : List TV → TV → Prop} (h : ∀ ts, ts.length = 3 → pre ts → tr_display_Follow.den Γ (post ts) ts []) : Contract Tryz.prog Γ gtabU (qb5 k) pre post :=
  Contract.renum (zas (qei hg hs) 4 sg_display_Follow Tryz.func7 (by kernel_rfl) (by kernel_rfl) fun ts hl hp => by rw [qer]; exact h ts hl hp) k
def sg_cursor_Check : Sig := ⟨68, 0, [(true, [(.int .i64), (.int .i64), (.int .i64), (.int .i64), .bool])], [(false, [((.int .i64), none)])]⟩
def qcn (k : Nat) : Sig := ⟨sg_cursor_Check.f, k, sg_cursor_Check.args, sg_cursor_Check.res⟩
def qg6 : List (FuncId × Nat × Head) := []
def qgy : List (FuncId × Nat × Nat × Plan) := []
noncomputable def cx_cursor_Check : Cx := ⟨Tryz.prog, gtabU, [], [], qg6, qgy, []⟩
def tr_cursor_Check : Tree := (.br (.o2 .lti (.o1 (.proj 0) (.v 0)) (.int 1))
  (.ret (.int 2))
  (.br (.o2 .lti (.int 132) (.o1 (.proj 0) (.v 0)))
    (.ret (.int 2))
    (.br (.o2 .lti (.o1 (.proj 1) (.v 0)) (.int 1))
      (.ret (.int 2))
      (.br (.o2 .lti (.int 60) (.o1 (.proj 1) (.v 0)))
        (.ret (.int 2))
        (.br (.o2 .lti (.o1 (.proj 2) (.v 0)) (.int 0))
          (.ret (.int 2))
          (.br (.o2 .lei (.o1 (.proj 3) (.v 0)) (.o1 (.proj 2) (.v 0)))
            (.ret (.int 2))
            (.br (.o2 .lti (.o1 (.proj 1) (.v 0)) (.o1 (.proj 3) (.v 0)))
              (.ret (.int 2))
              (.ret (.int 0)))))))))
set_option maxRecDepth 100000 in
theorem qfn : za4 cx_cursor_Check 4 sg_cursor_Check Tryz.f68 (Tryz.f68.body.getD .skip) = tr_cursor_Check := by kernel_rfl
theorem qfc {Γ : CEnv} (hg : ∀ n, Γ.glob n = globT n) (hs : ∀ s ∈ cx_cursor_Check.sigs, Contract Tryz.prog Γ gtabU s (Γ.pre s.no) (Γ.post s.no)) : CxOk cx_cursor_Check Γ := ⟨by kernel_rfl, hs, (fun x hx => by cases hx), (fun x hx => by cases hx)⟩
theorem contract_cursor_Check {Γ : CEnv} (hg : ∀ n, Γ.glob n = globT n) (hs : ∀ s ∈ cx_cursor_Check.sigs, Contract Tryz.prog Γ gtabU s (Γ.pre s.no) (Γ.post s.no)) (k : Nat) {pre : List TV → Prop} {post : List TV → TV → Prop} (h : ∀ ts, ts.length = 1 → pre ts → tr_cursor_Check.den Γ (post ts) ts []) : Contract Tryz.prog Γ gtabU (qcn k) pre post :=
  Contract.renum (zas (qfc hg hs) 4 sg_cursor_Check Tryz.func68 (by kernel_rfl) (by kernel_rfl) fun ts hl hp => by rw [qfn]; exact h ts hl hp) k
def sg_cursor_limit : Sig := ⟨70, 0, [(false, [(.int .i64)]), (false, [(.int .i64)]), (false, [(.int .i64)])], [(false, [((.int .i64), none)])]⟩
def qcb (k : Nat) : Sig := ⟨sg_cursor_limit.f, k, sg_cursor_limit.args, sg_cursor_limit.res⟩
def qht : List (FuncId × Nat × Head) := []
def qgu : List (FuncId × Nat × Nat × Plan) := []
noncomputable def cx_cursor_limit : Cx := ⟨Tryz.prog, gtabU, [], [], qht, qgu, []⟩
def tr_cursor_limit : Tree := (.ret (.o2 .max (.v 1) (.o2 .min (.v 0) (.v 2))))
set_option maxRecDepth 100000 in
theorem qfj : za4 cx_cursor_limit 4 sg_cursor_limit Tryz.f70 (Tryz.f70.body.getD .skip) = tr_cursor_limit := by kernel_rfl
theorem qff {Γ : CEnv} (hg : ∀ n, Γ.glob n = globT n) (hs : ∀ s ∈ cx_cursor_limit.sigs, Contract Tryz.prog Γ gtabU s (Γ.pre s.no) (Γ.post s.no)) : CxOk cx_cursor_limit Γ := ⟨by kernel_rfl, hs, (fun x hx => by cases hx), (fun x hx => by cases hx)⟩
theorem contract_cursor_limit {Γ : CEnv} (hg : ∀ n, Γ.glob n = globT n) (hs : ∀ s ∈ cx_cursor_limit.sigs, Contract Tryz.prog Γ gtabU s (Γ.pre s.no) (Γ.post s.no)) (k : Nat) {pre : List TV → Prop} {post : List TV → TV → Prop} (h : ∀ ts, ts.length = 3 → pre ts → tr_cursor_limit.den Γ (post ts) ts []) : Contract Tryz.prog Γ gtabU (qcb k) pre post :=
  Contract.renum (zas (qff hg hs) 4 sg_cursor_limit Tryz.func70 (by kernel_rfl) (by kernel_rfl) fun ts hl hp => by rw [qfj]; exact h ts hl hp) k
def sg_cursor_inside : Sig := ⟨69, 0, [(true, [(.int .i64), (.int .i64), .bool]), (true, [(.int .i64), (.int .i64), (.int .i64), (.int .i64), .bool])], [(true, [((.int .i64), none), ((.int .i64), none), (.bool, none)])]⟩
def qch (k : Nat) : Sig := ⟨sg_cursor_inside.f, k, sg_cursor_inside.args, sg_cursor_inside.res⟩
def qf3 : List (FuncId × Nat × Head) := []
def qgg : List (FuncId × Nat × Nat × Plan) := [(69, 1, 15, (.op true 0 (.op true 1 (.op true 2 (.op true 3 (.op true 4 (.op true 6 (.op true 7 (.op true 8 (.op true 9 (.op true 10 (.op true 12 (.op true 13 (.op false 5 (.op false 11 (.op false 14 .nil))))))))))))))))]
noncomputable def cx_cursor_inside : Cx := ⟨Tryz.prog, gtabU, [qcb 0], [], qf3, qgg, []⟩
def tr_cursor_inside : Tree := (.call 0 [(.o1 (.proj 0) (.v 0)), (.int 0), (.o2 (.sub .i64) (.o1 (.proj 1) (.v 1)) (.int 1))]
  (.call 0 [(.o1 (.proj 1) (.v 0)), (.int 0), (.o2 (.sub .i64) (.o1 (.proj 0) (.v 1)) (.int 1))]
    (.ret (.o1 .agg (.cons (.v 2) (.cons (.v 3) (.cons (.o1 (.proj 2) (.v 0)) .nil)))))))
set_option maxRecDepth 100000 in
theorem qe4 : za4 cx_cursor_inside 4 sg_cursor_inside Tryz.f69 (Tryz.f69.body.getD .skip) = tr_cursor_inside := by kernel_rfl
theorem qey {Γ : CEnv} (hg : ∀ n, Γ.glob n = globT n) (hs : ∀ s ∈ cx_cursor_inside.sigs, Contract Tryz.prog Γ gtabU s (Γ.pre s.no) (Γ.post s.no)) : CxOk cx_cursor_inside Γ := ⟨by kernel_rfl, hs, (fun x hx => by cases hx), (fun x hx => by cases hx)⟩
theorem contract_cursor_inside {Γ : CEnv} (hg : ∀ n, Γ.glob n = globT n) (hs : ∀ s ∈ cx_cursor_inside.sigs, Contract Tryz.prog Γ gtabU s (Γ.pre s.no) (Γ.post s.no)) (k : Nat) {pre : List TV → Prop} {post : List TV → TV → Prop} (h : ∀ ts, ts.length = 2 → pre ts → tr_cursor_inside.den Γ (post ts) ts []) : Contract Tryz.prog Γ gtabU (qch k) pre post :=
  Contract.renum (zas (qey hg hs) 4 sg_cursor_inside Tryz.func69 (by kernel_rfl) (by kernel_rfl) fun ts hl hp => by rw [qe4]; exact h ts hl hp) k
def sg_cursor_region : Sig := ⟨37, 0, [(false, [(.int .i64)]), (true, [(.int .i64), (.int .i64), (.int .i64), (.int .i64), .bool])], [(false, [(.bool, none)])]⟩
def qc8 (k : Nat) : Sig := ⟨sg_cursor_region.f, k, sg_cursor_region.args, sg_cursor_region.res⟩
def qgj : List (FuncId × Nat × Head) := []
def qgl : List (FuncId × Nat × Nat × Plan) := []
noncomputable def cx_cursor_region : Cx := ⟨Tryz.prog, gtabU, [], [], qgj, qgl, []⟩
def tr_cursor_region : Tree := (.br (.o2 .lei (.o1 (.proj 2) (.v 1)) (.v 0))
  (.ret (.o2 .lti (.v 0) (.o1 (.proj 3) (.v 1))))
  (.ret (.bool false)))
set_option maxRecDepth 100000 in
theorem qeu : za4 cx_cursor_region 4 sg_cursor_region Tryz.f37 (Tryz.f37.body.getD .skip) = tr_cursor_region := by kernel_rfl
theorem qe1 {Γ : CEnv} (hg : ∀ n, Γ.glob n = globT n) (hs : ∀ s ∈ cx_cursor_region.sigs, Contract Tryz.prog Γ gtabU s (Γ.pre s.no) (Γ.post s.no)) : CxOk cx_cursor_region Γ := ⟨by kernel_rfl, hs, (fun x hx => by cases hx), (fun x hx => by cases hx)⟩
theorem contract_cursor_region {Γ : CEnv} (hg : ∀ n, Γ.glob n = globT n) (hs : ∀ s ∈ cx_cursor_region.sigs, Contract Tryz.prog Γ gtabU s (Γ.pre s.no) (Γ.post s.no)) (k : Nat) {pre : List TV → Prop} {post : List TV → TV → Prop} (h : ∀ ts, ts.length = 2 → pre ts → tr_cursor_region.den Γ (post ts) ts []) : Contract Tryz.prog Γ gtabU (qc8 k) pre post :=
  Contract.renum (zas (qe1 hg hs) 4 sg_cursor_region Tryz.func37 (by kernel_rfl) (by kernel_rfl) fun ts hl hp => by rw [qeu]; exact h ts hl hp) k
def sg_cursor_Right : Sig := ⟨10, 0, [(true, [(.int .i64), (.int .i64), .bool]), (false, [(.int .i64)]), (true, [(.int .i64), (.int .i64), (.int .i64), (.int .i64), .bool])], [(true, [((.int .i64), none), ((.int .i64), none), (.bool, none)])]⟩
def qdj (k : Nat) : Sig := ⟨sg_cursor_Right.f, k, sg_cursor_Right.args, sg_cursor_Right.res⟩
def qgw : List (FuncId × Nat × Head) := []
def qhl : List (FuncId × Nat × Nat × Plan) := [(35, 0, 16, (.op true 0 (.op true 1 (.op true 2 (.op true 3 (.op true 4 (.op true 5 (.op true 6 (.op true 7 (.op true 10 (.op true 11 (.op true 12 (.op false 8 (.op false 9 (.op false 13 (.op true 14 (.op true 15 .nil)))))))))))))))))]
noncomputable def cx_cursor_Right : Cx := ⟨Tryz.prog, gtabU, [qcn 0, qcb 1, qch 2], [(34, Tryz.f34), (35, Tryz.f35)], qgw, qhl, []⟩
def tr_cursor_Right : Tree := (.call 0 [(.o1 .agg (.cons (.o1 (.proj 0) (.v 2)) (.cons (.o1 (.proj 1) (.v 2)) (.cons (.o1 (.proj 2) (.v 2)) (.cons (.o1 (.proj 3) (.v 2)) (.cons (.o1 (.proj 4) (.v 2)) .nil))))))]
  (.br (.o1 .no (.o2 .eqi (.v 3) (.int 0)))
    (.ret (.o1 .agg (.cons (.int 0) (.cons (.int 0) (.cons (.bool false) .nil)))))
    (.call 2 [(.o1 .agg (.cons (.o1 (.proj 0) (.v 0)) (.cons (.o1 (.proj 1) (.v 0)) (.cons (.o1 (.proj 2) (.v 0)) .nil)))), (.o1 .agg (.cons (.o1 (.proj 0) (.v 2)) (.cons (.o1 (.proj 1) (.v 2)) (.cons (.o1 (.proj 2) (.v 2)) (.cons (.o1 (.proj 3) (.v 2)) (.cons (.o1 (.proj 4) (.v 2)) .nil))))))]
      (.call 1 [(.v 1), (.int (-1000)), (.int 1000)]
        (.call 1 [(.o2 (.add .i64) (.o1 (.proj 1) (.v 4)) (.v 5)), (.int 0), (.o2 (.sub .i64) (.o1 (.proj 0) (.v 2)) (.int 1))]
          (.ret (.o1 .agg (.cons (.o1 (.proj 0) (.v 4)) (.cons (.v 6) (.cons (.bool false) .nil))))))))))
set_option maxRecDepth 100000 in
theorem qfo : za4 cx_cursor_Right 4 sg_cursor_Right Tryz.f10 (Tryz.f10.body.getD .skip) = tr_cursor_Right := by kernel_rfl
theorem qfk {Γ : CEnv} (hg : ∀ n, Γ.glob n = globT n) (hs : ∀ s ∈ cx_cursor_Right.sigs, Contract Tryz.prog Γ gtabU s (Γ.pre s.no) (Γ.post s.no)) : CxOk cx_cursor_Right Γ := ⟨by kernel_rfl, hs, (fun x hx => by
  simp only [cx_cursor_Right, List.mem_cons, List.not_mem_nil, or_false] at hx
  rcases hx with rfl | rfl
  · exact ⟨Tryz.func34, by kernel_rfl⟩
  · exact ⟨Tryz.func35, by kernel_rfl⟩), (fun x hx => by cases hx)⟩
theorem contract_cursor_Right {Γ : CEnv} (hg : ∀ n, Γ.glob n = globT n) (hs : ∀ s ∈ cx_cursor_Right.sigs, Contract Tryz.prog Γ gtabU s (Γ.pre s.no) (Γ.post s.no)) (k : Nat) {pre : List TV → Prop} {post : List TV → TV → Prop} (h : ∀ ts, ts.length = 3 → pre ts → tr_cursor_Right.den Γ (post ts) ts []) : Contract Tryz.prog Γ gtabU (qdj k) pre post :=
  Contract.renum (zas (qfk hg hs) 4 sg_cursor_Right Tryz.func10 (by kernel_rfl) (by kernel_rfl) fun ts hl hp => by rw [qfo]; exact h ts hl hp) k
def sg_cursor_Up : Sig := ⟨11, 0, [(true, [(.int .i64), (.int .i64), .bool]), (false, [(.int .i64)]), (true, [(.int .i64), (.int .i64), (.int .i64), (.int .i64), .bool])], [(true, [((.int .i64), none), ((.int .i64), none), (.bool, none)])]⟩
def qfy (k : Nat) : Sig := ⟨sg_cursor_Up.f, k, sg_cursor_Up.args, sg_cursor_Up.res⟩
def hd_cursor_Up : List (FuncId × Nat × Head) := []
def pl_cursor_Up : List (FuncId × Nat × Nat × Plan) := [(36, 0, 5, (.op true 0 (.op true 1 (.op true 2 (.op true 3 (.op true 4 .nil)))))), (36, 1, 6, (.op true 0 (.op true 1 (.op true 2 (.op true 3 (.op true 4 (.op false 5 .nil))))))), (36, 2, 7, (.op true 0 (.op true 1 (.op true 2 (.op true 3 (.op true 4 (.op true 5 (.op true 6 .nil)))))))), (36, 3, 15, (.op true 0 (.op true 1 (.op true 2 (.op true 3 (.op true 4 (.op true 5 (.op true 6 (.op true 7 (.op true 10 (.op true 11 (.op false 8 (.op false 9 (.op false 12 (.op true 13 (.op true 14 .nil))))))))))))))))]
noncomputable def cx_cursor_Up : Cx := ⟨Tryz.prog, gtabU, [qcn 0, qcb 1, qch 2, qc8 3], [(34, Tryz.f34), (36, Tryz.f36)], hd_cursor_Up, pl_cursor_Up, []⟩
def tr_cursor_Up : Tree := (.call 0 [(.o1 .agg (.cons (.o1 (.proj 0) (.v 2)) (.cons (.o1 (.proj 1) (.v 2)) (.cons (.o1 (.proj 2) (.v 2)) (.cons (.o1 (.proj 3) (.v 2)) (.cons (.o1 (.proj 4) (.v 2)) .nil))))))]
  (.br (.o1 .no (.o2 .eqi (.v 3) (.int 0)))
    (.ret (.o1 .agg (.cons (.int 0) (.cons (.int 0) (.cons (.bool false) .nil)))))
    (.call 2 [(.o1 .agg (.cons (.o1 (.proj 0) (.v 0)) (.cons (.o1 (.proj 1) (.v 0)) (.cons (.o1 (.proj 2) (.v 0)) .nil)))), (.o1 .agg (.cons (.o1 (.proj 0) (.v 2)) (.cons (.o1 (.proj 1) (.v 2)) (.cons (.o1 (.proj 2) (.v 2)) (.cons (.o1 (.proj 3) (.v 2)) (.cons (.o1 (.proj 4) (.v 2)) .nil))))))]
      (.call 3 [(.o1 (.proj 0) (.v 4)), (.o1 .agg (.cons (.o1 (.proj 0) (.v 2)) (.cons (.o1 (.proj 1) (.v 2)) (.cons (.o1 (.proj 2) (.v 2)) (.cons (.o1 (.proj 3) (.v 2)) (.cons (.o1 (.proj 4) (.v 2)) .nil))))))]
        (.br (.v 5)
          (.call 1 [(.v 1), (.int (-1000)), (.int 1000)]
            (.call 1 [(.o2 (.sub .i64) (.o1 (.proj 0) (.v 4)) (.v 6)), (.o1 (.proj 2) (.v 2)), (.o2 (.sub .i64) (.o1 (.proj 3) (.v 2)) (.int 1))]
              (.ret (.o1 .agg (.cons (.v 7) (.cons (.o1 (.proj 1) (.v 4)) (.cons (.bool false) .nil)))))))
          (.call 1 [(.v 1), (.int (-1000)), (.int 1000)]
            (.call 1 [(.o2 (.sub .i64) (.o1 (.proj 0) (.v 4)) (.v 6)), (.int 0), (.o2 (.sub .i64) (.o1 (.proj 1) (.v 2)) (.int 1))]
              (.ret (.o1 .agg (.cons (.v 7) (.cons (.o1 (.proj 1) (.v 4)) (.cons (.bool false) .nil))))))))))))
set_option maxRecDepth 100000 in
theorem tree_cursor_Up : za4 cx_cursor_Up 4 sg_cursor_Up Tryz.f11 (Tryz.f11.body.getD .skip) = tr_cursor_Up := by kernel_rfl
theorem cxok_cursor_Up {Γ : CEnv} (hg : ∀ n, Γ.glob n = globT n) (hs : ∀ s ∈ cx_cursor_Up.sigs, Contract Tryz.prog Γ gtabU s (Γ.pre s.no) (Γ.post s.no)) : CxOk cx_cursor_Up Γ := ⟨by kernel_rfl, hs, (fun x hx => by
  simp only [cx_cursor_Up, List.mem_cons, List.not_mem_nil, or_false] at hx
  rcases hx with rfl | rfl
  · exact ⟨Tryz.func34, by kernel_rfl⟩
  · exact ⟨Tryz.func36, by kernel_rfl⟩), (fun x hx => by cases hx)⟩
theorem contract_cursor_Up {Γ : CEnv} (hg : ∀ n, Γ.glob n = globT n) (hs : ∀ s ∈ cx_cursor_Up.sigs, Contract Tryz.prog Γ gtabU s (Γ.pre s.no) (Γ.post s.no)) (k : Nat) {pre : List TV → Prop} {post : List TV → TV → Prop} (h : ∀ ts, ts.length = 3 → pre ts → tr_cursor_Up.den Γ (post ts) ts []) : Contract Tryz.prog Γ gtabU (qfy k) pre post :=
  Contract.renum (zas (cxok_cursor_Up hg hs) 4 sg_cursor_Up Tryz.func11 (by kernel_rfl) (by kernel_rfl) fun ts hl hp => by rw [tree_cursor_Up]; exact h ts hl hp) k
def sg_view_Blank : Sig := ⟨26, 0, [(false, [(.int .i64)]), (false, [(.int .i64)])], [(true, [((.int .i64), none), ((.int .i64), none), ((.slice false [(.slice true [.str, .bool, (.int .i64)])]), some 56), ((.int .i64), none), ((.int .i64), none), (.bool, none)]), (false, [((.int .i64), none)])]⟩
def qkc (k : Nat) : Sig := ⟨sg_view_Blank.f, k, sg_view_Blank.args, sg_view_Blank.res⟩
def hd_view_Blank : List (FuncId × Nat × Head) := []
def pl_view_Blank : List (FuncId × Nat × Nat × Plan) := []
noncomputable def cx_view_Blank : Cx := ⟨Tryz.prog, gtabU, [qc1 0], [], hd_view_Blank, pl_view_Blank, []⟩
def tr_view_Blank : Tree := (.call 0 [(.v 0), (.v 1)]
  (.br (.o1 .no (.v 2))
    (.ret (.o1 .agg (.cons (.o1 .agg (.cons (.int 0) (.cons (.int 0) (.cons .nil (.cons (.int 0) (.cons (.int 0) (.cons (.bool false) .nil))))))) (.cons (.int 2) .nil))))
    (.req (.o2 .lei (.int 0) (.v 1)) (.req (.o2 .lei (.v 1) (.v 1)) (.req (.o2 .lei (.v 1) (.int 1099511627776)) (.ret (.o1 .agg (.cons (.o1 .agg (.cons (.v 0) (.cons (.v 1) (.cons (.o2 .repl (.v 1) .nil) (.cons (.int 0) (.cons (.int 0) (.cons (.bool true) .nil))))))) (.cons (.int 0) .nil)))))))))
set_option maxRecDepth 100000 in
theorem ql3 : za4 cx_view_Blank 4 sg_view_Blank Tryz.f26 (Tryz.f26.body.getD .skip) = tr_view_Blank := by kernel_rfl
theorem ql1 {Γ : CEnv} (hg : ∀ n, Γ.glob n = globT n) (hs : ∀ s ∈ cx_view_Blank.sigs, Contract Tryz.prog Γ gtabU s (Γ.pre s.no) (Γ.post s.no)) : CxOk cx_view_Blank Γ := ⟨by kernel_rfl, hs, (fun x hx => by cases hx), (fun x hx => by cases hx)⟩
theorem qk6 {Γ : CEnv} (hg : ∀ n, Γ.glob n = globT n) (hs : ∀ s ∈ cx_view_Blank.sigs, Contract Tryz.prog Γ gtabU s (Γ.pre s.no) (Γ.post s.no)) (k : Nat) {pre : List TV → Prop} {post : List TV → TV → Prop} (h : ∀ ts, ts.length = 2 → pre ts → tr_view_Blank.den Γ (post ts) ts []) : Contract Tryz.prog Γ gtabU (qkc k) pre post :=
  Contract.renum (zas (ql1 hg hs) 4 sg_view_Blank Tryz.func26 (by kernel_rfl) (by kernel_rfl) fun ts hl hp => by rw [ql3]; exact h ts hl hp) k
def sg_narratortop_top42Small : Sig := ⟨5, 0, [(true, [(.int .i64), (.int .i64), (.slice false [(.slice true [.str, .bool, (.int .i64)])]), (.int .i64), (.int .i64), .bool])], [(false, [(.bool, none)])]⟩
def qii (k : Nat) : Sig := ⟨sg_narratortop_top42Small.f, k, sg_narratortop_top42Small.args, sg_narratortop_top42Small.res⟩
def qj3 : List (FuncId × Nat × Head) := []
def qj1 : List (FuncId × Nat × Nat × Plan) := []
noncomputable def cx_narratortop_top42Small : Cx := ⟨Tryz.prog, gtabU, [qb1 0, qb7 1], [], qj3, qj1, []⟩
def tr_narratortop_top42Small : Tree := (.call 0 [(.o1 .agg (.cons (.o1 (.proj 0) (.v 0)) (.cons (.o1 (.proj 1) (.v 0)) (.cons (.o1 (.proj 2) (.v 0)) (.cons (.o1 (.proj 3) (.v 0)) (.cons (.o1 (.proj 4) (.v 0)) (.cons (.o1 (.proj 5) (.v 0)) .nil)))))))]
  (.br (.o1 .no (.v 1))
    (.br (.o2 .lei (.o1 .len (.o1 (.proj 2) (.v 0))) (.int 8))
      (.br (.o2 .lei (.o1 (.proj 0) (.v 0)) (.int 20))
        (.call 1 [(.o1 .agg (.cons (.o1 (.proj 0) (.v 0)) (.cons (.o1 (.proj 1) (.v 0)) (.cons (.o1 (.proj 2) (.v 0)) (.cons (.o1 (.proj 3) (.v 0)) (.cons (.o1 (.proj 4) (.v 0)) (.cons (.o1 (.proj 5) (.v 0)) .nil)))))))]
          (.ret (.o2 .eqi (.v 2) (.int 0))))
        (.ret (.bool false)))
      (.ret (.bool false)))
    (.ret (.bool false))))
set_option maxRecDepth 100000 in
theorem qjs : za4 cx_narratortop_top42Small 4 sg_narratortop_top42Small Tryz.f5 (Tryz.f5.body.getD .skip) = tr_narratortop_top42Small := by kernel_rfl
theorem qjl {Γ : CEnv} (hg : ∀ n, Γ.glob n = globT n) (hs : ∀ s ∈ cx_narratortop_top42Small.sigs, Contract Tryz.prog Γ gtabU s (Γ.pre s.no) (Γ.post s.no)) : CxOk cx_narratortop_top42Small Γ := ⟨by kernel_rfl, hs, (fun x hx => by cases hx), (fun x hx => by cases hx)⟩
theorem qjc {Γ : CEnv} (hg : ∀ n, Γ.glob n = globT n) (hs : ∀ s ∈ cx_narratortop_top42Small.sigs, Contract Tryz.prog Γ gtabU s (Γ.pre s.no) (Γ.post s.no)) (k : Nat) {pre : List TV → Prop} {post : List TV → TV → Prop} (h : ∀ ts, ts.length = 1 → pre ts → tr_narratortop_top42Small.den Γ (post ts) ts []) : Contract Tryz.prog Γ gtabU (qii k) pre post :=
  Contract.renum (zas (qjl hg hs) 4 sg_narratortop_top42Small Tryz.func5 (by kernel_rfl) (by kernel_rfl) fun ts hl hp => by rw [qjs]; exact h ts hl hp) k
def sg_narratortop_top54Felt : Sig := ⟨6, 0, [], [(false, [(.bool, none)])]⟩
def qik (k : Nat) : Sig := ⟨sg_narratortop_top54Felt.f, k, sg_narratortop_top54Felt.args, sg_narratortop_top54Felt.res⟩
def qj8 : List (FuncId × Nat × Head) := []
def qj6 : List (FuncId × Nat × Nat × Plan) := [(6, 7, 21, (.op true 0 (.op true 1 (.op true 2 (.op true 3 (.op true 4 (.op true 5 (.op true 6 (.op true 7 (.op true 8 (.op true 9 (.op true 10 (.op true 11 (.op true 12 (.op true 13 (.op true 14 (.op true 15 (.op true 16 (.op true 17 (.op true 18 (.op true 19 (.op true 20 .nil))))))))))))))))))))))]
noncomputable def cx_narratortop_top54Felt : Cx := ⟨Tryz.prog, gtabU, [qca 0, qcs 1, qkc 2], [], qj8, qj6, []⟩
def tr_narratortop_top54Felt : Tree := (.call 2 [(.int 5), (.int 1)]
  (.br (.o1 .no (.o2 .eqi (.o1 (.proj 1) (.v 0)) (.int 0)))
    (.ret (.bool false))
    (.br (.o1 .no (.o2 .eqi (.o1 .len (.o1 (.proj 2) (.o1 (.proj 0) (.v 0)))) (.int 1)))
      (.ret (.bool false))
      (.call 1 [(.int 2)]
        (.call 0 [(.o1 .agg (.cons (.o1 (.proj 0) (.o1 (.proj 0) (.v 1))) (.cons (.o1 (.proj 1) (.o1 (.proj 0) (.v 1))) (.cons (.o1 (.proj 2) (.o1 (.proj 0) (.v 1))) (.cons (.o1 (.proj 3) (.o1 (.proj 0) (.v 1))) .nil))))), (.o1 .agg (.cons (.o1 (.proj 0) (.o1 (.proj 0) (.v 0))) (.cons (.o1 (.proj 1) (.o1 (.proj 0) (.v 0))) (.cons (.cons (.cons (.o1 .agg (.cons (.str [97]) (.cons (.bool false) (.cons (.int 0) .nil)))) (.cons (.o1 .agg (.cons (.str [98]) (.cons (.bool false) (.cons (.int 0) .nil)))) (.cons (.o1 .agg (.cons (.str [99]) (.cons (.bool false) (.cons (.int 0) .nil)))) .nil))) .nil) (.cons (.o1 (.proj 3) (.o1 (.proj 0) (.v 0))) (.cons (.o1 (.proj 4) (.o1 (.proj 0) (.v 0))) (.cons (.o1 (.proj 5) (.o1 (.proj 0) (.v 0))) .nil))))))), (.o1 .agg (.cons (.int 0) (.cons (.bool false) (.cons (.bool false) (.cons (.int 0) (.cons (.bool false) (.cons (.int 0) .nil)))))))]
          (.br (.o2 .eqi (.o1 (.proj 1) (.v 1)) (.int 0))
            (.br (.o2 .eqi (.o1 .len (.o1 (.proj 0) (.v 2))) (.int 2))
              (.br (.o2 .eqi (.o1 (.proj 1) (.v 2)) (.int 0))
                (.req (.o2 .lti (.int 0) (.o1 .len (.o1 (.proj 0) (.v 2)))) (.req (.o2 .lti (.int 1) (.o1 .len (.o1 (.proj 0) (.v 2)))) (.ret (.o1 .no (.o2 .eqi (.o2 .idx (.o1 (.proj 0) (.v 2)) (.int 0)) (.o2 .idx (.o1 (.proj 0) (.v 2)) (.int 1)))))))
                (.ret (.bool false)))
              (.ret (.bool false)))
            (.ret (.bool false))))))))
set_option maxRecDepth 100000 in
theorem qjv : za4 cx_narratortop_top54Felt 4 sg_narratortop_top54Felt Tryz.f6 (Tryz.f6.body.getD .skip) = tr_narratortop_top54Felt := by kernel_rfl
theorem qjt {Γ : CEnv} (hg : ∀ n, Γ.glob n = globT n) (hs : ∀ s ∈ cx_narratortop_top54Felt.sigs, Contract Tryz.prog Γ gtabU s (Γ.pre s.no) (Γ.post s.no)) : CxOk cx_narratortop_top54Felt Γ := ⟨by kernel_rfl, hs, (fun x hx => by cases hx), (fun x hx => by cases hx)⟩
theorem qjg {Γ : CEnv} (hg : ∀ n, Γ.glob n = globT n) (hs : ∀ s ∈ cx_narratortop_top54Felt.sigs, Contract Tryz.prog Γ gtabU s (Γ.pre s.no) (Γ.post s.no)) (k : Nat) {pre : List TV → Prop} {post : List TV → TV → Prop} (h : ∀ ts, ts.length = 0 → pre ts → tr_narratortop_top54Felt.den Γ (post ts) ts []) : Contract Tryz.prog Γ gtabU (qik k) pre post :=
  Contract.renum (zas (qjt hg hs) 4 sg_narratortop_top54Felt Tryz.func6 (by kernel_rfl) (by kernel_rfl) fun ts hl hp => by rw [qjv]; exact h ts hl hp) k
end Go.Proofs.YtlhagkbhojmjpaaGreatDoor


/- Written by a program of ours (Gen): the trees of the symbolic runs of functions, and their contracts' frames. -/
import Derived.Test.YtnbbepgmnbmfdaaDoorK1
namespace Go.Proofs.YtnbbepgmnbmfdaaDoor
set_option linter.unusedVariables false
set_option linter.unusedSimpArgs false

/-! narrator/narratorlaw03.ClusterSplit -/
def sg_law03_ClusterSplit : Sig := ⟨3, 0, [(false, [(.slice false [(.int .i32)])])], [(false, [(.bool, none)])]⟩
def sn_law03_ClusterSplit (k : Nat) : Sig := ⟨sg_law03_ClusterSplit.f, k, sg_law03_ClusterSplit.args, sg_law03_ClusterSplit.res⟩
def hd_law03_ClusterSplit : List (FuncId × Nat × Head) := []
def pl_law03_ClusterSplit : List (FuncId × Nat × Nat × Plan) := []
noncomputable def cx_law03_ClusterSplit : Cx := ⟨Tryd.prog, gtab, [sn_cluster_Split 0, sn_ref03_Split 1, sn_ref03_Same 2, sn_law03_awake 3], [], hd_law03_ClusterSplit, pl_law03_ClusterSplit⟩
def tr_law03_ClusterSplit : Tree := (.br (.o2 .lti (.int 100) (.o1 .len (.v 0)))
  (.call 3 []
    (.ret (.v 1)))
  (.call 0 [(.v 0)]
    (.call 1 [(.v 0)]
      (.call 2 [(.v 1), (.v 2)]
        (.br (.v 3)
          (.call 3 []
            (.ret (.v 4)))
          (.ret (.bool false)))))))
set_option maxRecDepth 100000 in
theorem tree_law03_ClusterSplit : fnTree cx_law03_ClusterSplit 4 sg_law03_ClusterSplit Tryd.f3 (Tryd.f3.body.getD .skip) = tr_law03_ClusterSplit := by kernel_rfl
theorem cxok_law03_ClusterSplit {Γ : CEnv} (hg : ∀ n, Γ.glob n = globT n) (hs : ∀ s ∈ cx_law03_ClusterSplit.sigs, Contract Tryd.prog Γ gtab s (Γ.pre s.no) (Γ.post s.no)) : CxOk cx_law03_ClusterSplit Γ := ⟨by kernel_rfl, hs, fun x hx => by cases hx⟩
theorem contract_law03_ClusterSplit {Γ : CEnv} (hg : ∀ n, Γ.glob n = globT n) (hs : ∀ s ∈ cx_law03_ClusterSplit.sigs, Contract Tryd.prog Γ gtab s (Γ.pre s.no) (Γ.post s.no)) (k : Nat) {pre : List TV → Prop} {post : List TV → TV → Prop} (h : ∀ ts, ts.length = 1 → pre ts → tr_law03_ClusterSplit.den Γ (post ts) ts []) : Contract Tryd.prog Γ gtab (sn_law03_ClusterSplit k) pre post :=
  Contract.renum (contract_of (cxok_law03_ClusterSplit hg hs) 4 sg_law03_ClusterSplit Tryd.func3 (by kernel_rfl) (by kernel_rfl) fun ts hl hp => by rw [tree_law03_ClusterSplit]; exact h ts hl hp) k

/-! narrator/narratorlaw03.ClusterParts -/
def sg_law03_ClusterParts : Sig := ⟨7, 0, [(false, [.str])], [(false, [(.bool, none)])]⟩
def sn_law03_ClusterParts (k : Nat) : Sig := ⟨sg_law03_ClusterParts.f, k, sg_law03_ClusterParts.args, sg_law03_ClusterParts.res⟩
def hd_law03_ClusterParts : List (FuncId × Nat × Head) := []
def pl_law03_ClusterParts : List (FuncId × Nat × Nat × Plan) := [(7, 8, 17, (.op true 0 (.op true 2 (.op true 3 (.op true 4 (.op false 1 (.op false 5 (.op false 6 (.op true 7 (.op true 9 (.op true 10 (.op false 8 (.op false 11 (.op false 12 (.op false 13 (.op false 14 (.op false 15 (.op false 16 .nil))))))))))))))))))]
noncomputable def cx_law03_ClusterParts : Cx := ⟨Tryd.prog, gtab, [sn_ref01_Same 0, sn_cluster_Check 1, sn_cluster_Marks 2, sn_cluster_Base 3, sn_cluster_Width 4, sn_ref03_Characters 5, sn_ref03_Check 6, sn_ref03_Width 7, sn_law03_awake 8], [], hd_law03_ClusterParts, pl_law03_ClusterParts⟩
def tr_law03_ClusterParts : Tree := (.br (.o2 .lti (.int 200) (.o1 .slen (.v 0)))
  (.call 8 []
    (.ret (.v 1)))
  (.call 1 [(.v 0)]
    (.call 6 [(.v 0)]
      (.br (.o1 .no (.o2 .eqi (.v 1) (.v 2)))
        (.ret (.bool false))
        (.call 4 [(.v 0)]
          (.call 7 [(.v 0)]
            (.br (.o1 .no (.o2 .eqi (.v 3) (.v 4)))
              (.ret (.bool false))
              (.call 6 [(.v 0)]
                (.br (.o1 .no (.o2 .eqi (.v 5) (.int 0)))
                  (.call 3 [(.v 0)]
                    (.br (.o2 .eqi (.v 6) (.int 0))
                      (.call 2 [(.v 0)]
                        (.br (.o2 .eqi (.o1 .len (.v 7)) (.int 0))
                          (.call 8 []
                            (.ret (.v 8)))
                          (.ret (.bool false))))
                      (.ret (.bool false))))
                  (.call 5 [(.v 0)]
                    (.req (.o2 .lti (.int 0) (.o1 .len (.v 6))) (.call 3 [(.v 0)]
                      (.br (.o2 .eqi (.v 7) (.o2 .idx (.v 6) (.int 0)))
                        (.req (.o2 .lei (.int 1) (.o1 .len (.v 6))) (.call 2 [(.v 0)]
                          (.call 0 [(.v 8), (.o3 .sub (.v 6) (.int 1) (.o1 .len (.v 6)))]
                            (.br (.v 9)
                              (.call 8 []
                                (.ret (.v 10)))
                              (.ret (.bool false))))))
                        (.ret (.bool false)))))))))))))))
set_option maxRecDepth 100000 in
theorem tree_law03_ClusterParts : fnTree cx_law03_ClusterParts 4 sg_law03_ClusterParts Tryd.f7 (Tryd.f7.body.getD .skip) = tr_law03_ClusterParts := by kernel_rfl
theorem cxok_law03_ClusterParts {Γ : CEnv} (hg : ∀ n, Γ.glob n = globT n) (hs : ∀ s ∈ cx_law03_ClusterParts.sigs, Contract Tryd.prog Γ gtab s (Γ.pre s.no) (Γ.post s.no)) : CxOk cx_law03_ClusterParts Γ := ⟨by kernel_rfl, hs, fun x hx => by cases hx⟩
theorem contract_law03_ClusterParts {Γ : CEnv} (hg : ∀ n, Γ.glob n = globT n) (hs : ∀ s ∈ cx_law03_ClusterParts.sigs, Contract Tryd.prog Γ gtab s (Γ.pre s.no) (Γ.post s.no)) (k : Nat) {pre : List TV → Prop} {post : List TV → TV → Prop} (h : ∀ ts, ts.length = 1 → pre ts → tr_law03_ClusterParts.den Γ (post ts) ts []) : Contract Tryd.prog Γ gtab (sn_law03_ClusterParts k) pre post :=
  Contract.renum (contract_of (cxok_law03_ClusterParts hg hs) 4 sg_law03_ClusterParts Tryd.func7 (by kernel_rfl) (by kernel_rfl) fun ts hl hp => by rw [tree_law03_ClusterParts]; exact h ts hl hp) k

/-! narrator/narratorlaw03.ClusterAttach -/
def sg_law03_ClusterAttach : Sig := ⟨9, 0, [(false, [.str]), (false, [(.int .i32)])], [(false, [(.bool, none)])]⟩
def sn_law03_ClusterAttach (k : Nat) : Sig := ⟨sg_law03_ClusterAttach.f, k, sg_law03_ClusterAttach.args, sg_law03_ClusterAttach.res⟩
def hd_law03_ClusterAttach : List (FuncId × Nat × Head) := []
def pl_law03_ClusterAttach : List (FuncId × Nat × Nat × Plan) := []
noncomputable def cx_law03_ClusterAttach : Cx := ⟨Tryd.prog, gtab, [sn_cluster_Attach 0, sn_ref03_Attach 1, sn_law03_awake 2], [], hd_law03_ClusterAttach, pl_law03_ClusterAttach⟩
def tr_law03_ClusterAttach : Tree := (.br (.o2 .lti (.int 200) (.o1 .slen (.v 0)))
  (.call 2 []
    (.ret (.v 2)))
  (.call 0 [(.v 0), (.v 1)]
    (.call 1 [(.v 0), (.v 1)]
      (.br (.o2 .eqs (.o1 (.proj 0) (.v 2)) (.o1 (.proj 0) (.v 3)))
        (.br (.o2 .eqi (.o1 (.proj 1) (.v 2)) (.o1 (.proj 1) (.v 3)))
          (.call 2 []
            (.ret (.v 4)))
          (.ret (.bool false)))
        (.ret (.bool false))))))
set_option maxRecDepth 100000 in
theorem tree_law03_ClusterAttach : fnTree cx_law03_ClusterAttach 4 sg_law03_ClusterAttach Tryd.f9 (Tryd.f9.body.getD .skip) = tr_law03_ClusterAttach := by kernel_rfl
theorem cxok_law03_ClusterAttach {Γ : CEnv} (hg : ∀ n, Γ.glob n = globT n) (hs : ∀ s ∈ cx_law03_ClusterAttach.sigs, Contract Tryd.prog Γ gtab s (Γ.pre s.no) (Γ.post s.no)) : CxOk cx_law03_ClusterAttach Γ := ⟨by kernel_rfl, hs, fun x hx => by cases hx⟩
theorem contract_law03_ClusterAttach {Γ : CEnv} (hg : ∀ n, Γ.glob n = globT n) (hs : ∀ s ∈ cx_law03_ClusterAttach.sigs, Contract Tryd.prog Γ gtab s (Γ.pre s.no) (Γ.post s.no)) (k : Nat) {pre : List TV → Prop} {post : List TV → TV → Prop} (h : ∀ ts, ts.length = 2 → pre ts → tr_law03_ClusterAttach.den Γ (post ts) ts []) : Contract Tryd.prog Γ gtab (sn_law03_ClusterAttach k) pre post :=
  Contract.renum (contract_of (cxok_law03_ClusterAttach hg hs) 4 sg_law03_ClusterAttach Tryd.func9 (by kernel_rfl) (by kernel_rfl) fun ts hl hp => by rw [tree_law03_ClusterAttach]; exact h ts hl hp) k

/-! narrator/narratorlaw03.ClusterProper -/
def sg_law03_ClusterProper : Sig := ⟨4, 0, [(false, [(.slice false [(.int .i32)])])], [(false, [(.bool, none)])]⟩
def sn_law03_ClusterProper (k : Nat) : Sig := ⟨sg_law03_ClusterProper.f, k, sg_law03_ClusterProper.args, sg_law03_ClusterProper.res⟩
def hd_law03_ClusterProper : List (FuncId × Nat × Head) := [(4, 14, ⟨[3, 4, 6, 7], [.slot 6 true 9 false [.str]], [7], [], []⟩), (4, 5, ⟨[0, 3, 4, 5], [], [5, 3, 4], [], []⟩)]
def pl_law03_ClusterProper : List (FuncId × Nat × Nat × Plan) := []
noncomputable def cx_law03_ClusterProper : Cx := ⟨Tryd.prog, gtab, [sn_charwidth_Mark 0, sn_charwidth_Width 1, sn_cluster_Check 2, sn_cluster_Split 3, sn_law03_awake 4], [], hd_law03_ClusterProper, pl_law03_ClusterProper⟩
def tr_law03_ClusterProper : Tree := (.br (.o2 .lti (.int 100) (.o1 .len (.v 0)))
  (.call 4 []
    (.ret (.v 1)))
  (.loop [(.int 0), (.int 0), (.int 0)]
    (.br (.o2 .lti (.v 3) (.o1 .len (.v 0)))
      (.req (.o2 .lei (.int 0) (.v 3)) (.req (.o2 .lti (.v 3) (.o1 .len (.v 0))) (.call 0 [(.o2 .idx (.v 0) (.v 3))]
        (.br (.v 4)
          (.br (.o2 .eqi (.v 1) (.int 0))
            (.back 0 [(.v 1), (.int 1), (.o2 (.add .i64) (.v 3) (.int 1))])
            (.back 0 [(.v 1), (.v 2), (.o2 (.add .i64) (.v 3) (.int 1))]))
          (.req (.o2 .lei (.int 0) (.v 3)) (.req (.o2 .lti (.v 3) (.o1 .len (.v 0))) (.call 1 [(.o2 .idx (.v 0) (.v 3))]
            (.br (.o2 .lti (.int 0) (.v 5))
              (.back 0 [(.o2 (.add .i64) (.v 1) (.int 1)), (.v 2), (.o2 (.add .i64) (.v 3) (.int 1))])
              (.back 0 [(.v 1), (.v 2), (.o2 (.add .i64) (.v 3) (.int 1))])))))))))
      (.call 3 [(.v 0)]
        (.loop [(.int 0)]
          (.br (.o2 .lti (.v 5) (.o1 .len (.v 4)))
            (.req (.o2 .lei (.int 0) (.v 5)) (.req (.o2 .lti (.v 5) (.o1 .len (.v 4))) (.call 2 [(.o2 .idx (.v 4) (.v 5))]
              (.br (.o1 .no (.o2 .eqi (.v 6) (.int 0)))
                (.ret (.bool false))
                (.back 1 [(.o2 (.add .i64) (.v 5) (.int 1))])))))
            (.br (.o2 .eqi (.o1 .len (.v 4)) (.o2 (.add .i64) (.v 1) (.v 2)))
              (.call 4 []
                (.ret (.v 6)))
              (.ret (.bool false)))))))))
set_option maxRecDepth 100000 in
theorem tree_law03_ClusterProper : fnTree cx_law03_ClusterProper 4 sg_law03_ClusterProper Tryd.f4 (Tryd.f4.body.getD .skip) = tr_law03_ClusterProper := by kernel_rfl
theorem cxok_law03_ClusterProper {Γ : CEnv} (hg : ∀ n, Γ.glob n = globT n) (hs : ∀ s ∈ cx_law03_ClusterProper.sigs, Contract Tryd.prog Γ gtab s (Γ.pre s.no) (Γ.post s.no)) : CxOk cx_law03_ClusterProper Γ := ⟨by kernel_rfl, hs, fun x hx => by cases hx⟩
theorem contract_law03_ClusterProper {Γ : CEnv} (hg : ∀ n, Γ.glob n = globT n) (hs : ∀ s ∈ cx_law03_ClusterProper.sigs, Contract Tryd.prog Γ gtab s (Γ.pre s.no) (Γ.post s.no)) (k : Nat) {pre : List TV → Prop} {post : List TV → TV → Prop} (h : ∀ ts, ts.length = 1 → pre ts → tr_law03_ClusterProper.den Γ (post ts) ts []) : Contract Tryd.prog Γ gtab (sn_law03_ClusterProper k) pre post :=
  Contract.renum (contract_of (cxok_law03_ClusterProper hg hs) 4 sg_law03_ClusterProper Tryd.func4 (by kernel_rfl) (by kernel_rfl) fun ts hl hp => by rw [tree_law03_ClusterProper]; exact h ts hl hp) k

/-! narrator/narratorlaw03.ClusterIdempotent -/
def sg_law03_ClusterIdempotent : Sig := ⟨11, 0, [(false, [(.slice false [(.int .i32)])])], [(false, [(.bool, none)])]⟩
def sn_law03_ClusterIdempotent (k : Nat) : Sig := ⟨sg_law03_ClusterIdempotent.f, k, sg_law03_ClusterIdempotent.args, sg_law03_ClusterIdempotent.res⟩
def hd_law03_ClusterIdempotent : List (FuncId × Nat × Head) := []
def pl_law03_ClusterIdempotent : List (FuncId × Nat × Nat × Plan) := []
noncomputable def cx_law03_ClusterIdempotent : Cx := ⟨Tryd.prog, gtab, [sn_utf8stream_Decode 0, sn_cluster_Split 1, sn_ref03_Same 2, sn_law03_awake 3, sn_law03_join 4], [], hd_law03_ClusterIdempotent, pl_law03_ClusterIdempotent⟩
def tr_law03_ClusterIdempotent : Tree := (.br (.o2 .lti (.int 100) (.o1 .len (.v 0)))
  (.call 3 []
    (.ret (.v 1)))
  (.call 1 [(.v 0)]
    (.call 4 [(.v 1)]
      (.call 0 [(.str []), (.v 2)]
        (.br (.o2 .eqs (.o1 (.proj 1) (.v 3)) (.str []))
          (.call 1 [(.o1 (.proj 0) (.v 3))]
            (.call 2 [(.v 4), (.v 1)]
              (.br (.v 5)
                (.call 3 []
                  (.ret (.v 6)))
                (.ret (.bool false)))))
          (.ret (.bool false)))))))
set_option maxRecDepth 100000 in
theorem tree_law03_ClusterIdempotent : fnTree cx_law03_ClusterIdempotent 4 sg_law03_ClusterIdempotent Tryd.f11 (Tryd.f11.body.getD .skip) = tr_law03_ClusterIdempotent := by kernel_rfl
theorem cxok_law03_ClusterIdempotent {Γ : CEnv} (hg : ∀ n, Γ.glob n = globT n) (hs : ∀ s ∈ cx_law03_ClusterIdempotent.sigs, Contract Tryd.prog Γ gtab s (Γ.pre s.no) (Γ.post s.no)) : CxOk cx_law03_ClusterIdempotent Γ := ⟨by kernel_rfl, hs, fun x hx => by cases hx⟩
theorem contract_law03_ClusterIdempotent {Γ : CEnv} (hg : ∀ n, Γ.glob n = globT n) (hs : ∀ s ∈ cx_law03_ClusterIdempotent.sigs, Contract Tryd.prog Γ gtab s (Γ.pre s.no) (Γ.post s.no)) (k : Nat) {pre : List TV → Prop} {post : List TV → TV → Prop} (h : ∀ ts, ts.length = 1 → pre ts → tr_law03_ClusterIdempotent.den Γ (post ts) ts []) : Contract Tryd.prog Γ gtab (sn_law03_ClusterIdempotent k) pre post :=
  Contract.renum (contract_of (cxok_law03_ClusterIdempotent hg hs) 4 sg_law03_ClusterIdempotent Tryd.func11 (by kernel_rfl) (by kernel_rfl) fun ts hl hp => by rw [tree_law03_ClusterIdempotent]; exact h ts hl hp) k

/-! narrator/narratorlaw03.ClusterWidths -/
def sg_law03_ClusterWidths : Sig := ⟨5, 0, [(false, [(.slice false [(.int .i32)])])], [(false, [(.bool, none)])]⟩
def sn_law03_ClusterWidths (k : Nat) : Sig := ⟨sg_law03_ClusterWidths.f, k, sg_law03_ClusterWidths.args, sg_law03_ClusterWidths.res⟩
def hd_law03_ClusterWidths : List (FuncId × Nat × Head) := [(5, 17, ⟨[3, 7, 8], [.slot 7 true 9 false [.str]], [8, 3], [], []⟩), (5, 5, ⟨[0, 3, 4, 5], [], [5, 4, 3], [], []⟩)]
def pl_law03_ClusterWidths : List (FuncId × Nat × Nat × Plan) := []
noncomputable def cx_law03_ClusterWidths : Cx := ⟨Tryd.prog, gtab, [sn_charwidth_Mark 0, sn_charwidth_Width 1, sn_cluster_Width 2, sn_cluster_Split 3, sn_law03_awake 4], [], hd_law03_ClusterWidths, pl_law03_ClusterWidths⟩
def tr_law03_ClusterWidths : Tree := (.br (.o2 .lti (.int 100) (.o1 .len (.v 0)))
  (.call 4 []
    (.ret (.v 1)))
  (.loop [(.int 0), (.int 0), (.int 0)]
    (.br (.o2 .lti (.v 3) (.o1 .len (.v 0)))
      (.req (.o2 .lei (.int 0) (.v 3)) (.req (.o2 .lti (.v 3) (.o1 .len (.v 0))) (.call 0 [(.o2 .idx (.v 0) (.v 3))]
        (.br (.v 4)
          (.br (.o2 .eqi (.v 2) (.int 0))
            (.back 0 [(.o2 (.add .i64) (.v 1) (.int 1)), (.int 1), (.o2 (.add .i64) (.v 3) (.int 1))])
            (.back 0 [(.v 1), (.v 2), (.o2 (.add .i64) (.v 3) (.int 1))]))
          (.req (.o2 .lei (.int 0) (.v 3)) (.req (.o2 .lti (.v 3) (.o1 .len (.v 0))) (.call 1 [(.o2 .idx (.v 0) (.v 3))]
            (.br (.o2 .lti (.int 0) (.v 5))
              (.back 0 [(.o2 (.add .i64) (.v 1) (.v 5)), (.o2 (.add .i64) (.v 2) (.int 1)), (.o2 (.add .i64) (.v 3) (.int 1))])
              (.back 0 [(.v 1), (.v 2), (.o2 (.add .i64) (.v 3) (.int 1))])))))))))
      (.call 3 [(.v 0)]
        (.loop [(.v 1), (.int 0)]
          (.br (.o2 .lti (.v 6) (.o1 .len (.v 4)))
            (.req (.o2 .lei (.int 0) (.v 6)) (.req (.o2 .lti (.v 6) (.o1 .len (.v 4))) (.call 2 [(.o2 .idx (.v 4) (.v 6))]
              (.back 1 [(.o2 (.sub .i64) (.v 5) (.v 7)), (.o2 (.add .i64) (.v 6) (.int 1))]))))
            (.br (.o2 .eqi (.v 5) (.int 0))
              (.call 4 []
                (.ret (.v 7)))
              (.ret (.bool false)))))))))
set_option maxRecDepth 100000 in
theorem tree_law03_ClusterWidths : fnTree cx_law03_ClusterWidths 4 sg_law03_ClusterWidths Tryd.f5 (Tryd.f5.body.getD .skip) = tr_law03_ClusterWidths := by kernel_rfl
theorem cxok_law03_ClusterWidths {Γ : CEnv} (hg : ∀ n, Γ.glob n = globT n) (hs : ∀ s ∈ cx_law03_ClusterWidths.sigs, Contract Tryd.prog Γ gtab s (Γ.pre s.no) (Γ.post s.no)) : CxOk cx_law03_ClusterWidths Γ := ⟨by kernel_rfl, hs, fun x hx => by cases hx⟩
theorem contract_law03_ClusterWidths {Γ : CEnv} (hg : ∀ n, Γ.glob n = globT n) (hs : ∀ s ∈ cx_law03_ClusterWidths.sigs, Contract Tryd.prog Γ gtab s (Γ.pre s.no) (Γ.post s.no)) (k : Nat) {pre : List TV → Prop} {post : List TV → TV → Prop} (h : ∀ ts, ts.length = 1 → pre ts → tr_law03_ClusterWidths.den Γ (post ts) ts []) : Contract Tryd.prog Γ gtab (sn_law03_ClusterWidths k) pre post :=
  Contract.renum (contract_of (cxok_law03_ClusterWidths hg hs) 4 sg_law03_ClusterWidths Tryd.func5 (by kernel_rfl) (by kernel_rfl) fun ts hl hp => by rw [tree_law03_ClusterWidths]; exact h ts hl hp) k

/-! narrator/narratorlaw03.ClusterIndependence -/
def sg_law03_ClusterIndependence : Sig := ⟨6, 0, [(false, [(.slice false [(.int .i32)])]), (false, [(.slice false [(.int .i32)])])], [(false, [(.bool, none)])]⟩
def sn_law03_ClusterIndependence (k : Nat) : Sig := ⟨sg_law03_ClusterIndependence.f, k, sg_law03_ClusterIndependence.args, sg_law03_ClusterIndependence.res⟩
def hd_law03_ClusterIndependence : List (FuncId × Nat × Head) := [(6, 4, ⟨[0, 1, 5], [], [5], [], []⟩)]
def pl_law03_ClusterIndependence : List (FuncId × Nat × Nat × Plan) := []
noncomputable def cx_law03_ClusterIndependence : Cx := ⟨Tryd.prog, gtab, [sn_charwidth_Mark 0, sn_charwidth_Width 1, sn_cluster_Split 2, sn_ref03_Same 3, sn_law03_awake 4], [], hd_law03_ClusterIndependence, pl_law03_ClusterIndependence⟩
def tr_law03_ClusterIndependence : Tree := (.br (.o2 .lti (.int 50) (.o1 .len (.v 0)))
  (.call 4 []
    (.ret (.v 2)))
  (.br (.o2 .lti (.int 50) (.o1 .len (.v 1)))
    (.call 4 []
      (.ret (.v 2)))
    (.loop [(.int 0)]
      (.br (.o2 .lti (.v 2) (.o1 .len (.v 1)))
        (.req (.o2 .lei (.int 0) (.v 2)) (.req (.o2 .lti (.v 2) (.o1 .len (.v 1))) (.call 0 [(.o2 .idx (.v 1) (.v 2))]
          (.br (.v 3)
            (.req (.o2 .lei (.int 0) (.v 2)) (.req (.o2 .lti (.v 2) (.o1 .len (.v 1))) (.call 0 [(.o2 .idx (.v 1) (.v 2))]
              (.br (.v 4)
                (.call 4 []
                  (.ret (.v 5)))
                (.back 0 [(.o2 (.add .i64) (.v 2) (.int 1))])))))
            (.req (.o2 .lei (.int 0) (.v 2)) (.req (.o2 .lti (.v 2) (.o1 .len (.v 1))) (.call 1 [(.o2 .idx (.v 1) (.v 2))]
              (.br (.o2 .lti (.v 4) (.int 0))
                (.req (.o2 .lei (.int 0) (.v 2)) (.req (.o2 .lti (.v 2) (.o1 .len (.v 1))) (.call 0 [(.o2 .idx (.v 1) (.v 2))]
                  (.br (.v 5)
                    (.call 4 []
                      (.ret (.v 6)))
                    (.back 0 [(.o2 (.add .i64) (.v 2) (.int 1))])))))
                (.req (.o2 .lei (.o1 .len (.o2 .app .nil (.v 0))) (.int 1099511627776)) (.req (.o2 .lei (.o1 .len (.o2 .app (.o2 .app .nil (.v 0)) (.v 1))) (.int 1099511627776)) (.call 2 [(.v 0)]
                  (.req (.o2 .lei (.o1 .len (.o2 .app .nil (.v 5))) (.int 1099511627776)) (.call 2 [(.v 1)]
                    (.req (.o2 .lei (.o1 .len (.o2 .app (.o2 .app .nil (.v 5)) (.v 6))) (.int 1099511627776)) (.call 2 [(.o2 .app (.o2 .app .nil (.v 0)) (.v 1))]
                      (.call 3 [(.v 7), (.o2 .app (.o2 .app .nil (.v 5)) (.v 6))]
                        (.br (.v 8)
                          (.call 4 []
                            (.ret (.v 9)))
                          (.ret (.bool false)))))))))))))))))))
        (.req (.o2 .lei (.o1 .len (.o2 .app .nil (.v 0))) (.int 1099511627776)) (.req (.o2 .lei (.o1 .len (.o2 .app (.o2 .app .nil (.v 0)) (.v 1))) (.int 1099511627776)) (.call 2 [(.v 0)]
          (.req (.o2 .lei (.o1 .len (.o2 .app .nil (.v 3))) (.int 1099511627776)) (.call 2 [(.v 1)]
            (.req (.o2 .lei (.o1 .len (.o2 .app (.o2 .app .nil (.v 3)) (.v 4))) (.int 1099511627776)) (.call 2 [(.o2 .app (.o2 .app .nil (.v 0)) (.v 1))]
              (.call 3 [(.v 5), (.o2 .app (.o2 .app .nil (.v 3)) (.v 4))]
                (.br (.v 6)
                  (.call 4 []
                    (.ret (.v 7)))
                  (.ret (.bool false)))))))))))))))
set_option maxRecDepth 100000 in
theorem tree_law03_ClusterIndependence : fnTree cx_law03_ClusterIndependence 4 sg_law03_ClusterIndependence Tryd.f6 (Tryd.f6.body.getD .skip) = tr_law03_ClusterIndependence := by kernel_rfl
theorem cxok_law03_ClusterIndependence {Γ : CEnv} (hg : ∀ n, Γ.glob n = globT n) (hs : ∀ s ∈ cx_law03_ClusterIndependence.sigs, Contract Tryd.prog Γ gtab s (Γ.pre s.no) (Γ.post s.no)) : CxOk cx_law03_ClusterIndependence Γ := ⟨by kernel_rfl, hs, fun x hx => by cases hx⟩
theorem contract_law03_ClusterIndependence {Γ : CEnv} (hg : ∀ n, Γ.glob n = globT n) (hs : ∀ s ∈ cx_law03_ClusterIndependence.sigs, Contract Tryd.prog Γ gtab s (Γ.pre s.no) (Γ.post s.no)) (k : Nat) {pre : List TV → Prop} {post : List TV → TV → Prop} (h : ∀ ts, ts.length = 2 → pre ts → tr_law03_ClusterIndependence.den Γ (post ts) ts []) : Contract Tryd.prog Γ gtab (sn_law03_ClusterIndependence k) pre post :=
  Contract.renum (contract_of (cxok_law03_ClusterIndependence hg hs) 4 sg_law03_ClusterIndependence Tryd.func6 (by kernel_rfl) (by kernel_rfl) fun ts hl hp => by rw [tree_law03_ClusterIndependence]; exact h ts hl hp) k

/-! narrator/narratorlaw03.ClusterRoundTrip -/
def sg_law03_ClusterRoundTrip : Sig := ⟨8, 0, [(false, [.str])], [(false, [(.bool, none)])]⟩
def sn_law03_ClusterRoundTrip (k : Nat) : Sig := ⟨sg_law03_ClusterRoundTrip.f, k, sg_law03_ClusterRoundTrip.args, sg_law03_ClusterRoundTrip.res⟩
def hd_law03_ClusterRoundTrip : List (FuncId × Nat × Head) := []
def pl_law03_ClusterRoundTrip : List (FuncId × Nat × Nat × Plan) := [(8, 4, 24, (.op true 0 (.op true 2 (.op false 1 (.op false 3 (.op false 4 (.op true 5 (.op true 7 (.alt 6 (.op false 8 (.op false 9 (.op false 10 (.op false 11 (.op true 12 (.op true 14 (.op true 15 (.op true 16 (.op false 13 (.op false 17 (.op false 18 (.op false 19 (.op false 20 (.op false 21 (.op false 22 (.op false 23 .nil)))))))))))))))) (.op false 8 (.op false 6 (.op false 9 (.op false 10 (.op false 11 (.op true 12 (.op true 14 (.op true 15 (.op true 16 (.op false 13 (.op false 17 (.op false 18 (.op false 19 (.op false 20 (.op false 21 (.op false 22 (.op false 23 .nil))))))))))))))))))))))))))]
noncomputable def cx_law03_ClusterRoundTrip : Cx := ⟨Tryd.prog, gtab, [sn_utf8stream_Encode 0, sn_charwidth_Width 1, sn_cluster_Check 2, sn_cluster_Marks 3, sn_cluster_Base 4, sn_cluster_Width 5, sn_cluster_Split 6, sn_ref03_Same 7, sn_law03_awake 8], [], hd_law03_ClusterRoundTrip, pl_law03_ClusterRoundTrip⟩
def tr_law03_ClusterRoundTrip : Tree := (.br (.o2 .lti (.int 200) (.o1 .slen (.v 0)))
  (.call 8 []
    (.ret (.v 1)))
  (.call 2 [(.v 0)]
    (.br (.o1 .no (.o2 .eqi (.v 1) (.int 0)))
      (.call 8 []
        (.ret (.v 2)))
      (.call 4 [(.v 0)]
        (.call 3 [(.v 0)]
          (.req (.o2 .lei (.o1 .len (.o2 .app (.cons (.v 2) .nil) (.v 3))) (.int 1099511627776)) (.call 0 [(.o2 .app (.cons (.v 2) .nil) (.v 3))]
            (.br (.o2 .eqs (.v 4) (.v 0))
              (.both
                (.call 6 [(.o2 .app (.cons (.v 2) .nil) (.v 3))]
                  (.call 7 [(.v 5), (.cons (.v 0) .nil)]
                    (.br (.v 6)
                      (.req (.o2 .lti (.int 0) (.o1 .len (.o2 .app (.cons (.v 2) .nil) (.v 3)))) (.call 5 [(.v 0)]
                        (.call 1 [(.o2 .idx (.o2 .app (.cons (.v 2) .nil) (.v 3)) (.int 0))]
                          (.br (.o2 .eqi (.v 7) (.v 8))
                            (.call 8 []
                              (.ret (.v 9)))
                            (.ret (.bool false))))))
                      (.ret (.bool false)))))
                (.call 6 [(.o2 .app (.cons (.v 2) .nil) (.v 3))]
                  (.call 7 [(.v 5), (.cons (.v 0) .nil)]
                    (.br (.v 6)
                      (.req (.o2 .lti (.int 0) (.o1 .len (.o2 .app (.cons (.v 2) .nil) (.v 3)))) (.call 5 [(.v 0)]
                        (.call 1 [(.o2 .idx (.o2 .app (.cons (.v 2) .nil) (.v 3)) (.int 0))]
                          (.br (.o2 .eqi (.v 7) (.v 8))
                            (.call 8 []
                              (.ret (.v 9)))
                            (.ret (.bool false))))))
                      (.ret (.bool false))))))
              (.both
                (.ret (.bool false))
                (.ret (.bool false)))))))))))
set_option maxRecDepth 100000 in
theorem tree_law03_ClusterRoundTrip : fnTree cx_law03_ClusterRoundTrip 4 sg_law03_ClusterRoundTrip Tryd.f8 (Tryd.f8.body.getD .skip) = tr_law03_ClusterRoundTrip := by kernel_rfl
theorem cxok_law03_ClusterRoundTrip {Γ : CEnv} (hg : ∀ n, Γ.glob n = globT n) (hs : ∀ s ∈ cx_law03_ClusterRoundTrip.sigs, Contract Tryd.prog Γ gtab s (Γ.pre s.no) (Γ.post s.no)) : CxOk cx_law03_ClusterRoundTrip Γ := ⟨by kernel_rfl, hs, fun x hx => by cases hx⟩
theorem contract_law03_ClusterRoundTrip {Γ : CEnv} (hg : ∀ n, Γ.glob n = globT n) (hs : ∀ s ∈ cx_law03_ClusterRoundTrip.sigs, Contract Tryd.prog Γ gtab s (Γ.pre s.no) (Γ.post s.no)) (k : Nat) {pre : List TV → Prop} {post : List TV → TV → Prop} (h : ∀ ts, ts.length = 1 → pre ts → tr_law03_ClusterRoundTrip.den Γ (post ts) ts []) : Contract Tryd.prog Γ gtab (sn_law03_ClusterRoundTrip k) pre post :=
  Contract.renum (contract_of (cxok_law03_ClusterRoundTrip hg hs) 4 sg_law03_ClusterRoundTrip Tryd.func8 (by kernel_rfl) (by kernel_rfl) fun ts hl hp => by rw [tree_law03_ClusterRoundTrip]; exact h ts hl hp) k

/-! narrator/narratorlaw03.ClusterMarks -/
def sg_law03_ClusterMarks : Sig := ⟨10, 0, [(false, [(.int .i32)]), (false, [(.slice false [(.int .i32)])])], [(false, [(.bool, none)])]⟩
def sn_law03_ClusterMarks (k : Nat) : Sig := ⟨sg_law03_ClusterMarks.f, k, sg_law03_ClusterMarks.args, sg_law03_ClusterMarks.res⟩
def hd_law03_ClusterMarks : List (FuncId × Nat × Head) := [(10, 6, ⟨[1, 5, 6, 7], [.slot 6 true 21 false [(.int .i32)]], [7, 5], [0], []⟩)]
def pl_law03_ClusterMarks : List (FuncId × Nat × Nat × Plan) := []
noncomputable def cx_law03_ClusterMarks : Cx := ⟨Tryd.prog, gtab, [sn_utf8stream_Encode 0, sn_charwidth_Mark 1, sn_charwidth_Width 2, sn_cluster_Attach 3, sn_cluster_Split 4, sn_ref03_Same 5, sn_law03_awake 6], [], hd_law03_ClusterMarks, pl_law03_ClusterMarks⟩
def tr_law03_ClusterMarks : Tree := (.br (.o2 .lti (.int 20) (.o1 .len (.v 1)))
  (.call 6 []
    (.ret (.v 2)))
  (.call 1 [(.v 0)]
    (.br (.v 2)
      (.call 6 []
        (.ret (.v 3)))
      (.call 2 [(.v 0)]
        (.br (.o2 .lti (.v 3) (.int 1))
          (.call 6 []
            (.ret (.v 4)))
          (.call 0 [(.cons (.v 0) .nil)]
            (.loop [(.v 4), (.int 0), (.cons (.v 0) .nil)]
              (.br (.o2 .lti (.v 6) (.o1 .len (.v 1)))
                (.req (.o2 .lei (.int 0) (.v 6)) (.req (.o2 .lti (.v 6) (.o1 .len (.v 1))) (.call 1 [(.o2 .idx (.v 1) (.v 6))]
                  (.br (.o1 .no (.v 8))
                    (.back 0 [(.v 5), (.o2 (.add .i64) (.v 6) (.int 1)), (.v 7)])
                    (.req (.o2 .lei (.int 0) (.v 6)) (.req (.o2 .lti (.v 6) (.o1 .len (.v 1))) (.req (.o2 .lei (.o1 .len (.o2 .app (.v 7) (.cons (.o2 .idx (.v 1) (.v 6)) .nil))) (.int 1099511627776)) (.req (.o2 .lei (.int 0) (.v 6)) (.req (.o2 .lti (.v 6) (.o1 .len (.v 1))) (.call 3 [(.v 5), (.o2 .idx (.v 1) (.v 6))]
                      (.br (.o1 .no (.o2 .eqb (.o2 .eqi (.o1 (.proj 1) (.v 9)) (.int 0)) (.o2 .lei (.o1 .len (.o2 .app (.v 7) (.cons (.o2 .idx (.v 1) (.v 6)) .nil))) (.int 4))))
                        (.ret (.bool false))
                        (.br (.o1 .no (.o2 .eqi (.o1 (.proj 1) (.v 9)) (.int 0)))
                          (.br (.o1 .no (.o2 .eqi (.o1 (.proj 1) (.v 9)) (.int 5)))
                            (.ret (.bool false))
                            (.br (.o2 .eqi (.o1 (.proj 1) (.v 9)) (.int 0))
                              (.back 0 [(.o1 (.proj 0) (.v 9)), (.o2 (.add .i64) (.v 6) (.int 1)), (.o2 .app (.v 7) (.cons (.o2 .idx (.v 1) (.v 6)) .nil))])
                              (.back 0 [(.v 5), (.o2 (.add .i64) (.v 6) (.int 1)), (.o2 .app (.v 7) (.cons (.o2 .idx (.v 1) (.v 6)) .nil))])))
                          (.br (.o2 .eqi (.o1 (.proj 1) (.v 9)) (.int 0))
                            (.back 0 [(.o1 (.proj 0) (.v 9)), (.o2 (.add .i64) (.v 6) (.int 1)), (.o2 .app (.v 7) (.cons (.o2 .idx (.v 1) (.v 6)) .nil))])
                            (.back 0 [(.v 5), (.o2 (.add .i64) (.v 6) (.int 1)), (.o2 .app (.v 7) (.cons (.o2 .idx (.v 1) (.v 6)) .nil))]))))))))))))))
                (.call 4 [(.v 7)]
                  (.call 5 [(.v 8), (.cons (.v 5) .nil)]
                    (.br (.v 9)
                      (.call 6 []
                        (.ret (.v 10)))
                      (.ret (.bool false)))))))))))))
set_option maxRecDepth 100000 in
theorem tree_law03_ClusterMarks : fnTree cx_law03_ClusterMarks 4 sg_law03_ClusterMarks Tryd.f10 (Tryd.f10.body.getD .skip) = tr_law03_ClusterMarks := by kernel_rfl
theorem cxok_law03_ClusterMarks {Γ : CEnv} (hg : ∀ n, Γ.glob n = globT n) (hs : ∀ s ∈ cx_law03_ClusterMarks.sigs, Contract Tryd.prog Γ gtab s (Γ.pre s.no) (Γ.post s.no)) : CxOk cx_law03_ClusterMarks Γ := ⟨by kernel_rfl, hs, fun x hx => by cases hx⟩
theorem contract_law03_ClusterMarks {Γ : CEnv} (hg : ∀ n, Γ.glob n = globT n) (hs : ∀ s ∈ cx_law03_ClusterMarks.sigs, Contract Tryd.prog Γ gtab s (Γ.pre s.no) (Γ.post s.no)) (k : Nat) {pre : List TV → Prop} {post : List TV → TV → Prop} (h : ∀ ts, ts.length = 2 → pre ts → tr_law03_ClusterMarks.den Γ (post ts) ts []) : Contract Tryd.prog Γ gtab (sn_law03_ClusterMarks k) pre post :=
  Contract.renum (contract_of (cxok_law03_ClusterMarks hg hs) 4 sg_law03_ClusterMarks Tryd.func10 (by kernel_rfl) (by kernel_rfl) fun ts hl hp => by rw [tree_law03_ClusterMarks]; exact h ts hl hp) k
end Go.Proofs.YtnbbepgmnbmfdaaDoor

/- Written by a program of ours (Gen): the trees of the symbolic runs of functions, and their contracts' frames. -/
import Derived.Test.YtnbbepgmnbmfdaaDoorW1
namespace Go.Proofs.YtnbbepgmnbmfdaaDoor
set_option linter.unusedVariables false
set_option linter.unusedSimpArgs false

/-! narrator/cluster.marked -/
def sg_cluster_marked : Sig := ⟨39, 0, [(false, [(.slice false [(.int .i32)])])], [(false, [(.bool, none)])]⟩
def sn_cluster_marked (k : Nat) : Sig := ⟨sg_cluster_marked.f, k, sg_cluster_marked.args, sg_cluster_marked.res⟩
def hd_cluster_marked : List (FuncId × Nat × Head) := [(39, 2, ⟨[5, 6, 7], [], [7], [], []⟩)]
def pl_cluster_marked : List (FuncId × Nat × Nat × Plan) := []
noncomputable def cx_cluster_marked : Cx := ⟨Tryd.prog, gtab, [sn_charwidth_Mark 0], [], hd_cluster_marked, pl_cluster_marked⟩
def tr_cluster_marked : Tree := (.loop [(.int 0)]
  (.br (.o2 .lti (.v 1) (.o1 .len (.v 0)))
    (.req (.o2 .lei (.int 0) (.v 1)) (.req (.o2 .lti (.v 1) (.o1 .len (.v 0))) (.call 0 [(.o2 .idx (.v 0) (.v 1))]
      (.br (.o1 .no (.v 2))
        (.ret (.bool false))
        (.back 0 [(.o2 (.add .i64) (.v 1) (.int 1))])))))
    (.ret (.bool true))))
set_option maxRecDepth 100000 in
theorem tree_cluster_marked : fnTree cx_cluster_marked 4 sg_cluster_marked Tryd.f39 (Tryd.f39.body.getD .skip) = tr_cluster_marked := by kernel_rfl
theorem cxok_cluster_marked {Γ : CEnv} (hg : ∀ n, Γ.glob n = globT n) (hs : ∀ s ∈ cx_cluster_marked.sigs, Contract Tryd.prog Γ gtab s (Γ.pre s.no) (Γ.post s.no)) : CxOk cx_cluster_marked Γ := ⟨by kernel_rfl, hs, fun x hx => by cases hx⟩
theorem contract_cluster_marked {Γ : CEnv} (hg : ∀ n, Γ.glob n = globT n) (hs : ∀ s ∈ cx_cluster_marked.sigs, Contract Tryd.prog Γ gtab s (Γ.pre s.no) (Γ.post s.no)) (k : Nat) {pre : List TV → Prop} {post : List TV → TV → Prop} (h : ∀ ts, ts.length = 1 → pre ts → tr_cluster_marked.den Γ (post ts) ts []) : Contract Tryd.prog Γ gtab (sn_cluster_marked k) pre post :=
  Contract.renum (contract_of (cxok_cluster_marked hg hs) 4 sg_cluster_marked Tryd.func39 (by kernel_rfl) (by kernel_rfl) fun ts hl hp => by rw [tree_cluster_marked]; exact h ts hl hp) k

/-! narrator/cluster.Check -/
def sg_cluster_Check : Sig := ⟨18, 0, [(false, [.str])], [(false, [((.int .i64), none)])]⟩
def sn_cluster_Check (k : Nat) : Sig := ⟨sg_cluster_Check.f, k, sg_cluster_Check.args, sg_cluster_Check.res⟩
def hd_cluster_Check : List (FuncId × Nat × Head) := []
def pl_cluster_Check : List (FuncId × Nat × Nat × Plan) := []
noncomputable def cx_cluster_Check : Cx := ⟨Tryd.prog, gtab, [sn_utf8stream_Valid 0, sn_charwidth_Width 1, sn_cluster_marked 2], [], hd_cluster_Check, pl_cluster_Check⟩
def tr_cluster_Check : Tree := (.br (.o2 .eqs (.v 0) (.str []))
  (.ret (.int 3))
  (.call 0 [(.v 0)]
    (.br (.o1 .no (.v 1))
      (.ret (.int 3))
      (.req (.o2 .lei (.o1 .slen (.v 0)) (.int 1099511627776)) (.req (.o2 .lti (.int 0) (.o1 .len (.o1 .runesOf (.v 0)))) (.call 1 [(.o2 .idx (.o1 .runesOf (.v 0)) (.int 0))]
        (.br (.o2 .lti (.v 2) (.int 1))
          (.ret (.int 9))
          (.req (.o2 .lei (.int 1) (.o1 .len (.o1 .runesOf (.v 0)))) (.call 2 [(.o3 .sub (.o1 .runesOf (.v 0)) (.int 1) (.o1 .len (.o1 .runesOf (.v 0))))]
            (.br (.o1 .no (.v 3))
              (.ret (.int 9))
              (.br (.o2 .lti (.int 3) (.o2 (.sub .i64) (.o1 .len (.o1 .runesOf (.v 0))) (.int 1)))
                (.ret (.int 5))
                (.ret (.int 0)))))))))))))
set_option maxRecDepth 100000 in
theorem tree_cluster_Check : fnTree cx_cluster_Check 4 sg_cluster_Check Tryd.f18 (Tryd.f18.body.getD .skip) = tr_cluster_Check := by kernel_rfl
theorem cxok_cluster_Check {Γ : CEnv} (hg : ∀ n, Γ.glob n = globT n) (hs : ∀ s ∈ cx_cluster_Check.sigs, Contract Tryd.prog Γ gtab s (Γ.pre s.no) (Γ.post s.no)) : CxOk cx_cluster_Check Γ := ⟨by kernel_rfl, hs, fun x hx => by cases hx⟩
theorem contract_cluster_Check {Γ : CEnv} (hg : ∀ n, Γ.glob n = globT n) (hs : ∀ s ∈ cx_cluster_Check.sigs, Contract Tryd.prog Γ gtab s (Γ.pre s.no) (Γ.post s.no)) (k : Nat) {pre : List TV → Prop} {post : List TV → TV → Prop} (h : ∀ ts, ts.length = 1 → pre ts → tr_cluster_Check.den Γ (post ts) ts []) : Contract Tryd.prog Γ gtab (sn_cluster_Check k) pre post :=
  Contract.renum (contract_of (cxok_cluster_Check hg hs) 4 sg_cluster_Check Tryd.func18 (by kernel_rfl) (by kernel_rfl) fun ts hl hp => by rw [tree_cluster_Check]; exact h ts hl hp) k

/-! narrator/cluster.runes -/
def sg_cluster_runes : Sig := ⟨40, 0, [(false, [.str])], [(false, [((.slice false [(.int .i32)]), some 21)])]⟩
def sn_cluster_runes (k : Nat) : Sig := ⟨sg_cluster_runes.f, k, sg_cluster_runes.args, sg_cluster_runes.res⟩
def hd_cluster_runes : List (FuncId × Nat × Head) := []
def pl_cluster_runes : List (FuncId × Nat × Nat × Plan) := []
noncomputable def cx_cluster_runes : Cx := ⟨Tryd.prog, gtab, [sn_cluster_Check 0], [], hd_cluster_runes, pl_cluster_runes⟩
def tr_cluster_runes : Tree := (.call 0 [(.v 0)]
  (.br (.o1 .no (.o2 .eqi (.v 1) (.int 0)))
    (.ret .nil)
    (.req (.o2 .lei (.o1 .slen (.v 0)) (.int 1099511627776)) (.ret (.o1 .runesOf (.v 0))))))
set_option maxRecDepth 100000 in
theorem tree_cluster_runes : fnTree cx_cluster_runes 4 sg_cluster_runes Tryd.f40 (Tryd.f40.body.getD .skip) = tr_cluster_runes := by kernel_rfl
theorem cxok_cluster_runes {Γ : CEnv} (hg : ∀ n, Γ.glob n = globT n) (hs : ∀ s ∈ cx_cluster_runes.sigs, Contract Tryd.prog Γ gtab s (Γ.pre s.no) (Γ.post s.no)) : CxOk cx_cluster_runes Γ := ⟨by kernel_rfl, hs, fun x hx => by cases hx⟩
theorem contract_cluster_runes {Γ : CEnv} (hg : ∀ n, Γ.glob n = globT n) (hs : ∀ s ∈ cx_cluster_runes.sigs, Contract Tryd.prog Γ gtab s (Γ.pre s.no) (Γ.post s.no)) (k : Nat) {pre : List TV → Prop} {post : List TV → TV → Prop} (h : ∀ ts, ts.length = 1 → pre ts → tr_cluster_runes.den Γ (post ts) ts []) : Contract Tryd.prog Γ gtab (sn_cluster_runes k) pre post :=
  Contract.renum (contract_of (cxok_cluster_runes hg hs) 4 sg_cluster_runes Tryd.func40 (by kernel_rfl) (by kernel_rfl) fun ts hl hp => by rw [tree_cluster_runes]; exact h ts hl hp) k

/-! narrator/cluster.Marks -/
def sg_cluster_Marks : Sig := ⟨23, 0, [(false, [.str])], [(false, [((.slice false [(.int .i32)]), none)])]⟩
def sn_cluster_Marks (k : Nat) : Sig := ⟨sg_cluster_Marks.f, k, sg_cluster_Marks.args, sg_cluster_Marks.res⟩
def hd_cluster_Marks : List (FuncId × Nat × Head) := []
def pl_cluster_Marks : List (FuncId × Nat × Nat × Plan) := []
noncomputable def cx_cluster_Marks : Cx := ⟨Tryd.prog, gtab, [sn_cluster_runes 0], [], hd_cluster_Marks, pl_cluster_Marks⟩
def tr_cluster_Marks : Tree := (.call 0 [(.v 0)]
  (.br (.o2 .lti (.int 0) (.o1 .len (.v 1)))
    (.req (.o2 .lei (.int 1) (.o1 .len (.v 1))) (.ret (.o3 .sub (.v 1) (.int 1) (.o1 .len (.v 1)))))
    (.ret .nil)))
set_option maxRecDepth 100000 in
theorem tree_cluster_Marks : fnTree cx_cluster_Marks 4 sg_cluster_Marks Tryd.f23 (Tryd.f23.body.getD .skip) = tr_cluster_Marks := by kernel_rfl
theorem cxok_cluster_Marks {Γ : CEnv} (hg : ∀ n, Γ.glob n = globT n) (hs : ∀ s ∈ cx_cluster_Marks.sigs, Contract Tryd.prog Γ gtab s (Γ.pre s.no) (Γ.post s.no)) : CxOk cx_cluster_Marks Γ := ⟨by kernel_rfl, hs, fun x hx => by cases hx⟩
theorem contract_cluster_Marks {Γ : CEnv} (hg : ∀ n, Γ.glob n = globT n) (hs : ∀ s ∈ cx_cluster_Marks.sigs, Contract Tryd.prog Γ gtab s (Γ.pre s.no) (Γ.post s.no)) (k : Nat) {pre : List TV → Prop} {post : List TV → TV → Prop} (h : ∀ ts, ts.length = 1 → pre ts → tr_cluster_Marks.den Γ (post ts) ts []) : Contract Tryd.prog Γ gtab (sn_cluster_Marks k) pre post :=
  Contract.renum (contract_of (cxok_cluster_Marks hg hs) 4 sg_cluster_Marks Tryd.func23 (by kernel_rfl) (by kernel_rfl) fun ts hl hp => by rw [tree_cluster_Marks]; exact h ts hl hp) k

/-! narrator/cluster.Base -/
def sg_cluster_Base : Sig := ⟨22, 0, [(false, [.str])], [(false, [((.int .i32), none)])]⟩
def sn_cluster_Base (k : Nat) : Sig := ⟨sg_cluster_Base.f, k, sg_cluster_Base.args, sg_cluster_Base.res⟩
def hd_cluster_Base : List (FuncId × Nat × Head) := []
def pl_cluster_Base : List (FuncId × Nat × Nat × Plan) := []
noncomputable def cx_cluster_Base : Cx := ⟨Tryd.prog, gtab, [sn_cluster_runes 0], [], hd_cluster_Base, pl_cluster_Base⟩
def tr_cluster_Base : Tree := (.call 0 [(.v 0)]
  (.br (.o2 .lti (.int 0) (.o1 .len (.v 1)))
    (.req (.o2 .lti (.int 0) (.o1 .len (.v 1))) (.ret (.o2 .idx (.v 1) (.int 0))))
    (.ret (.int 0))))
set_option maxRecDepth 100000 in
theorem tree_cluster_Base : fnTree cx_cluster_Base 4 sg_cluster_Base Tryd.f22 (Tryd.f22.body.getD .skip) = tr_cluster_Base := by kernel_rfl
theorem cxok_cluster_Base {Γ : CEnv} (hg : ∀ n, Γ.glob n = globT n) (hs : ∀ s ∈ cx_cluster_Base.sigs, Contract Tryd.prog Γ gtab s (Γ.pre s.no) (Γ.post s.no)) : CxOk cx_cluster_Base Γ := ⟨by kernel_rfl, hs, fun x hx => by cases hx⟩
theorem contract_cluster_Base {Γ : CEnv} (hg : ∀ n, Γ.glob n = globT n) (hs : ∀ s ∈ cx_cluster_Base.sigs, Contract Tryd.prog Γ gtab s (Γ.pre s.no) (Γ.post s.no)) (k : Nat) {pre : List TV → Prop} {post : List TV → TV → Prop} (h : ∀ ts, ts.length = 1 → pre ts → tr_cluster_Base.den Γ (post ts) ts []) : Contract Tryd.prog Γ gtab (sn_cluster_Base k) pre post :=
  Contract.renum (contract_of (cxok_cluster_Base hg hs) 4 sg_cluster_Base Tryd.func22 (by kernel_rfl) (by kernel_rfl) fun ts hl hp => by rw [tree_cluster_Base]; exact h ts hl hp) k

/-! narrator/cluster.Width -/
def sg_cluster_Width : Sig := ⟨19, 0, [(false, [.str])], [(false, [((.int .i64), none)])]⟩
def sn_cluster_Width (k : Nat) : Sig := ⟨sg_cluster_Width.f, k, sg_cluster_Width.args, sg_cluster_Width.res⟩
def hd_cluster_Width : List (FuncId × Nat × Head) := []
def pl_cluster_Width : List (FuncId × Nat × Nat × Plan) := []
noncomputable def cx_cluster_Width : Cx := ⟨Tryd.prog, gtab, [sn_charwidth_Width 0, sn_cluster_runes 1], [], hd_cluster_Width, pl_cluster_Width⟩
def tr_cluster_Width : Tree := (.call 1 [(.v 0)]
  (.br (.o2 .lti (.int 0) (.o1 .len (.v 1)))
    (.req (.o2 .lti (.int 0) (.o1 .len (.v 1))) (.call 0 [(.o2 .idx (.v 1) (.int 0))]
      (.ret (.v 2))))
    (.ret (.int 0))))
set_option maxRecDepth 100000 in
theorem tree_cluster_Width : fnTree cx_cluster_Width 4 sg_cluster_Width Tryd.f19 (Tryd.f19.body.getD .skip) = tr_cluster_Width := by kernel_rfl
theorem cxok_cluster_Width {Γ : CEnv} (hg : ∀ n, Γ.glob n = globT n) (hs : ∀ s ∈ cx_cluster_Width.sigs, Contract Tryd.prog Γ gtab s (Γ.pre s.no) (Γ.post s.no)) : CxOk cx_cluster_Width Γ := ⟨by kernel_rfl, hs, fun x hx => by cases hx⟩
theorem contract_cluster_Width {Γ : CEnv} (hg : ∀ n, Γ.glob n = globT n) (hs : ∀ s ∈ cx_cluster_Width.sigs, Contract Tryd.prog Γ gtab s (Γ.pre s.no) (Γ.post s.no)) (k : Nat) {pre : List TV → Prop} {post : List TV → TV → Prop} (h : ∀ ts, ts.length = 1 → pre ts → tr_cluster_Width.den Γ (post ts) ts []) : Contract Tryd.prog Γ gtab (sn_cluster_Width k) pre post :=
  Contract.renum (contract_of (cxok_cluster_Width hg hs) 4 sg_cluster_Width Tryd.func19 (by kernel_rfl) (by kernel_rfl) fun ts hl hp => by rw [tree_cluster_Width]; exact h ts hl hp) k

/-! narrator/cluster.Attach -/
def sg_cluster_Attach : Sig := ⟨27, 0, [(false, [.str]), (false, [(.int .i32)])], [(false, [(.str, none)]), (false, [((.int .i64), none)])]⟩
def sn_cluster_Attach (k : Nat) : Sig := ⟨sg_cluster_Attach.f, k, sg_cluster_Attach.args, sg_cluster_Attach.res⟩
def hd_cluster_Attach : List (FuncId × Nat × Head) := []
def pl_cluster_Attach : List (FuncId × Nat × Nat × Plan) := []
noncomputable def cx_cluster_Attach : Cx := ⟨Tryd.prog, gtab, [sn_utf8stream_Encode 0, sn_charwidth_Mark 1, sn_cluster_Check 2, sn_cluster_Marks 3], [], hd_cluster_Attach, pl_cluster_Attach⟩
def tr_cluster_Attach : Tree := (.call 2 [(.v 0)]
  (.br (.o1 .no (.o2 .eqi (.v 2) (.int 0)))
    (.ret (.o1 .agg (.cons (.str []) (.cons (.v 2) .nil))))
    (.call 1 [(.v 1)]
      (.br (.o1 .no (.v 3))
        (.ret (.o1 .agg (.cons (.str []) (.cons (.int 9) .nil))))
        (.call 3 [(.v 0)]
          (.br (.o2 .lei (.int 3) (.o1 .len (.v 4)))
            (.ret (.o1 .agg (.cons (.str []) (.cons (.int 5) .nil))))
            (.call 0 [(.cons (.v 1) .nil)]
              (.req (.o2 .lei (.o1 .slen (.o2 .cat (.v 0) (.v 5))) (.int 9223372036854775807)) (.ret (.o1 .agg (.cons (.o2 .cat (.v 0) (.v 5)) (.cons (.int 0) .nil))))))))))))
set_option maxRecDepth 100000 in
theorem tree_cluster_Attach : fnTree cx_cluster_Attach 4 sg_cluster_Attach Tryd.f27 (Tryd.f27.body.getD .skip) = tr_cluster_Attach := by kernel_rfl
theorem cxok_cluster_Attach {Γ : CEnv} (hg : ∀ n, Γ.glob n = globT n) (hs : ∀ s ∈ cx_cluster_Attach.sigs, Contract Tryd.prog Γ gtab s (Γ.pre s.no) (Γ.post s.no)) : CxOk cx_cluster_Attach Γ := ⟨by kernel_rfl, hs, fun x hx => by cases hx⟩
theorem contract_cluster_Attach {Γ : CEnv} (hg : ∀ n, Γ.glob n = globT n) (hs : ∀ s ∈ cx_cluster_Attach.sigs, Contract Tryd.prog Γ gtab s (Γ.pre s.no) (Γ.post s.no)) (k : Nat) {pre : List TV → Prop} {post : List TV → TV → Prop} (h : ∀ ts, ts.length = 2 → pre ts → tr_cluster_Attach.den Γ (post ts) ts []) : Contract Tryd.prog Γ gtab (sn_cluster_Attach k) pre post :=
  Contract.renum (contract_of (cxok_cluster_Attach hg hs) 4 sg_cluster_Attach Tryd.func27 (by kernel_rfl) (by kernel_rfl) fun ts hl hp => by rw [tree_cluster_Attach]; exact h ts hl hp) k

/-! narrator/cluster.Split -/
def sg_cluster_Split : Sig := ⟨14, 0, [(false, [(.slice false [(.int .i32)])])], [(false, [((.slice false [.str]), some 9)])]⟩
def sn_cluster_Split (k : Nat) : Sig := ⟨sg_cluster_Split.f, k, sg_cluster_Split.args, sg_cluster_Split.res⟩
def hd_cluster_Split : List (FuncId × Nat × Head) := [(14, 5, ⟨[3, 4, 5, 9, 10, 11], [.slot 3 true 25 false [], .slot 4 true 3 false [], .cell 3 0 true 9 false [.str]], [11], [2], [(1, 0)]⟩)]
def pl_cluster_Split : List (FuncId × Nat × Nat × Plan) := [(14, 12, 11, (.op true 0 (.op true 1 (.op true 2 (.op true 3 (.op true 4 (.op true 5 (.op true 6 (.op false 7 (.op false 8 (.op false 9 (.op true 10 .nil)))))))))))), (31, 0, 5, (.op true 0 (.op true 1 (.op false 2 (.op false 3 (.op false 4 .nil))))))]
noncomputable def cx_cluster_Split : Cx := ⟨Tryd.prog, gtab, [sn_utf8stream_Encode 0, sn_charwidth_Width 1], [(31, Tryd.f31)], hd_cluster_Split, pl_cluster_Split⟩
def tr_cluster_Split : Tree := (.loop [(.int 0), (.int 0), .nil]
  (.br (.o2 .lti (.v 1) (.o1 .len (.v 0)))
    (.req (.o2 .lei (.int 0) (.v 1)) (.req (.o2 .lti (.v 1) (.o1 .len (.v 0))) (.call 1 [(.o2 .idx (.v 0) (.v 1))]
      (.br (.o2 .eqi (.v 4) (.int 0))
        (.br (.o2 .eqi (.o1 .len (.v 3)) (.int 0))
          (.call 0 [(.cons (.int 32) .nil)]
            (.req (.o2 .lei (.o1 .len (.o2 .app (.v 3) (.cons (.v 5) .nil))) (.int 1099511627776)) (.req (.o2 .lei (.int 0) (.o2 (.sub .i64) (.o1 .len (.o2 .app (.v 3) (.cons (.v 5) .nil))) (.int 1))) (.req (.o2 .lti (.o2 (.sub .i64) (.o1 .len (.o2 .app (.v 3) (.cons (.v 5) .nil))) (.int 1)) (.o1 .len (.o2 .app (.v 3) (.cons (.v 5) .nil)))) (.call 0 [(.cons (.o2 .idx (.v 0) (.v 1)) .nil)]
              (.req (.o2 .lei (.o1 .slen (.o2 .cat (.o2 .idx (.o2 .app (.v 3) (.cons (.v 5) .nil)) (.o2 (.sub .i64) (.o1 .len (.o2 .app (.v 3) (.cons (.v 5) .nil))) (.int 1))) (.v 6))) (.int 9223372036854775807)) (.req (.o2 .lei (.int 0) (.o2 (.sub .i64) (.o1 .len (.o2 .app (.v 3) (.cons (.v 5) .nil))) (.int 1))) (.req (.o2 .lti (.o2 (.sub .i64) (.o1 .len (.o2 .app (.v 3) (.cons (.v 5) .nil))) (.int 1)) (.o1 .len (.o2 .app (.v 3) (.cons (.v 5) .nil)))) (.back 0 [(.o2 (.add .i64) (.v 1) (.int 1)), (.int 1), (.o3 .set (.o2 .app (.v 3) (.cons (.v 5) .nil)) (.o2 (.sub .i64) (.o1 .len (.o2 .app (.v 3) (.cons (.v 5) .nil))) (.int 1)) (.o2 .cat (.o2 .idx (.o2 .app (.v 3) (.cons (.v 5) .nil)) (.o2 (.sub .i64) (.o1 .len (.o2 .app (.v 3) (.cons (.v 5) .nil))) (.int 1))) (.v 6)))])))))))))
          (.br (.o2 .lti (.v 2) (.int 3))
            (.req (.o2 .lei (.int 0) (.o2 (.sub .i64) (.o1 .len (.v 3)) (.int 1))) (.req (.o2 .lti (.o2 (.sub .i64) (.o1 .len (.v 3)) (.int 1)) (.o1 .len (.v 3))) (.call 0 [(.cons (.o2 .idx (.v 0) (.v 1)) .nil)]
              (.req (.o2 .lei (.o1 .slen (.o2 .cat (.o2 .idx (.v 3) (.o2 (.sub .i64) (.o1 .len (.v 3)) (.int 1))) (.v 5))) (.int 9223372036854775807)) (.req (.o2 .lei (.int 0) (.o2 (.sub .i64) (.o1 .len (.v 3)) (.int 1))) (.req (.o2 .lti (.o2 (.sub .i64) (.o1 .len (.v 3)) (.int 1)) (.o1 .len (.v 3))) (.back 0 [(.o2 (.add .i64) (.v 1) (.int 1)), (.o2 (.add .i64) (.v 2) (.int 1)), (.o3 .set (.v 3) (.o2 (.sub .i64) (.o1 .len (.v 3)) (.int 1)) (.o2 .cat (.o2 .idx (.v 3) (.o2 (.sub .i64) (.o1 .len (.v 3)) (.int 1))) (.v 5)))])))))))
            (.back 0 [(.o2 (.add .i64) (.v 1) (.int 1)), (.v 2), (.v 3)])))
        (.br (.o2 .eqi (.v 4) (.int 1))
          (.call 0 [(.cons (.o2 .idx (.v 0) (.v 1)) .nil)]
            (.req (.o2 .lei (.o1 .len (.o2 .app (.v 3) (.cons (.v 5) .nil))) (.int 1099511627776)) (.back 0 [(.o2 (.add .i64) (.v 1) (.int 1)), (.int 0), (.o2 .app (.v 3) (.cons (.v 5) .nil))])))
          (.br (.o2 .eqi (.v 4) (.int 2))
            (.call 0 [(.cons (.o2 .idx (.v 0) (.v 1)) .nil)]
              (.req (.o2 .lei (.o1 .len (.o2 .app (.v 3) (.cons (.v 5) .nil))) (.int 1099511627776)) (.back 0 [(.o2 (.add .i64) (.v 1) (.int 1)), (.int 0), (.o2 .app (.v 3) (.cons (.v 5) .nil))])))
            (.back 0 [(.o2 (.add .i64) (.v 1) (.int 1)), (.v 2), (.v 3)])))))))
    (.ret (.v 3))))
set_option maxRecDepth 100000 in
theorem tree_cluster_Split : fnTree cx_cluster_Split 4 sg_cluster_Split Tryd.f14 (Tryd.f14.body.getD .skip) = tr_cluster_Split := by kernel_rfl
theorem cxok_cluster_Split {Γ : CEnv} (hg : ∀ n, Γ.glob n = globT n) (hs : ∀ s ∈ cx_cluster_Split.sigs, Contract Tryd.prog Γ gtab s (Γ.pre s.no) (Γ.post s.no)) : CxOk cx_cluster_Split Γ := ⟨by kernel_rfl, hs, fun x hx => by
  simp only [cx_cluster_Split, List.mem_cons, List.not_mem_nil, or_false] at hx
  rcases hx with rfl
  · exact ⟨Tryd.func31, by kernel_rfl⟩⟩
theorem contract_cluster_Split {Γ : CEnv} (hg : ∀ n, Γ.glob n = globT n) (hs : ∀ s ∈ cx_cluster_Split.sigs, Contract Tryd.prog Γ gtab s (Γ.pre s.no) (Γ.post s.no)) (k : Nat) {pre : List TV → Prop} {post : List TV → TV → Prop} (h : ∀ ts, ts.length = 1 → pre ts → tr_cluster_Split.den Γ (post ts) ts []) : Contract Tryd.prog Γ gtab (sn_cluster_Split k) pre post :=
  Contract.renum (contract_of (cxok_cluster_Split hg hs) 4 sg_cluster_Split Tryd.func14 (by kernel_rfl) (by kernel_rfl) fun ts hl hp => by rw [tree_cluster_Split]; exact h ts hl hp) k

/-! narrator/narratorref03.encode -/
def sg_ref03_encode : Sig := ⟨33, 0, [(false, [(.int .i32)])], [(false, [(.str, none)])]⟩
def sn_ref03_encode (k : Nat) : Sig := ⟨sg_ref03_encode.f, k, sg_ref03_encode.args, sg_ref03_encode.res⟩
def hd_ref03_encode : List (FuncId × Nat × Head) := []
def pl_ref03_encode : List (FuncId × Nat × Nat × Plan) := []
noncomputable def cx_ref03_encode : Cx := ⟨Tryd.prog, gtab, [sn_ref01_Encode 0], [], hd_ref03_encode, pl_ref03_encode⟩
def tr_ref03_encode : Tree := (.call 0 [(.cons (.v 0) .nil)]
  (.ret (.v 1)))
set_option maxRecDepth 100000 in
theorem tree_ref03_encode : fnTree cx_ref03_encode 4 sg_ref03_encode Tryd.f33 (Tryd.f33.body.getD .skip) = tr_ref03_encode := by kernel_rfl
theorem cxok_ref03_encode {Γ : CEnv} (hg : ∀ n, Γ.glob n = globT n) (hs : ∀ s ∈ cx_ref03_encode.sigs, Contract Tryd.prog Γ gtab s (Γ.pre s.no) (Γ.post s.no)) : CxOk cx_ref03_encode Γ := ⟨by kernel_rfl, hs, fun x hx => by cases hx⟩
theorem contract_ref03_encode {Γ : CEnv} (hg : ∀ n, Γ.glob n = globT n) (hs : ∀ s ∈ cx_ref03_encode.sigs, Contract Tryd.prog Γ gtab s (Γ.pre s.no) (Γ.post s.no)) (k : Nat) {pre : List TV → Prop} {post : List TV → TV → Prop} (h : ∀ ts, ts.length = 1 → pre ts → tr_ref03_encode.den Γ (post ts) ts []) : Contract Tryd.prog Γ gtab (sn_ref03_encode k) pre post :=
  Contract.renum (contract_of (cxok_ref03_encode hg hs) 4 sg_ref03_encode Tryd.func33 (by kernel_rfl) (by kernel_rfl) fun ts hl hp => by rw [tree_ref03_encode]; exact h ts hl hp) k

/-! narrator/narratorref03.Characters -/
def sg_ref03_Characters : Sig := ⟨24, 0, [(false, [.str])], [(false, [((.slice false [(.int .i32)]), some 21)])]⟩
def sn_ref03_Characters (k : Nat) : Sig := ⟨sg_ref03_Characters.f, k, sg_ref03_Characters.args, sg_ref03_Characters.res⟩
def hd_ref03_Characters : List (FuncId × Nat × Head) := []
def pl_ref03_Characters : List (FuncId × Nat × Nat × Plan) := []
noncomputable def cx_ref03_Characters : Cx := ⟨Tryd.prog, gtab, [sn_ref01_Decode 0], [], hd_ref03_Characters, pl_ref03_Characters⟩
def tr_ref03_Characters : Tree := (.call 0 [(.str []), (.v 0)]
  (.ret (.o1 (.proj 0) (.v 1))))
set_option maxRecDepth 100000 in
theorem tree_ref03_Characters : fnTree cx_ref03_Characters 4 sg_ref03_Characters Tryd.f24 (Tryd.f24.body.getD .skip) = tr_ref03_Characters := by kernel_rfl
theorem cxok_ref03_Characters {Γ : CEnv} (hg : ∀ n, Γ.glob n = globT n) (hs : ∀ s ∈ cx_ref03_Characters.sigs, Contract Tryd.prog Γ gtab s (Γ.pre s.no) (Γ.post s.no)) : CxOk cx_ref03_Characters Γ := ⟨by kernel_rfl, hs, fun x hx => by cases hx⟩
theorem contract_ref03_Characters {Γ : CEnv} (hg : ∀ n, Γ.glob n = globT n) (hs : ∀ s ∈ cx_ref03_Characters.sigs, Contract Tryd.prog Γ gtab s (Γ.pre s.no) (Γ.post s.no)) (k : Nat) {pre : List TV → Prop} {post : List TV → TV → Prop} (h : ∀ ts, ts.length = 1 → pre ts → tr_ref03_Characters.den Γ (post ts) ts []) : Contract Tryd.prog Γ gtab (sn_ref03_Characters k) pre post :=
  Contract.renum (contract_of (cxok_ref03_Characters hg hs) 4 sg_ref03_Characters Tryd.func24 (by kernel_rfl) (by kernel_rfl) fun ts hl hp => by rw [tree_ref03_Characters]; exact h ts hl hp) k

/-! narrator/narratorref03.Check -/
def sg_ref03_Check : Sig := ⟨20, 0, [(false, [.str])], [(false, [((.int .i64), none)])]⟩
def sn_ref03_Check (k : Nat) : Sig := ⟨sg_ref03_Check.f, k, sg_ref03_Check.args, sg_ref03_Check.res⟩
def hd_ref03_Check : List (FuncId × Nat × Head) := [(20, 7, ⟨[3, 4], [.slot 3 true 21 false [(.int .i32)]], [4], [], []⟩)]
def pl_ref03_Check : List (FuncId × Nat × Nat × Plan) := []
noncomputable def cx_ref03_Check : Cx := ⟨Tryd.prog, gtab, [sn_ref01_Valid 0, sn_ref02_Mark 1, sn_ref02_Width 2, sn_ref03_Characters 3], [], hd_ref03_Check, pl_ref03_Check⟩
def tr_ref03_Check : Tree := (.br (.o2 .eqs (.v 0) (.str []))
  (.ret (.int 3))
  (.call 0 [(.v 0)]
    (.br (.o1 .no (.v 1))
      (.ret (.int 3))
      (.call 3 [(.v 0)]
        (.req (.o2 .lti (.int 0) (.o1 .len (.v 2))) (.call 1 [(.o2 .idx (.v 2) (.int 0))]
          (.br (.v 3)
            (.ret (.int 9))
            (.req (.o2 .lti (.int 0) (.o1 .len (.v 2))) (.call 2 [(.o2 .idx (.v 2) (.int 0))]
              (.br (.o2 .lti (.v 4) (.int 1))
                (.ret (.int 9))
                (.loop [(.int 1)]
                  (.br (.o2 .lti (.v 5) (.o1 .len (.v 2)))
                    (.req (.o2 .lei (.int 0) (.v 5)) (.req (.o2 .lti (.v 5) (.o1 .len (.v 2))) (.call 1 [(.o2 .idx (.v 2) (.v 5))]
                      (.br (.o1 .no (.v 6))
                        (.ret (.int 9))
                        (.back 0 [(.o2 (.add .i64) (.v 5) (.int 1))])))))
                    (.br (.o2 .lti (.int 4) (.o1 .len (.v 2)))
                      (.ret (.int 5))
                      (.ret (.int 0)))))))))))))))
set_option maxRecDepth 100000 in
theorem tree_ref03_Check : fnTree cx_ref03_Check 4 sg_ref03_Check Tryd.f20 (Tryd.f20.body.getD .skip) = tr_ref03_Check := by kernel_rfl
theorem cxok_ref03_Check {Γ : CEnv} (hg : ∀ n, Γ.glob n = globT n) (hs : ∀ s ∈ cx_ref03_Check.sigs, Contract Tryd.prog Γ gtab s (Γ.pre s.no) (Γ.post s.no)) : CxOk cx_ref03_Check Γ := ⟨by kernel_rfl, hs, fun x hx => by cases hx⟩
theorem contract_ref03_Check {Γ : CEnv} (hg : ∀ n, Γ.glob n = globT n) (hs : ∀ s ∈ cx_ref03_Check.sigs, Contract Tryd.prog Γ gtab s (Γ.pre s.no) (Γ.post s.no)) (k : Nat) {pre : List TV → Prop} {post : List TV → TV → Prop} (h : ∀ ts, ts.length = 1 → pre ts → tr_ref03_Check.den Γ (post ts) ts []) : Contract Tryd.prog Γ gtab (sn_ref03_Check k) pre post :=
  Contract.renum (contract_of (cxok_ref03_Check hg hs) 4 sg_ref03_Check Tryd.func20 (by kernel_rfl) (by kernel_rfl) fun ts hl hp => by rw [tree_ref03_Check]; exact h ts hl hp) k

/-! narrator/narratorref03.Width -/
def sg_ref03_Width : Sig := ⟨21, 0, [(false, [.str])], [(false, [((.int .i64), none)])]⟩
def sn_ref03_Width (k : Nat) : Sig := ⟨sg_ref03_Width.f, k, sg_ref03_Width.args, sg_ref03_Width.res⟩
def hd_ref03_Width : List (FuncId × Nat × Head) := []
def pl_ref03_Width : List (FuncId × Nat × Nat × Plan) := []
noncomputable def cx_ref03_Width : Cx := ⟨Tryd.prog, gtab, [sn_ref02_Width 0, sn_ref03_Characters 1, sn_ref03_Check 2], [], hd_ref03_Width, pl_ref03_Width⟩
def tr_ref03_Width : Tree := (.call 2 [(.v 0)]
  (.br (.o1 .no (.o2 .eqi (.v 1) (.int 0)))
    (.ret (.int 0))
    (.call 1 [(.v 0)]
      (.req (.o2 .lti (.int 0) (.o1 .len (.v 2))) (.call 0 [(.o2 .idx (.v 2) (.int 0))]
        (.ret (.v 3)))))))
set_option maxRecDepth 100000 in
theorem tree_ref03_Width : fnTree cx_ref03_Width 4 sg_ref03_Width Tryd.f21 (Tryd.f21.body.getD .skip) = tr_ref03_Width := by kernel_rfl
theorem cxok_ref03_Width {Γ : CEnv} (hg : ∀ n, Γ.glob n = globT n) (hs : ∀ s ∈ cx_ref03_Width.sigs, Contract Tryd.prog Γ gtab s (Γ.pre s.no) (Γ.post s.no)) : CxOk cx_ref03_Width Γ := ⟨by kernel_rfl, hs, fun x hx => by cases hx⟩
theorem contract_ref03_Width {Γ : CEnv} (hg : ∀ n, Γ.glob n = globT n) (hs : ∀ s ∈ cx_ref03_Width.sigs, Contract Tryd.prog Γ gtab s (Γ.pre s.no) (Γ.post s.no)) (k : Nat) {pre : List TV → Prop} {post : List TV → TV → Prop} (h : ∀ ts, ts.length = 1 → pre ts → tr_ref03_Width.den Γ (post ts) ts []) : Contract Tryd.prog Γ gtab (sn_ref03_Width k) pre post :=
  Contract.renum (contract_of (cxok_ref03_Width hg hs) 4 sg_ref03_Width Tryd.func21 (by kernel_rfl) (by kernel_rfl) fun ts hl hp => by rw [tree_ref03_Width]; exact h ts hl hp) k

/-! narrator/narratorref03.Attach -/
def sg_ref03_Attach : Sig := ⟨28, 0, [(false, [.str]), (false, [(.int .i32)])], [(false, [(.str, none)]), (false, [((.int .i64), none)])]⟩
def sn_ref03_Attach (k : Nat) : Sig := ⟨sg_ref03_Attach.f, k, sg_ref03_Attach.args, sg_ref03_Attach.res⟩
def hd_ref03_Attach : List (FuncId × Nat × Head) := []
def pl_ref03_Attach : List (FuncId × Nat × Nat × Plan) := []
noncomputable def cx_ref03_Attach : Cx := ⟨Tryd.prog, gtab, [sn_ref02_Mark 0, sn_ref03_encode 1, sn_ref03_Characters 2, sn_ref03_Check 3], [], hd_ref03_Attach, pl_ref03_Attach⟩
def tr_ref03_Attach : Tree := (.call 3 [(.v 0)]
  (.br (.o1 .no (.o2 .eqi (.v 2) (.int 0)))
    (.ret (.o1 .agg (.cons (.str []) (.cons (.v 2) .nil))))
    (.call 0 [(.v 1)]
      (.br (.o1 .no (.v 3))
        (.ret (.o1 .agg (.cons (.str []) (.cons (.int 9) .nil))))
        (.call 2 [(.v 0)]
          (.br (.o2 .eqi (.o1 .len (.v 4)) (.int 4))
            (.ret (.o1 .agg (.cons (.str []) (.cons (.int 5) .nil))))
            (.call 1 [(.v 1)]
              (.req (.o2 .lei (.o1 .slen (.o2 .cat (.v 0) (.v 5))) (.int 9223372036854775807)) (.ret (.o1 .agg (.cons (.o2 .cat (.v 0) (.v 5)) (.cons (.int 0) .nil))))))))))))
set_option maxRecDepth 100000 in
theorem tree_ref03_Attach : fnTree cx_ref03_Attach 4 sg_ref03_Attach Tryd.f28 (Tryd.f28.body.getD .skip) = tr_ref03_Attach := by kernel_rfl
theorem cxok_ref03_Attach {Γ : CEnv} (hg : ∀ n, Γ.glob n = globT n) (hs : ∀ s ∈ cx_ref03_Attach.sigs, Contract Tryd.prog Γ gtab s (Γ.pre s.no) (Γ.post s.no)) : CxOk cx_ref03_Attach Γ := ⟨by kernel_rfl, hs, fun x hx => by cases hx⟩
theorem contract_ref03_Attach {Γ : CEnv} (hg : ∀ n, Γ.glob n = globT n) (hs : ∀ s ∈ cx_ref03_Attach.sigs, Contract Tryd.prog Γ gtab s (Γ.pre s.no) (Γ.post s.no)) (k : Nat) {pre : List TV → Prop} {post : List TV → TV → Prop} (h : ∀ ts, ts.length = 2 → pre ts → tr_ref03_Attach.den Γ (post ts) ts []) : Contract Tryd.prog Γ gtab (sn_ref03_Attach k) pre post :=
  Contract.renum (contract_of (cxok_ref03_Attach hg hs) 4 sg_ref03_Attach Tryd.func28 (by kernel_rfl) (by kernel_rfl) fun ts hl hp => by rw [tree_ref03_Attach]; exact h ts hl hp) k

/-! narrator/narratorref03.Split -/
def sg_ref03_Split : Sig := ⟨15, 0, [(false, [(.slice false [(.int .i32)])])], [(false, [((.slice false [.str]), some 9)])]⟩
def sn_ref03_Split (k : Nat) : Sig := ⟨sg_ref03_Split.f, k, sg_ref03_Split.args, sg_ref03_Split.res⟩
def hd_ref03_Split : List (FuncId × Nat × Head) := [(15, 4, ⟨[0, 3, 4, 5], [.slot 3 true 9 false [.str]], [5, 4], [0], []⟩)]
def pl_ref03_Split : List (FuncId × Nat × Nat × Plan) := [(15, 11, 17, (.op true 0 (.op true 1 (.op true 2 (.op true 3 (.op true 4 (.op true 5 (.op true 6 (.op true 7 (.op true 8 (.op true 9 (.op true 10 (.op true 11 (.op true 12 (.op true 13 (.op false 14 (.op false 15 (.op true 16 .nil))))))))))))))))))]
noncomputable def cx_ref03_Split : Cx := ⟨Tryd.prog, gtab, [sn_ref02_Mark 0, sn_ref02_Width 1, sn_ref03_encode 2], [], hd_ref03_Split, pl_ref03_Split⟩
def tr_ref03_Split : Tree := (.loop [(.int 0), (.int 0), .nil]
  (.br (.o2 .lti (.v 2) (.o1 .len (.v 0)))
    (.req (.o2 .lei (.int 0) (.v 2)) (.req (.o2 .lti (.v 2) (.o1 .len (.v 0))) (.call 0 [(.o2 .idx (.v 0) (.v 2))]
      (.br (.v 4)
        (.br (.o2 .eqi (.o1 .len (.v 3)) (.int 0))
          (.req (.o2 .lei (.o1 .len (.o2 .app (.v 3) (.cons (.str [32]) .nil))) (.int 1099511627776)) (.req (.o2 .lei (.int 0) (.o2 (.sub .i64) (.o1 .len (.o2 .app (.v 3) (.cons (.str [32]) .nil))) (.int 1))) (.req (.o2 .lti (.o2 (.sub .i64) (.o1 .len (.o2 .app (.v 3) (.cons (.str [32]) .nil))) (.int 1)) (.o1 .len (.o2 .app (.v 3) (.cons (.str [32]) .nil)))) (.req (.o2 .lei (.int 0) (.v 2)) (.req (.o2 .lti (.v 2) (.o1 .len (.v 0))) (.call 2 [(.o2 .idx (.v 0) (.v 2))]
            (.req (.o2 .lei (.o1 .slen (.o2 .cat (.o2 .idx (.o2 .app (.v 3) (.cons (.str [32]) .nil)) (.o2 (.sub .i64) (.o1 .len (.o2 .app (.v 3) (.cons (.str [32]) .nil))) (.int 1))) (.v 5))) (.int 9223372036854775807)) (.req (.o2 .lei (.int 0) (.o2 (.sub .i64) (.o1 .len (.o2 .app (.v 3) (.cons (.str [32]) .nil))) (.int 1))) (.req (.o2 .lti (.o2 (.sub .i64) (.o1 .len (.o2 .app (.v 3) (.cons (.str [32]) .nil))) (.int 1)) (.o1 .len (.o2 .app (.v 3) (.cons (.str [32]) .nil)))) (.back 0 [(.int 1), (.o2 (.add .i64) (.v 2) (.int 1)), (.o3 .set (.o2 .app (.v 3) (.cons (.str [32]) .nil)) (.o2 (.sub .i64) (.o1 .len (.o2 .app (.v 3) (.cons (.str [32]) .nil))) (.int 1)) (.o2 .cat (.o2 .idx (.o2 .app (.v 3) (.cons (.str [32]) .nil)) (.o2 (.sub .i64) (.o1 .len (.o2 .app (.v 3) (.cons (.str [32]) .nil))) (.int 1))) (.v 5)))]))))))))))
          (.br (.o2 .lti (.v 1) (.int 3))
            (.req (.o2 .lei (.int 0) (.o2 (.sub .i64) (.o1 .len (.v 3)) (.int 1))) (.req (.o2 .lti (.o2 (.sub .i64) (.o1 .len (.v 3)) (.int 1)) (.o1 .len (.v 3))) (.req (.o2 .lei (.int 0) (.v 2)) (.req (.o2 .lti (.v 2) (.o1 .len (.v 0))) (.call 2 [(.o2 .idx (.v 0) (.v 2))]
              (.req (.o2 .lei (.o1 .slen (.o2 .cat (.o2 .idx (.v 3) (.o2 (.sub .i64) (.o1 .len (.v 3)) (.int 1))) (.v 5))) (.int 9223372036854775807)) (.req (.o2 .lei (.int 0) (.o2 (.sub .i64) (.o1 .len (.v 3)) (.int 1))) (.req (.o2 .lti (.o2 (.sub .i64) (.o1 .len (.v 3)) (.int 1)) (.o1 .len (.v 3))) (.back 0 [(.o2 (.add .i64) (.v 1) (.int 1)), (.o2 (.add .i64) (.v 2) (.int 1)), (.o3 .set (.v 3) (.o2 (.sub .i64) (.o1 .len (.v 3)) (.int 1)) (.o2 .cat (.o2 .idx (.v 3) (.o2 (.sub .i64) (.o1 .len (.v 3)) (.int 1))) (.v 5)))])))))))))
            (.back 0 [(.v 1), (.o2 (.add .i64) (.v 2) (.int 1)), (.v 3)])))
        (.req (.o2 .lei (.int 0) (.v 2)) (.req (.o2 .lti (.v 2) (.o1 .len (.v 0))) (.call 1 [(.o2 .idx (.v 0) (.v 2))]
          (.br (.o2 .lti (.v 5) (.int 1))
            (.back 0 [(.v 1), (.o2 (.add .i64) (.v 2) (.int 1)), (.v 3)])
            (.req (.o2 .lei (.int 0) (.v 2)) (.req (.o2 .lti (.v 2) (.o1 .len (.v 0))) (.call 2 [(.o2 .idx (.v 0) (.v 2))]
              (.req (.o2 .lei (.o1 .len (.o2 .app (.v 3) (.cons (.v 6) .nil))) (.int 1099511627776)) (.back 0 [(.int 0), (.o2 (.add .i64) (.v 2) (.int 1)), (.o2 .app (.v 3) (.cons (.v 6) .nil))])))))))))))))
    (.ret (.v 3))))
set_option maxRecDepth 100000 in
theorem tree_ref03_Split : fnTree cx_ref03_Split 4 sg_ref03_Split Tryd.f15 (Tryd.f15.body.getD .skip) = tr_ref03_Split := by kernel_rfl
theorem cxok_ref03_Split {Γ : CEnv} (hg : ∀ n, Γ.glob n = globT n) (hs : ∀ s ∈ cx_ref03_Split.sigs, Contract Tryd.prog Γ gtab s (Γ.pre s.no) (Γ.post s.no)) : CxOk cx_ref03_Split Γ := ⟨by kernel_rfl, hs, fun x hx => by cases hx⟩
theorem contract_ref03_Split {Γ : CEnv} (hg : ∀ n, Γ.glob n = globT n) (hs : ∀ s ∈ cx_ref03_Split.sigs, Contract Tryd.prog Γ gtab s (Γ.pre s.no) (Γ.post s.no)) (k : Nat) {pre : List TV → Prop} {post : List TV → TV → Prop} (h : ∀ ts, ts.length = 1 → pre ts → tr_ref03_Split.den Γ (post ts) ts []) : Contract Tryd.prog Γ gtab (sn_ref03_Split k) pre post :=
  Contract.renum (contract_of (cxok_ref03_Split hg hs) 4 sg_ref03_Split Tryd.func15 (by kernel_rfl) (by kernel_rfl) fun ts hl hp => by rw [tree_ref03_Split]; exact h ts hl hp) k

/-! narrator/narratorref03.Same -/
def sg_ref03_Same : Sig := ⟨13, 0, [(false, [(.slice false [.str])]), (false, [(.slice false [.str])])], [(false, [(.bool, none)])]⟩
def sn_ref03_Same (k : Nat) : Sig := ⟨sg_ref03_Same.f, k, sg_ref03_Same.args, sg_ref03_Same.res⟩
def hd_ref03_Same : List (FuncId × Nat × Head) := [(13, 4, ⟨[0, 1, 5], [], [5], [], []⟩)]
def pl_ref03_Same : List (FuncId × Nat × Nat × Plan) := [(13, 6, 9, (.op true 0 (.op true 1 (.op true 2 (.op true 3 (.op true 4 (.op true 5 (.op true 6 (.op true 7 (.op true 8 .nil))))))))))]
noncomputable def cx_ref03_Same : Cx := ⟨Tryd.prog, gtab, [], [], hd_ref03_Same, pl_ref03_Same⟩
def tr_ref03_Same : Tree := (.br (.o1 .no (.o2 .eqi (.o1 .len (.v 0)) (.o1 .len (.v 1))))
  (.ret (.bool false))
  (.loop [(.int 0)]
    (.br (.o2 .lti (.v 2) (.o1 .len (.v 0)))
      (.req (.o2 .lei (.int 0) (.v 2)) (.req (.o2 .lti (.v 2) (.o1 .len (.v 0))) (.req (.o2 .lei (.int 0) (.v 2)) (.req (.o2 .lti (.v 2) (.o1 .len (.v 1))) (.br (.o1 .no (.o2 .eqs (.o2 .idx (.v 0) (.v 2)) (.o2 .idx (.v 1) (.v 2))))
        (.ret (.bool false))
        (.back 0 [(.o2 (.add .i64) (.v 2) (.int 1))]))))))
      (.ret (.bool true)))))
set_option maxRecDepth 100000 in
theorem tree_ref03_Same : fnTree cx_ref03_Same 4 sg_ref03_Same Tryd.f13 (Tryd.f13.body.getD .skip) = tr_ref03_Same := by kernel_rfl
theorem cxok_ref03_Same {Γ : CEnv} (hg : ∀ n, Γ.glob n = globT n) (hs : ∀ s ∈ cx_ref03_Same.sigs, Contract Tryd.prog Γ gtab s (Γ.pre s.no) (Γ.post s.no)) : CxOk cx_ref03_Same Γ := ⟨by kernel_rfl, hs, fun x hx => by cases hx⟩
theorem contract_ref03_Same {Γ : CEnv} (hg : ∀ n, Γ.glob n = globT n) (hs : ∀ s ∈ cx_ref03_Same.sigs, Contract Tryd.prog Γ gtab s (Γ.pre s.no) (Γ.post s.no)) (k : Nat) {pre : List TV → Prop} {post : List TV → TV → Prop} (h : ∀ ts, ts.length = 2 → pre ts → tr_ref03_Same.den Γ (post ts) ts []) : Contract Tryd.prog Γ gtab (sn_ref03_Same k) pre post :=
  Contract.renum (contract_of (cxok_ref03_Same hg hs) 4 sg_ref03_Same Tryd.func13 (by kernel_rfl) (by kernel_rfl) fun ts hl hp => by rw [tree_ref03_Same]; exact h ts hl hp) k

/-! narrator/narratorlaw03.awake -/
def sg_law03_awake : Sig := ⟨12, 0, [], [(false, [(.bool, none)])]⟩
def sn_law03_awake (k : Nat) : Sig := ⟨sg_law03_awake.f, k, sg_law03_awake.args, sg_law03_awake.res⟩
def hd_law03_awake : List (FuncId × Nat × Head) := []
def pl_law03_awake : List (FuncId × Nat × Nat × Plan) := []
noncomputable def cx_law03_awake : Cx := ⟨Tryd.prog, gtab, [sn_cluster_Width 0, sn_cluster_Split 1, sn_ref03_Same 2], [], hd_law03_awake, pl_law03_awake⟩
def tr_law03_awake : Tree := (.call 1 [(.cons (.int 101) (.cons (.int 769) (.cons (.int 7) (.cons (.int 120) (.cons (.int 28450) .nil)))))]
  (.call 2 [(.v 0), (.cons (.str [101, 204, 129]) (.cons (.str [120]) (.cons (.str [230, 188, 162]) .nil)))]
    (.br (.v 1)
      (.req (.o2 .lti (.int 2) (.o1 .len (.v 0))) (.call 0 [(.o2 .idx (.v 0) (.int 2))]
        (.br (.o2 .eqi (.v 2) (.int 2))
          (.call 1 [(.cons (.int 769) .nil)]
            (.call 2 [(.v 3), (.cons (.str [32, 204, 129]) .nil)]
              (.ret (.v 4))))
          (.ret (.bool false)))))
      (.ret (.bool false)))))
set_option maxRecDepth 100000 in
theorem tree_law03_awake : fnTree cx_law03_awake 4 sg_law03_awake Tryd.f12 (Tryd.f12.body.getD .skip) = tr_law03_awake := by kernel_rfl
theorem cxok_law03_awake {Γ : CEnv} (hg : ∀ n, Γ.glob n = globT n) (hs : ∀ s ∈ cx_law03_awake.sigs, Contract Tryd.prog Γ gtab s (Γ.pre s.no) (Γ.post s.no)) : CxOk cx_law03_awake Γ := ⟨by kernel_rfl, hs, fun x hx => by cases hx⟩
theorem contract_law03_awake {Γ : CEnv} (hg : ∀ n, Γ.glob n = globT n) (hs : ∀ s ∈ cx_law03_awake.sigs, Contract Tryd.prog Γ gtab s (Γ.pre s.no) (Γ.post s.no)) (k : Nat) {pre : List TV → Prop} {post : List TV → TV → Prop} (h : ∀ ts, ts.length = 0 → pre ts → tr_law03_awake.den Γ (post ts) ts []) : Contract Tryd.prog Γ gtab (sn_law03_awake k) pre post :=
  Contract.renum (contract_of (cxok_law03_awake hg hs) 4 sg_law03_awake Tryd.func12 (by kernel_rfl) (by kernel_rfl) fun ts hl hp => by rw [tree_law03_awake]; exact h ts hl hp) k

/-! narrator/narratorlaw03.join -/
def sg_law03_join : Sig := ⟨30, 0, [(false, [(.slice false [.str])])], [(false, [(.str, none)])]⟩
def sn_law03_join (k : Nat) : Sig := ⟨sg_law03_join.f, k, sg_law03_join.args, sg_law03_join.res⟩
def hd_law03_join : List (FuncId × Nat × Head) := [(30, 3, ⟨[0, 3, 4], [], [4, 3], [], []⟩)]
def pl_law03_join : List (FuncId × Nat × Nat × Plan) := []
noncomputable def cx_law03_join : Cx := ⟨Tryd.prog, gtab, [], [], hd_law03_join, pl_law03_join⟩
def tr_law03_join : Tree := (.loop [(.str []), (.int 0)]
  (.br (.o2 .lti (.v 2) (.o1 .len (.v 0)))
    (.req (.o2 .lei (.int 0) (.v 2)) (.req (.o2 .lti (.v 2) (.o1 .len (.v 0))) (.req (.o2 .lei (.o1 .slen (.o2 .cat (.v 1) (.o2 .idx (.v 0) (.v 2)))) (.int 9223372036854775807)) (.back 0 [(.o2 .cat (.v 1) (.o2 .idx (.v 0) (.v 2))), (.o2 (.add .i64) (.v 2) (.int 1))]))))
    (.ret (.v 1))))
set_option maxRecDepth 100000 in
theorem tree_law03_join : fnTree cx_law03_join 4 sg_law03_join Tryd.f30 (Tryd.f30.body.getD .skip) = tr_law03_join := by kernel_rfl
theorem cxok_law03_join {Γ : CEnv} (hg : ∀ n, Γ.glob n = globT n) (hs : ∀ s ∈ cx_law03_join.sigs, Contract Tryd.prog Γ gtab s (Γ.pre s.no) (Γ.post s.no)) : CxOk cx_law03_join Γ := ⟨by kernel_rfl, hs, fun x hx => by cases hx⟩
theorem contract_law03_join {Γ : CEnv} (hg : ∀ n, Γ.glob n = globT n) (hs : ∀ s ∈ cx_law03_join.sigs, Contract Tryd.prog Γ gtab s (Γ.pre s.no) (Γ.post s.no)) (k : Nat) {pre : List TV → Prop} {post : List TV → TV → Prop} (h : ∀ ts, ts.length = 1 → pre ts → tr_law03_join.den Γ (post ts) ts []) : Contract Tryd.prog Γ gtab (sn_law03_join k) pre post :=
  Contract.renum (contract_of (cxok_law03_join hg hs) 4 sg_law03_join Tryd.func30 (by kernel_rfl) (by kernel_rfl) fun ts hl hp => by rw [tree_law03_join]; exact h ts hl hp) k
end Go.Proofs.YtnbbepgmnbmfdaaDoor

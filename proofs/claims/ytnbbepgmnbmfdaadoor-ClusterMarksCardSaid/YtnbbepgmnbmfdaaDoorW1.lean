/- Written by a program of ours (Gen): the trees of the symbolic runs of functions, and their contracts' frames. -/
import Derived.Test.YtnbbepgmnbmfdaaDoorU1
namespace Go.Proofs.YtnbbepgmnbmfdaaDoor
set_option linter.unusedVariables false
set_option linter.unusedSimpArgs false

/-! narrator/narratorref02.Marks -/
def sg_ref02_Marks : Sig := ⟨46, 0, [], [(false, [((.slice true [(.int .i32), (.int .i32)]), some 59)])]⟩
def sn_ref02_Marks (k : Nat) : Sig := ⟨sg_ref02_Marks.f, k, sg_ref02_Marks.args, sg_ref02_Marks.res⟩
def hd_ref02_Marks : List (FuncId × Nat × Head) := []
def pl_ref02_Marks : List (FuncId × Nat × Nat × Plan) := []
noncomputable def cx_ref02_Marks : Cx := ⟨Tryd.prog, gtab, [], [], hd_ref02_Marks, pl_ref02_Marks⟩
def tr_ref02_Marks : Tree := (.ret (.cons (.o1 .agg (.cons (.int 768) (.cons (.int 879) .nil))) (.cons (.o1 .agg (.cons (.int 6832) (.cons (.int 6911) .nil))) (.cons (.o1 .agg (.cons (.int 7616) (.cons (.int 7679) .nil))) (.cons (.o1 .agg (.cons (.int 8203) (.cons (.int 8207) .nil))) (.cons (.o1 .agg (.cons (.int 8400) (.cons (.int 8447) .nil))) (.cons (.o1 .agg (.cons (.int 65024) (.cons (.int 65039) .nil))) (.cons (.o1 .agg (.cons (.int 65056) (.cons (.int 65071) .nil))) .nil))))))))
set_option maxRecDepth 100000 in
theorem tree_ref02_Marks : fnTree cx_ref02_Marks 4 sg_ref02_Marks Tryd.f46 (Tryd.f46.body.getD .skip) = tr_ref02_Marks := by kernel_rfl
theorem cxok_ref02_Marks {Γ : CEnv} (hg : ∀ n, Γ.glob n = globT n) (hs : ∀ s ∈ cx_ref02_Marks.sigs, Contract Tryd.prog Γ gtab s (Γ.pre s.no) (Γ.post s.no)) : CxOk cx_ref02_Marks Γ := ⟨by kernel_rfl, hs, fun x hx => by cases hx⟩
theorem contract_ref02_Marks {Γ : CEnv} (hg : ∀ n, Γ.glob n = globT n) (hs : ∀ s ∈ cx_ref02_Marks.sigs, Contract Tryd.prog Γ gtab s (Γ.pre s.no) (Γ.post s.no)) (k : Nat) {pre : List TV → Prop} {post : List TV → TV → Prop} (h : ∀ ts, ts.length = 0 → pre ts → tr_ref02_Marks.den Γ (post ts) ts []) : Contract Tryd.prog Γ gtab (sn_ref02_Marks k) pre post :=
  Contract.renum (contract_of (cxok_ref02_Marks hg hs) 4 sg_ref02_Marks Tryd.func46 (by kernel_rfl) (by kernel_rfl) fun ts hl hp => by rw [tree_ref02_Marks]; exact h ts hl hp) k

/-! narrator/narratorref02.in -/
def sg_ref02_in : Sig := ⟨45, 0, [(false, [(.slice true [(.int .i32), (.int .i32)])]), (false, [(.int .i32)])], [(false, [(.bool, none)])]⟩
def sn_ref02_in (k : Nat) : Sig := ⟨sg_ref02_in.f, k, sg_ref02_in.args, sg_ref02_in.res⟩
def hd_ref02_in : List (FuncId × Nat × Head) := [(45, 2, ⟨[0, 1, 5], [], [5], [], []⟩)]
def pl_ref02_in : List (FuncId × Nat × Nat × Plan) := []
noncomputable def cx_ref02_in : Cx := ⟨Tryd.prog, gtab, [], [], hd_ref02_in, pl_ref02_in⟩
def tr_ref02_in : Tree := (.loop [(.int 0)]
  (.br (.o2 .lti (.v 2) (.o1 .len (.v 0)))
    (.req (.o2 .lei (.int 0) (.v 2)) (.req (.o2 .lti (.v 2) (.o1 .len (.v 0))) (.br (.o2 .lei (.o1 (.proj 0) (.o2 .idx (.v 0) (.v 2))) (.v 1))
      (.req (.o2 .lei (.int 0) (.v 2)) (.req (.o2 .lti (.v 2) (.o1 .len (.v 0))) (.br (.o2 .lei (.v 1) (.o1 (.proj 1) (.o2 .idx (.v 0) (.v 2))))
        (.ret (.bool true))
        (.back 0 [(.o2 (.add .i64) (.v 2) (.int 1))]))))
      (.back 0 [(.o2 (.add .i64) (.v 2) (.int 1))]))))
    (.ret (.bool false))))
set_option maxRecDepth 100000 in
theorem tree_ref02_in : fnTree cx_ref02_in 4 sg_ref02_in Tryd.f45 (Tryd.f45.body.getD .skip) = tr_ref02_in := by kernel_rfl
theorem cxok_ref02_in {Γ : CEnv} (hg : ∀ n, Γ.glob n = globT n) (hs : ∀ s ∈ cx_ref02_in.sigs, Contract Tryd.prog Γ gtab s (Γ.pre s.no) (Γ.post s.no)) : CxOk cx_ref02_in Γ := ⟨by kernel_rfl, hs, fun x hx => by cases hx⟩
theorem contract_ref02_in {Γ : CEnv} (hg : ∀ n, Γ.glob n = globT n) (hs : ∀ s ∈ cx_ref02_in.sigs, Contract Tryd.prog Γ gtab s (Γ.pre s.no) (Γ.post s.no)) (k : Nat) {pre : List TV → Prop} {post : List TV → TV → Prop} (h : ∀ ts, ts.length = 2 → pre ts → tr_ref02_in.den Γ (post ts) ts []) : Contract Tryd.prog Γ gtab (sn_ref02_in k) pre post :=
  Contract.renum (contract_of (cxok_ref02_in hg hs) 4 sg_ref02_in Tryd.func45 (by kernel_rfl) (by kernel_rfl) fun ts hl hp => by rw [tree_ref02_in]; exact h ts hl hp) k

/-! narrator/narratorref02.Mark -/
def sg_ref02_Mark : Sig := ⟨32, 0, [(false, [(.int .i32)])], [(false, [(.bool, none)])]⟩
def sn_ref02_Mark (k : Nat) : Sig := ⟨sg_ref02_Mark.f, k, sg_ref02_Mark.args, sg_ref02_Mark.res⟩
def hd_ref02_Mark : List (FuncId × Nat × Head) := []
def pl_ref02_Mark : List (FuncId × Nat × Nat × Plan) := []
noncomputable def cx_ref02_Mark : Cx := ⟨Tryd.prog, gtab, [sn_ref02_Marks 0, sn_ref02_in 1], [], hd_ref02_Mark, pl_ref02_Mark⟩
def tr_ref02_Mark : Tree := (.call 0 []
  (.call 1 [(.v 1), (.v 0)]
    (.ret (.v 2))))
set_option maxRecDepth 100000 in
theorem tree_ref02_Mark : fnTree cx_ref02_Mark 4 sg_ref02_Mark Tryd.f32 (Tryd.f32.body.getD .skip) = tr_ref02_Mark := by kernel_rfl
theorem cxok_ref02_Mark {Γ : CEnv} (hg : ∀ n, Γ.glob n = globT n) (hs : ∀ s ∈ cx_ref02_Mark.sigs, Contract Tryd.prog Γ gtab s (Γ.pre s.no) (Γ.post s.no)) : CxOk cx_ref02_Mark Γ := ⟨by kernel_rfl, hs, fun x hx => by cases hx⟩
theorem contract_ref02_Mark {Γ : CEnv} (hg : ∀ n, Γ.glob n = globT n) (hs : ∀ s ∈ cx_ref02_Mark.sigs, Contract Tryd.prog Γ gtab s (Γ.pre s.no) (Γ.post s.no)) (k : Nat) {pre : List TV → Prop} {post : List TV → TV → Prop} (h : ∀ ts, ts.length = 1 → pre ts → tr_ref02_Mark.den Γ (post ts) ts []) : Contract Tryd.prog Γ gtab (sn_ref02_Mark k) pre post :=
  Contract.renum (contract_of (cxok_ref02_Mark hg hs) 4 sg_ref02_Mark Tryd.func32 (by kernel_rfl) (by kernel_rfl) fun ts hl hp => by rw [tree_ref02_Mark]; exact h ts hl hp) k

/-! narrator/narratorref02.Wide -/
def sg_ref02_Wide : Sig := ⟨48, 0, [], [(false, [((.slice true [(.int .i32), (.int .i32)]), some 59)])]⟩
def sn_ref02_Wide (k : Nat) : Sig := ⟨sg_ref02_Wide.f, k, sg_ref02_Wide.args, sg_ref02_Wide.res⟩
def hd_ref02_Wide : List (FuncId × Nat × Head) := []
def pl_ref02_Wide : List (FuncId × Nat × Nat × Plan) := []
noncomputable def cx_ref02_Wide : Cx := ⟨Tryd.prog, gtab, [], [], hd_ref02_Wide, pl_ref02_Wide⟩
def tr_ref02_Wide : Tree := (.ret (.cons (.o1 .agg (.cons (.int 4352) (.cons (.int 4447) .nil))) (.cons (.o1 .agg (.cons (.int 11904) (.cons (.int 12350) .nil))) (.cons (.o1 .agg (.cons (.int 12353) (.cons (.int 13311) .nil))) (.cons (.o1 .agg (.cons (.int 13312) (.cons (.int 19903) .nil))) (.cons (.o1 .agg (.cons (.int 19968) (.cons (.int 40959) .nil))) (.cons (.o1 .agg (.cons (.int 40960) (.cons (.int 42191) .nil))) (.cons (.o1 .agg (.cons (.int 44032) (.cons (.int 55203) .nil))) (.cons (.o1 .agg (.cons (.int 63744) (.cons (.int 64255) .nil))) (.cons (.o1 .agg (.cons (.int 65072) (.cons (.int 65135) .nil))) (.cons (.o1 .agg (.cons (.int 65280) (.cons (.int 65376) .nil))) (.cons (.o1 .agg (.cons (.int 65504) (.cons (.int 65510) .nil))) (.cons (.o1 .agg (.cons (.int 127744) (.cons (.int 128591) .nil))) (.cons (.o1 .agg (.cons (.int 129280) (.cons (.int 129535) .nil))) (.cons (.o1 .agg (.cons (.int 131072) (.cons (.int 262141) .nil))) .nil)))))))))))))))
set_option maxRecDepth 100000 in
theorem tree_ref02_Wide : fnTree cx_ref02_Wide 4 sg_ref02_Wide Tryd.f48 (Tryd.f48.body.getD .skip) = tr_ref02_Wide := by kernel_rfl
theorem cxok_ref02_Wide {Γ : CEnv} (hg : ∀ n, Γ.glob n = globT n) (hs : ∀ s ∈ cx_ref02_Wide.sigs, Contract Tryd.prog Γ gtab s (Γ.pre s.no) (Γ.post s.no)) : CxOk cx_ref02_Wide Γ := ⟨by kernel_rfl, hs, fun x hx => by cases hx⟩
theorem contract_ref02_Wide {Γ : CEnv} (hg : ∀ n, Γ.glob n = globT n) (hs : ∀ s ∈ cx_ref02_Wide.sigs, Contract Tryd.prog Γ gtab s (Γ.pre s.no) (Γ.post s.no)) (k : Nat) {pre : List TV → Prop} {post : List TV → TV → Prop} (h : ∀ ts, ts.length = 0 → pre ts → tr_ref02_Wide.den Γ (post ts) ts []) : Contract Tryd.prog Γ gtab (sn_ref02_Wide k) pre post :=
  Contract.renum (contract_of (cxok_ref02_Wide hg hs) 4 sg_ref02_Wide Tryd.func48 (by kernel_rfl) (by kernel_rfl) fun ts hl hp => by rw [tree_ref02_Wide]; exact h ts hl hp) k

/-! narrator/narratorref02.Width -/
def sg_ref02_Width : Sig := ⟨34, 0, [(false, [(.int .i32)])], [(false, [((.int .i64), none)])]⟩
def sn_ref02_Width (k : Nat) : Sig := ⟨sg_ref02_Width.f, k, sg_ref02_Width.args, sg_ref02_Width.res⟩
def hd_ref02_Width : List (FuncId × Nat × Head) := []
def pl_ref02_Width : List (FuncId × Nat × Nat × Plan) := []
noncomputable def cx_ref02_Width : Cx := ⟨Tryd.prog, gtab, [sn_ref02_in 0, sn_ref02_Mark 1, sn_ref02_Wide 2], [], hd_ref02_Width, pl_ref02_Width⟩
def tr_ref02_Width : Tree := (.br (.o2 .lti (.v 0) (.int 32))
  (.ret (.int (-1)))
  (.br (.o2 .lei (.int 127) (.v 0))
    (.br (.o2 .lei (.v 0) (.int 159))
      (.ret (.int (-1)))
      (.call 1 [(.v 0)]
        (.br (.v 1)
          (.ret (.int 0))
          (.call 2 []
            (.call 0 [(.v 2), (.v 0)]
              (.br (.v 3)
                (.ret (.int 2))
                (.ret (.int 1))))))))
    (.call 1 [(.v 0)]
      (.br (.v 1)
        (.ret (.int 0))
        (.call 2 []
          (.call 0 [(.v 2), (.v 0)]
            (.br (.v 3)
              (.ret (.int 2))
              (.ret (.int 1)))))))))
set_option maxRecDepth 100000 in
theorem tree_ref02_Width : fnTree cx_ref02_Width 4 sg_ref02_Width Tryd.f34 (Tryd.f34.body.getD .skip) = tr_ref02_Width := by kernel_rfl
theorem cxok_ref02_Width {Γ : CEnv} (hg : ∀ n, Γ.glob n = globT n) (hs : ∀ s ∈ cx_ref02_Width.sigs, Contract Tryd.prog Γ gtab s (Γ.pre s.no) (Γ.post s.no)) : CxOk cx_ref02_Width Γ := ⟨by kernel_rfl, hs, fun x hx => by cases hx⟩
theorem contract_ref02_Width {Γ : CEnv} (hg : ∀ n, Γ.glob n = globT n) (hs : ∀ s ∈ cx_ref02_Width.sigs, Contract Tryd.prog Γ gtab s (Γ.pre s.no) (Γ.post s.no)) (k : Nat) {pre : List TV → Prop} {post : List TV → TV → Prop} (h : ∀ ts, ts.length = 1 → pre ts → tr_ref02_Width.den Γ (post ts) ts []) : Contract Tryd.prog Γ gtab (sn_ref02_Width k) pre post :=
  Contract.renum (contract_of (cxok_ref02_Width hg hs) 4 sg_ref02_Width Tryd.func34 (by kernel_rfl) (by kernel_rfl) fun ts hl hp => by rw [tree_ref02_Width]; exact h ts hl hp) k

/-! narrator/charwidth.marks -/
def sg_charwidth_marks : Sig := ⟨36, 0, [], [(false, [((.slice true [(.int .i32), (.int .i32)]), some 59)])]⟩
def sn_charwidth_marks (k : Nat) : Sig := ⟨sg_charwidth_marks.f, k, sg_charwidth_marks.args, sg_charwidth_marks.res⟩
def hd_charwidth_marks : List (FuncId × Nat × Head) := []
def pl_charwidth_marks : List (FuncId × Nat × Nat × Plan) := []
noncomputable def cx_charwidth_marks : Cx := ⟨Tryd.prog, gtab, [], [], hd_charwidth_marks, pl_charwidth_marks⟩
def tr_charwidth_marks : Tree := (.ret (.cons (.o1 .agg (.cons (.int 768) (.cons (.int 879) .nil))) (.cons (.o1 .agg (.cons (.int 6832) (.cons (.int 6911) .nil))) (.cons (.o1 .agg (.cons (.int 7616) (.cons (.int 7679) .nil))) (.cons (.o1 .agg (.cons (.int 8203) (.cons (.int 8207) .nil))) (.cons (.o1 .agg (.cons (.int 8400) (.cons (.int 8447) .nil))) (.cons (.o1 .agg (.cons (.int 65024) (.cons (.int 65039) .nil))) (.cons (.o1 .agg (.cons (.int 65056) (.cons (.int 65071) .nil))) .nil))))))))
set_option maxRecDepth 100000 in
theorem tree_charwidth_marks : fnTree cx_charwidth_marks 4 sg_charwidth_marks Tryd.f36 (Tryd.f36.body.getD .skip) = tr_charwidth_marks := by kernel_rfl
theorem cxok_charwidth_marks {Γ : CEnv} (hg : ∀ n, Γ.glob n = globT n) (hs : ∀ s ∈ cx_charwidth_marks.sigs, Contract Tryd.prog Γ gtab s (Γ.pre s.no) (Γ.post s.no)) : CxOk cx_charwidth_marks Γ := ⟨by kernel_rfl, hs, fun x hx => by cases hx⟩
theorem contract_charwidth_marks {Γ : CEnv} (hg : ∀ n, Γ.glob n = globT n) (hs : ∀ s ∈ cx_charwidth_marks.sigs, Contract Tryd.prog Γ gtab s (Γ.pre s.no) (Γ.post s.no)) (k : Nat) {pre : List TV → Prop} {post : List TV → TV → Prop} (h : ∀ ts, ts.length = 0 → pre ts → tr_charwidth_marks.den Γ (post ts) ts []) : Contract Tryd.prog Γ gtab (sn_charwidth_marks k) pre post :=
  Contract.renum (contract_of (cxok_charwidth_marks hg hs) 4 sg_charwidth_marks Tryd.func36 (by kernel_rfl) (by kernel_rfl) fun ts hl hp => by rw [tree_charwidth_marks]; exact h ts hl hp) k

/-! narrator/charwidth.Wide -/
def sg_charwidth_Wide : Sig := ⟨37, 0, [], [(false, [((.slice true [(.int .i32), (.int .i32)]), some 59)])]⟩
def sn_charwidth_Wide (k : Nat) : Sig := ⟨sg_charwidth_Wide.f, k, sg_charwidth_Wide.args, sg_charwidth_Wide.res⟩
def hd_charwidth_Wide : List (FuncId × Nat × Head) := []
def pl_charwidth_Wide : List (FuncId × Nat × Nat × Plan) := []
noncomputable def cx_charwidth_Wide : Cx := ⟨Tryd.prog, gtab, [], [], hd_charwidth_Wide, pl_charwidth_Wide⟩
def tr_charwidth_Wide : Tree := (.ret (.cons (.o1 .agg (.cons (.int 4352) (.cons (.int 4447) .nil))) (.cons (.o1 .agg (.cons (.int 11904) (.cons (.int 12350) .nil))) (.cons (.o1 .agg (.cons (.int 12353) (.cons (.int 13311) .nil))) (.cons (.o1 .agg (.cons (.int 13312) (.cons (.int 19903) .nil))) (.cons (.o1 .agg (.cons (.int 19968) (.cons (.int 40959) .nil))) (.cons (.o1 .agg (.cons (.int 40960) (.cons (.int 42191) .nil))) (.cons (.o1 .agg (.cons (.int 44032) (.cons (.int 55203) .nil))) (.cons (.o1 .agg (.cons (.int 63744) (.cons (.int 64255) .nil))) (.cons (.o1 .agg (.cons (.int 65072) (.cons (.int 65135) .nil))) (.cons (.o1 .agg (.cons (.int 65280) (.cons (.int 65376) .nil))) (.cons (.o1 .agg (.cons (.int 65504) (.cons (.int 65510) .nil))) (.cons (.o1 .agg (.cons (.int 127744) (.cons (.int 128591) .nil))) (.cons (.o1 .agg (.cons (.int 129280) (.cons (.int 129535) .nil))) (.cons (.o1 .agg (.cons (.int 131072) (.cons (.int 262141) .nil))) .nil)))))))))))))))
set_option maxRecDepth 100000 in
theorem tree_charwidth_Wide : fnTree cx_charwidth_Wide 4 sg_charwidth_Wide Tryd.f37 (Tryd.f37.body.getD .skip) = tr_charwidth_Wide := by kernel_rfl
theorem cxok_charwidth_Wide {Γ : CEnv} (hg : ∀ n, Γ.glob n = globT n) (hs : ∀ s ∈ cx_charwidth_Wide.sigs, Contract Tryd.prog Γ gtab s (Γ.pre s.no) (Γ.post s.no)) : CxOk cx_charwidth_Wide Γ := ⟨by kernel_rfl, hs, fun x hx => by cases hx⟩
theorem contract_charwidth_Wide {Γ : CEnv} (hg : ∀ n, Γ.glob n = globT n) (hs : ∀ s ∈ cx_charwidth_Wide.sigs, Contract Tryd.prog Γ gtab s (Γ.pre s.no) (Γ.post s.no)) (k : Nat) {pre : List TV → Prop} {post : List TV → TV → Prop} (h : ∀ ts, ts.length = 0 → pre ts → tr_charwidth_Wide.den Γ (post ts) ts []) : Contract Tryd.prog Γ gtab (sn_charwidth_Wide k) pre post :=
  Contract.renum (contract_of (cxok_charwidth_Wide hg hs) 4 sg_charwidth_Wide Tryd.func37 (by kernel_rfl) (by kernel_rfl) fun ts hl hp => by rw [tree_charwidth_Wide]; exact h ts hl hp) k

/-! narrator/charwidth.Mark -/
def sg_charwidth_Mark : Sig := ⟨16, 0, [(false, [(.int .i32)])], [(false, [(.bool, none)])]⟩
def sn_charwidth_Mark (k : Nat) : Sig := ⟨sg_charwidth_Mark.f, k, sg_charwidth_Mark.args, sg_charwidth_Mark.res⟩
def hd_charwidth_Mark : List (FuncId × Nat × Head) := [(49, 2, ⟨[0, 1, 4, 5], [.blk 0, .blk 1], [5, 4], [], []⟩)]
def pl_charwidth_Mark : List (FuncId × Nat × Nat × Plan) := [(49, 1, 4, (.op true 0 (.op true 1 (.op true 2 (.op true 3 .nil)))))]
noncomputable def cx_charwidth_Mark : Cx := ⟨Tryd.prog, gtab, [sn_charwidth_marks 0], [(49, Tryd.f49), (35, Tryd.f35)], hd_charwidth_Mark, pl_charwidth_Mark⟩
def tr_charwidth_Mark : Tree := (.call 0 []
  (.loop [(.int 0), (.o1 .len (.v 1))]
    (.br (.o2 .lti (.v 2) (.v 3))
      (.req (.o2 .lei (.int 0) (.o2 (.quo .i64) (.o2 (.add .i64) (.v 2) (.v 3)) (.int 2))) (.req (.o2 .lti (.o2 (.quo .i64) (.o2 (.add .i64) (.v 2) (.v 3)) (.int 2)) (.o1 .len (.v 1))) (.br (.o2 .lti (.o1 (.proj 1) (.o2 .idx (.v 1) (.o2 (.quo .i64) (.o2 (.add .i64) (.v 2) (.v 3)) (.int 2)))) (.v 0))
        (.back 0 [(.o2 (.add .i64) (.o2 (.quo .i64) (.o2 (.add .i64) (.v 2) (.v 3)) (.int 2)) (.int 1)), (.v 3)])
        (.back 0 [(.v 2), (.o2 (.quo .i64) (.o2 (.add .i64) (.v 2) (.v 3)) (.int 2))]))))
      (.br (.o2 .lti (.v 2) (.o1 .len (.v 1)))
        (.req (.o2 .lei (.int 0) (.v 2)) (.req (.o2 .lti (.v 2) (.o1 .len (.v 1))) (.ret (.o2 .lei (.o1 (.proj 0) (.o2 .idx (.v 1) (.v 2))) (.v 0)))))
        (.ret (.bool false))))))
set_option maxRecDepth 100000 in
theorem tree_charwidth_Mark : fnTree cx_charwidth_Mark 4 sg_charwidth_Mark Tryd.f16 (Tryd.f16.body.getD .skip) = tr_charwidth_Mark := by kernel_rfl
theorem cxok_charwidth_Mark {Γ : CEnv} (hg : ∀ n, Γ.glob n = globT n) (hs : ∀ s ∈ cx_charwidth_Mark.sigs, Contract Tryd.prog Γ gtab s (Γ.pre s.no) (Γ.post s.no)) : CxOk cx_charwidth_Mark Γ := ⟨by kernel_rfl, hs, fun x hx => by
  simp only [cx_charwidth_Mark, List.mem_cons, List.not_mem_nil, or_false] at hx
  rcases hx with rfl | rfl
  · exact ⟨Tryd.func49, by kernel_rfl⟩
  · exact ⟨Tryd.func35, by kernel_rfl⟩⟩
theorem contract_charwidth_Mark {Γ : CEnv} (hg : ∀ n, Γ.glob n = globT n) (hs : ∀ s ∈ cx_charwidth_Mark.sigs, Contract Tryd.prog Γ gtab s (Γ.pre s.no) (Γ.post s.no)) (k : Nat) {pre : List TV → Prop} {post : List TV → TV → Prop} (h : ∀ ts, ts.length = 1 → pre ts → tr_charwidth_Mark.den Γ (post ts) ts []) : Contract Tryd.prog Γ gtab (sn_charwidth_Mark k) pre post :=
  Contract.renum (contract_of (cxok_charwidth_Mark hg hs) 4 sg_charwidth_Mark Tryd.func16 (by kernel_rfl) (by kernel_rfl) fun ts hl hp => by rw [tree_charwidth_Mark]; exact h ts hl hp) k

/-! narrator/charwidth.Width -/
def sg_charwidth_Width : Sig := ⟨17, 0, [(false, [(.int .i32)])], [(false, [((.int .i64), none)])]⟩
def sn_charwidth_Width (k : Nat) : Sig := ⟨sg_charwidth_Width.f, k, sg_charwidth_Width.args, sg_charwidth_Width.res⟩
def hd_charwidth_Width : List (FuncId × Nat × Head) := [(49, 2, ⟨[0, 1, 4, 5], [.blk 0, .blk 1], [5, 4], [], []⟩)]
def pl_charwidth_Width : List (FuncId × Nat × Nat × Plan) := [(49, 1, 4, (.op true 0 (.op true 1 (.op true 2 (.op true 3 .nil)))))]
noncomputable def cx_charwidth_Width : Cx := ⟨Tryd.prog, gtab, [sn_charwidth_Wide 0, sn_charwidth_Mark 1], [(49, Tryd.f49), (35, Tryd.f35)], hd_charwidth_Width, pl_charwidth_Width⟩
def tr_charwidth_Width : Tree := (.br (.o2 .lti (.v 0) (.int 32))
  (.ret (.int (-1)))
  (.br (.o2 .lei (.int 127) (.v 0))
    (.br (.o2 .lei (.v 0) (.int 159))
      (.ret (.int (-1)))
      (.call 1 [(.v 0)]
        (.br (.v 1)
          (.ret (.int 0))
          (.call 0 []
            (.loop [(.int 0), (.o1 .len (.v 2))]
              (.br (.o2 .lti (.v 3) (.v 4))
                (.req (.o2 .lei (.int 0) (.o2 (.quo .i64) (.o2 (.add .i64) (.v 3) (.v 4)) (.int 2))) (.req (.o2 .lti (.o2 (.quo .i64) (.o2 (.add .i64) (.v 3) (.v 4)) (.int 2)) (.o1 .len (.v 2))) (.br (.o2 .lti (.o1 (.proj 1) (.o2 .idx (.v 2) (.o2 (.quo .i64) (.o2 (.add .i64) (.v 3) (.v 4)) (.int 2)))) (.v 0))
                  (.back 0 [(.o2 (.add .i64) (.o2 (.quo .i64) (.o2 (.add .i64) (.v 3) (.v 4)) (.int 2)) (.int 1)), (.v 4)])
                  (.back 0 [(.v 3), (.o2 (.quo .i64) (.o2 (.add .i64) (.v 3) (.v 4)) (.int 2))]))))
                (.br (.o2 .lti (.v 3) (.o1 .len (.v 2)))
                  (.req (.o2 .lei (.int 0) (.v 3)) (.req (.o2 .lti (.v 3) (.o1 .len (.v 2))) (.br (.o2 .lei (.o1 (.proj 0) (.o2 .idx (.v 2) (.v 3))) (.v 0))
                    (.ret (.int 2))
                    (.ret (.int 1)))))
                  (.ret (.int 1)))))))))
    (.call 1 [(.v 0)]
      (.br (.v 1)
        (.ret (.int 0))
        (.call 0 []
          (.loop [(.int 0), (.o1 .len (.v 2))]
            (.br (.o2 .lti (.v 3) (.v 4))
              (.req (.o2 .lei (.int 0) (.o2 (.quo .i64) (.o2 (.add .i64) (.v 3) (.v 4)) (.int 2))) (.req (.o2 .lti (.o2 (.quo .i64) (.o2 (.add .i64) (.v 3) (.v 4)) (.int 2)) (.o1 .len (.v 2))) (.br (.o2 .lti (.o1 (.proj 1) (.o2 .idx (.v 2) (.o2 (.quo .i64) (.o2 (.add .i64) (.v 3) (.v 4)) (.int 2)))) (.v 0))
                (.back 0 [(.o2 (.add .i64) (.o2 (.quo .i64) (.o2 (.add .i64) (.v 3) (.v 4)) (.int 2)) (.int 1)), (.v 4)])
                (.back 0 [(.v 3), (.o2 (.quo .i64) (.o2 (.add .i64) (.v 3) (.v 4)) (.int 2))]))))
              (.br (.o2 .lti (.v 3) (.o1 .len (.v 2)))
                (.req (.o2 .lei (.int 0) (.v 3)) (.req (.o2 .lti (.v 3) (.o1 .len (.v 2))) (.br (.o2 .lei (.o1 (.proj 0) (.o2 .idx (.v 2) (.v 3))) (.v 0))
                  (.ret (.int 2))
                  (.ret (.int 1)))))
                (.ret (.int 1))))))))))
set_option maxRecDepth 100000 in
theorem tree_charwidth_Width : fnTree cx_charwidth_Width 4 sg_charwidth_Width Tryd.f17 (Tryd.f17.body.getD .skip) = tr_charwidth_Width := by kernel_rfl
theorem cxok_charwidth_Width {Γ : CEnv} (hg : ∀ n, Γ.glob n = globT n) (hs : ∀ s ∈ cx_charwidth_Width.sigs, Contract Tryd.prog Γ gtab s (Γ.pre s.no) (Γ.post s.no)) : CxOk cx_charwidth_Width Γ := ⟨by kernel_rfl, hs, fun x hx => by
  simp only [cx_charwidth_Width, List.mem_cons, List.not_mem_nil, or_false] at hx
  rcases hx with rfl | rfl
  · exact ⟨Tryd.func49, by kernel_rfl⟩
  · exact ⟨Tryd.func35, by kernel_rfl⟩⟩
theorem contract_charwidth_Width {Γ : CEnv} (hg : ∀ n, Γ.glob n = globT n) (hs : ∀ s ∈ cx_charwidth_Width.sigs, Contract Tryd.prog Γ gtab s (Γ.pre s.no) (Γ.post s.no)) (k : Nat) {pre : List TV → Prop} {post : List TV → TV → Prop} (h : ∀ ts, ts.length = 1 → pre ts → tr_charwidth_Width.den Γ (post ts) ts []) : Contract Tryd.prog Γ gtab (sn_charwidth_Width k) pre post :=
  Contract.renum (contract_of (cxok_charwidth_Width hg hs) 4 sg_charwidth_Width Tryd.func17 (by kernel_rfl) (by kernel_rfl) fun ts hl hp => by rw [tree_charwidth_Width]; exact h ts hl hp) k
end Go.Proofs.YtnbbepgmnbmfdaaDoor

/- Written by a program of ours (Gen): the trees of the symbolic runs of functions, and their contracts' frames. -/
import Derived.Test.YtlhagkbhojmjpaaDoorMb
namespace Go.Proofs.YtlhagkbhojmjpaaDoor
set_option linter.unusedVariables false
set_option linter.unusedSimpArgs false

def sg_ref02_Marks : Sig := ⟨131, 0, [], [(false, [((.slice true [(.int .i32), (.int .i32)]), some 192)])]⟩
def zks (k : Nat) : Sig := ⟨sg_ref02_Marks.f, k, sg_ref02_Marks.args, sg_ref02_Marks.res⟩
def hd_ref02_Marks : List (FuncId × Nat × Head) := []
def pl_ref02_Marks : List (FuncId × Nat × Nat × Plan) := []
noncomputable def cx_ref02_Marks : Cx := ⟨Tryd.prog, gtabU, [], [], hd_ref02_Marks, pl_ref02_Marks, []⟩
def tr_ref02_Marks : Tree := (.ret (.cons (.o1 .agg (.cons (.int 768) (.cons (.int 879) .nil))) (.cons (.o1 .agg (.cons (.int 6832) (.cons (.int 6911) .nil))) (.cons (.o1 .agg (.cons (.int 7616) (.cons (.int 7679) .nil))) (.cons (.o1 .agg (.cons (.int 8203) (.cons (.int 8207) .nil))) (.cons (.o1 .agg (.cons (.int 8400) (.cons (.int 8447) .nil))) (.cons (.o1 .agg (.cons (.int 65024) (.cons (.int 65039) .nil))) (.cons (.o1 .agg (.cons (.int 65056) (.cons (.int 65071) .nil))) .nil))))))))
set_option maxRecDepth 100000 in
theorem z6p : za4 cx_ref02_Marks 4 sg_ref02_Marks Tryd.f131 (Tryd.f131.body.getD .skip) = tr_ref02_Marks := by kernel_rfl
theorem z5u {Γ : CEnv} (hg : ∀ n, Γ.glob n = globT n) (hs : ∀ s ∈ cx_ref02_Marks.sigs, Contract Tryd.prog Γ gtabU s (Γ.pre s.no) (Γ.post s.no)) : CxOk cx_ref02_Marks Γ := ⟨by kernel_rfl, hs, (fun x hx => by cases hx), (fun x hx => by cases hx)⟩
theorem zma {Γ : CEnv} (hg : ∀ n, Γ.glob n = globT n) (hs : ∀ s ∈ cx_ref02_Marks.sigs, Contract Tryd.prog Γ gtabU s (Γ.pre s.no) (Γ.post s.no)) (k : Nat) {pre : List TV → Prop} {post : List TV → TV → Prop} (h : ∀ ts, ts.length = 0 → pre ts → tr_ref02_Marks.den Γ (post ts) ts []) : Contract Tryd.prog Γ gtabU (zks k) pre post :=
  Contract.renum (zas (z5u hg hs) 4 sg_ref02_Marks Tryd.func131 (by kernel_rfl) (by kernel_rfl) fun ts hl hp => by rw [z6p]; exact h ts hl hp) k

def sg_ref02_in : Sig := ⟨130, 0, [(false, [(.slice true [(.int .i32), (.int .i32)])]), (false, [(.int .i32)])], [(false, [(.bool, none)])]⟩
def zng (k : Nat) : Sig := ⟨sg_ref02_in.f, k, sg_ref02_in.args, sg_ref02_in.res⟩
def hd_ref02_in : List (FuncId × Nat × Head) := [(130, 2, ⟨[0, 1, 5], [], [5], [], [], []⟩)]
def pl_ref02_in : List (FuncId × Nat × Nat × Plan) := []
noncomputable def cx_ref02_in : Cx := ⟨Tryd.prog, gtabU, [], [], hd_ref02_in, pl_ref02_in, []⟩
def tr_ref02_in : Tree := (.loop [(.int 0)]
  (.br (.o2 .lti (.v 2) (.o1 .len (.v 0)))
    (.req (.o2 .lei (.int 0) (.v 2)) (.req (.o2 .lti (.v 2) (.o1 .len (.v 0))) (.br (.o2 .lei (.o1 (.proj 0) (.o2 .idx (.v 0) (.v 2))) (.v 1))
      (.req (.o2 .lei (.int 0) (.v 2)) (.req (.o2 .lti (.v 2) (.o1 .len (.v 0))) (.br (.o2 .lei (.v 1) (.o1 (.proj 1) (.o2 .idx (.v 0) (.v 2))))
        (.ret (.bool true))
        (.back 0 [(.o2 (.add .i64) (.v 2) (.int 1))]))))
      (.back 0 [(.o2 (.add .i64) (.v 2) (.int 1))]))))
    (.ret (.bool false))))
set_option maxRecDepth 100000 in
theorem tree_ref02_in : za4 cx_ref02_in 4 sg_ref02_in Tryd.f130 (Tryd.f130.body.getD .skip) = tr_ref02_in := by kernel_rfl
theorem cxok_ref02_in {Γ : CEnv} (hg : ∀ n, Γ.glob n = globT n) (hs : ∀ s ∈ cx_ref02_in.sigs, Contract Tryd.prog Γ gtabU s (Γ.pre s.no) (Γ.post s.no)) : CxOk cx_ref02_in Γ := ⟨by kernel_rfl, hs, (fun x hx => by cases hx), (fun x hx => by cases hx)⟩
theorem zrd {Γ : CEnv} (hg : ∀ n, Γ.glob n = globT n) (hs : ∀ s ∈ cx_ref02_in.sigs, Contract Tryd.prog Γ gtabU s (Γ.pre s.no) (Γ.post s.no)) (k : Nat) {pre : List TV → Prop} {post : List TV → TV → Prop} (h : ∀ ts, ts.length = 2 → pre ts → tr_ref02_in.den Γ (post ts) ts []) : Contract Tryd.prog Γ gtabU (zng k) pre post :=
  Contract.renum (zas (cxok_ref02_in hg hs) 4 sg_ref02_in Tryd.func130 (by kernel_rfl) (by kernel_rfl) fun ts hl hp => by rw [tree_ref02_in]; exact h ts hl hp) k

def sg_ref02_Mark : Sig := ⟨109, 0, [(false, [(.int .i32)])], [(false, [(.bool, none)])]⟩
def zgk (k : Nat) : Sig := ⟨sg_ref02_Mark.f, k, sg_ref02_Mark.args, sg_ref02_Mark.res⟩
def hd_ref02_Mark : List (FuncId × Nat × Head) := []
def pl_ref02_Mark : List (FuncId × Nat × Nat × Plan) := []
noncomputable def cx_ref02_Mark : Cx := ⟨Tryd.prog, gtabU, [zks 0, zng 1], [], hd_ref02_Mark, pl_ref02_Mark, []⟩
def tr_ref02_Mark : Tree := (.call 0 []
  (.call 1 [(.v 1), (.v 0)]
    (.ret (.v 2))))
set_option maxRecDepth 100000 in
theorem z9x : za4 cx_ref02_Mark 4 sg_ref02_Mark Tryd.f109 (Tryd.f109.body.getD .skip) = tr_ref02_Mark := by kernel_rfl
theorem z8o {Γ : CEnv} (hg : ∀ n, Γ.glob n = globT n) (hs : ∀ s ∈ cx_ref02_Mark.sigs, Contract Tryd.prog Γ gtabU s (Γ.pre s.no) (Γ.post s.no)) : CxOk cx_ref02_Mark Γ := ⟨by kernel_rfl, hs, (fun x hx => by cases hx), (fun x hx => by cases hx)⟩
theorem zoh {Γ : CEnv} (hg : ∀ n, Γ.glob n = globT n) (hs : ∀ s ∈ cx_ref02_Mark.sigs, Contract Tryd.prog Γ gtabU s (Γ.pre s.no) (Γ.post s.no)) (k : Nat) {pre : List TV → Prop} {post : List TV → TV → Prop} (h : ∀ ts, ts.length = 1 → pre ts → tr_ref02_Mark.den Γ (post ts) ts []) : Contract Tryd.prog Γ gtabU (zgk k) pre post :=
  Contract.renum (zas (z8o hg hs) 4 sg_ref02_Mark Tryd.func109 (by kernel_rfl) (by kernel_rfl) fun ts hl hp => by rw [z9x]; exact h ts hl hp) k

def sg_ref02_Wide : Sig := ⟨132, 0, [], [(false, [((.slice true [(.int .i32), (.int .i32)]), some 192)])]⟩
def zmt (k : Nat) : Sig := ⟨sg_ref02_Wide.f, k, sg_ref02_Wide.args, sg_ref02_Wide.res⟩
def hd_ref02_Wide : List (FuncId × Nat × Head) := []
def pl_ref02_Wide : List (FuncId × Nat × Nat × Plan) := []
noncomputable def cx_ref02_Wide : Cx := ⟨Tryd.prog, gtabU, [], [], hd_ref02_Wide, pl_ref02_Wide, []⟩
def tr_ref02_Wide : Tree := (.ret (.cons (.o1 .agg (.cons (.int 4352) (.cons (.int 4447) .nil))) (.cons (.o1 .agg (.cons (.int 11904) (.cons (.int 12350) .nil))) (.cons (.o1 .agg (.cons (.int 12353) (.cons (.int 13311) .nil))) (.cons (.o1 .agg (.cons (.int 13312) (.cons (.int 19903) .nil))) (.cons (.o1 .agg (.cons (.int 19968) (.cons (.int 40959) .nil))) (.cons (.o1 .agg (.cons (.int 40960) (.cons (.int 42191) .nil))) (.cons (.o1 .agg (.cons (.int 44032) (.cons (.int 55203) .nil))) (.cons (.o1 .agg (.cons (.int 63744) (.cons (.int 64255) .nil))) (.cons (.o1 .agg (.cons (.int 65072) (.cons (.int 65135) .nil))) (.cons (.o1 .agg (.cons (.int 65280) (.cons (.int 65376) .nil))) (.cons (.o1 .agg (.cons (.int 65504) (.cons (.int 65510) .nil))) (.cons (.o1 .agg (.cons (.int 127744) (.cons (.int 128591) .nil))) (.cons (.o1 .agg (.cons (.int 129280) (.cons (.int 129535) .nil))) (.cons (.o1 .agg (.cons (.int 131072) (.cons (.int 262141) .nil))) .nil)))))))))))))))
set_option maxRecDepth 100000 in
theorem z7n : za4 cx_ref02_Wide 4 sg_ref02_Wide Tryd.f132 (Tryd.f132.body.getD .skip) = tr_ref02_Wide := by kernel_rfl
theorem z8k {Γ : CEnv} (hg : ∀ n, Γ.glob n = globT n) (hs : ∀ s ∈ cx_ref02_Wide.sigs, Contract Tryd.prog Γ gtabU s (Γ.pre s.no) (Γ.post s.no)) : CxOk cx_ref02_Wide Γ := ⟨by kernel_rfl, hs, (fun x hx => by cases hx), (fun x hx => by cases hx)⟩
theorem zoi {Γ : CEnv} (hg : ∀ n, Γ.glob n = globT n) (hs : ∀ s ∈ cx_ref02_Wide.sigs, Contract Tryd.prog Γ gtabU s (Γ.pre s.no) (Γ.post s.no)) (k : Nat) {pre : List TV → Prop} {post : List TV → TV → Prop} (h : ∀ ts, ts.length = 0 → pre ts → tr_ref02_Wide.den Γ (post ts) ts []) : Contract Tryd.prog Γ gtabU (zmt k) pre post :=
  Contract.renum (zas (z8k hg hs) 4 sg_ref02_Wide Tryd.func132 (by kernel_rfl) (by kernel_rfl) fun ts hl hp => by rw [z7n]; exact h ts hl hp) k

def sg_ref02_Width : Sig := ⟨110, 0, [(false, [(.int .i32)])], [(false, [((.int .i64), none)])]⟩
def zed (k : Nat) : Sig := ⟨sg_ref02_Width.f, k, sg_ref02_Width.args, sg_ref02_Width.res⟩
def hd_ref02_Width : List (FuncId × Nat × Head) := []
def pl_ref02_Width : List (FuncId × Nat × Nat × Plan) := []
noncomputable def cx_ref02_Width : Cx := ⟨Tryd.prog, gtabU, [zng 0, zgk 1, zmt 2], [], hd_ref02_Width, pl_ref02_Width, []⟩
def tr_ref02_Width : Tree := (.br (.o2 .lti (.v 0) (.int 32))
  (.ret (.int (-1)))
  (.br (.o2 .lei (.int 127) (.v 0))
    (.br (.o2 .lei (.v 0) (.int 159))
      (.ret (.int (-1)))
      (.call 1 [(.v 0)]
        (.br (.v 1)
          (.ret (.int 0))
          (.call 2 []
            (.call 0 [(.v 2), (.v 0)]
              (.br (.v 3)
                (.ret (.int 2))
                (.ret (.int 1))))))))
    (.call 1 [(.v 0)]
      (.br (.v 1)
        (.ret (.int 0))
        (.call 2 []
          (.call 0 [(.v 2), (.v 0)]
            (.br (.v 3)
              (.ret (.int 2))
              (.ret (.int 1)))))))))
set_option maxRecDepth 100000 in
theorem z5z : za4 cx_ref02_Width 4 sg_ref02_Width Tryd.f110 (Tryd.f110.body.getD .skip) = tr_ref02_Width := by kernel_rfl
theorem z6x {Γ : CEnv} (hg : ∀ n, Γ.glob n = globT n) (hs : ∀ s ∈ cx_ref02_Width.sigs, Contract Tryd.prog Γ gtabU s (Γ.pre s.no) (Γ.post s.no)) : CxOk cx_ref02_Width Γ := ⟨by kernel_rfl, hs, (fun x hx => by cases hx), (fun x hx => by cases hx)⟩
theorem zl5 {Γ : CEnv} (hg : ∀ n, Γ.glob n = globT n) (hs : ∀ s ∈ cx_ref02_Width.sigs, Contract Tryd.prog Γ gtabU s (Γ.pre s.no) (Γ.post s.no)) (k : Nat) {pre : List TV → Prop} {post : List TV → TV → Prop} (h : ∀ ts, ts.length = 1 → pre ts → tr_ref02_Width.den Γ (post ts) ts []) : Contract Tryd.prog Γ gtabU (zed k) pre post :=
  Contract.renum (zas (z6x hg hs) 4 sg_ref02_Width Tryd.func110 (by kernel_rfl) (by kernel_rfl) fun ts hl hp => by rw [z5z]; exact h ts hl hp) k

def sg_charwidth_marks : Sig := ⟨113, 0, [], [(false, [((.slice true [(.int .i32), (.int .i32)]), some 192)])]⟩
def zfr (k : Nat) : Sig := ⟨sg_charwidth_marks.f, k, sg_charwidth_marks.args, sg_charwidth_marks.res⟩
def z0n : List (FuncId × Nat × Head) := []
def z04 : List (FuncId × Nat × Nat × Plan) := []
noncomputable def cx_charwidth_marks : Cx := ⟨Tryd.prog, gtabU, [], [], z0n, z04, []⟩
def tr_charwidth_marks : Tree := (.ret (.cons (.o1 .agg (.cons (.int 768) (.cons (.int 879) .nil))) (.cons (.o1 .agg (.cons (.int 6832) (.cons (.int 6911) .nil))) (.cons (.o1 .agg (.cons (.int 7616) (.cons (.int 7679) .nil))) (.cons (.o1 .agg (.cons (.int 8203) (.cons (.int 8207) .nil))) (.cons (.o1 .agg (.cons (.int 8400) (.cons (.int 8447) .nil))) (.cons (.o1 .agg (.cons (.int 65024) (.cons (.int 65039) .nil))) (.cons (.o1 .agg (.cons (.int 65056) (.cons (.int 65071) .nil))) .nil))))))))
set_option maxRecDepth 100000 in
theorem zxq : za4 cx_charwidth_marks 4 sg_charwidth_marks Tryd.f113 (Tryd.f113.body.getD .skip) = tr_charwidth_marks := by kernel_rfl
theorem zxx {Γ : CEnv} (hg : ∀ n, Γ.glob n = globT n) (hs : ∀ s ∈ cx_charwidth_marks.sigs, Contract Tryd.prog Γ gtabU s (Γ.pre s.no) (Γ.post s.no)) : CxOk cx_charwidth_marks Γ := ⟨by kernel_rfl, hs, (fun x hx => by cases hx), (fun x hx => by cases hx)⟩
theorem zii {Γ : CEnv} (hg : ∀ n, Γ.glob n = globT n) (hs : ∀ s ∈ cx_charwidth_marks.sigs, Contract Tryd.prog Γ gtabU s (Γ.pre s.no) (Γ.post s.no)) (k : Nat) {pre : List TV → Prop} {post : List TV → TV → Prop} (h : ∀ ts, ts.length = 0 → pre ts → tr_charwidth_marks.den Γ (post ts) ts []) : Contract Tryd.prog Γ gtabU (zfr k) pre post :=
  Contract.renum (zas (zxx hg hs) 4 sg_charwidth_marks Tryd.func113 (by kernel_rfl) (by kernel_rfl) fun ts hl hp => by rw [zxq]; exact h ts hl hp) k

def sg_charwidth_Wide : Sig := ⟨70, 0, [], [(false, [((.slice true [(.int .i32), (.int .i32)]), some 192)])]⟩
def zgy (k : Nat) : Sig := ⟨sg_charwidth_Wide.f, k, sg_charwidth_Wide.args, sg_charwidth_Wide.res⟩
def z4j : List (FuncId × Nat × Head) := []
def z3w : List (FuncId × Nat × Nat × Plan) := []
noncomputable def cx_charwidth_Wide : Cx := ⟨Tryd.prog, gtabU, [], [], z4j, z3w, []⟩
def tr_charwidth_Wide : Tree := (.ret (.cons (.o1 .agg (.cons (.int 4352) (.cons (.int 4447) .nil))) (.cons (.o1 .agg (.cons (.int 11904) (.cons (.int 12350) .nil))) (.cons (.o1 .agg (.cons (.int 12353) (.cons (.int 13311) .nil))) (.cons (.o1 .agg (.cons (.int 13312) (.cons (.int 19903) .nil))) (.cons (.o1 .agg (.cons (.int 19968) (.cons (.int 40959) .nil))) (.cons (.o1 .agg (.cons (.int 40960) (.cons (.int 42191) .nil))) (.cons (.o1 .agg (.cons (.int 44032) (.cons (.int 55203) .nil))) (.cons (.o1 .agg (.cons (.int 63744) (.cons (.int 64255) .nil))) (.cons (.o1 .agg (.cons (.int 65072) (.cons (.int 65135) .nil))) (.cons (.o1 .agg (.cons (.int 65280) (.cons (.int 65376) .nil))) (.cons (.o1 .agg (.cons (.int 65504) (.cons (.int 65510) .nil))) (.cons (.o1 .agg (.cons (.int 127744) (.cons (.int 128591) .nil))) (.cons (.o1 .agg (.cons (.int 129280) (.cons (.int 129535) .nil))) (.cons (.o1 .agg (.cons (.int 131072) (.cons (.int 262141) .nil))) .nil)))))))))))))))
set_option maxRecDepth 100000 in
theorem zza : za4 cx_charwidth_Wide 4 sg_charwidth_Wide Tryd.f70 (Tryd.f70.body.getD .skip) = tr_charwidth_Wide := by kernel_rfl
theorem zy1 {Γ : CEnv} (hg : ∀ n, Γ.glob n = globT n) (hs : ∀ s ∈ cx_charwidth_Wide.sigs, Contract Tryd.prog Γ gtabU s (Γ.pre s.no) (Γ.post s.no)) : CxOk cx_charwidth_Wide Γ := ⟨by kernel_rfl, hs, (fun x hx => by cases hx), (fun x hx => by cases hx)⟩
theorem zi0 {Γ : CEnv} (hg : ∀ n, Γ.glob n = globT n) (hs : ∀ s ∈ cx_charwidth_Wide.sigs, Contract Tryd.prog Γ gtabU s (Γ.pre s.no) (Γ.post s.no)) (k : Nat) {pre : List TV → Prop} {post : List TV → TV → Prop} (h : ∀ ts, ts.length = 0 → pre ts → tr_charwidth_Wide.den Γ (post ts) ts []) : Contract Tryd.prog Γ gtabU (zgy k) pre post :=
  Contract.renum (zas (zy1 hg hs) 4 sg_charwidth_Wide Tryd.func70 (by kernel_rfl) (by kernel_rfl) fun ts hl hp => by rw [zza]; exact h ts hl hp) k

def sg_charwidth_Mark : Sig := ⟨68, 0, [(false, [(.int .i32)])], [(false, [(.bool, none)])]⟩
def zet (k : Nat) : Sig := ⟨sg_charwidth_Mark.f, k, sg_charwidth_Mark.args, sg_charwidth_Mark.res⟩
def z4u : List (FuncId × Nat × Head) := [(114, 2, ⟨[0, 1, 4, 5], [.blk 0, .blk 1], [5, 4], [], [], []⟩)]
def z21 : List (FuncId × Nat × Nat × Plan) := [(114, 1, 4, (.op true 0 (.op true 1 (.op true 2 (.op true 3 .nil)))))]
noncomputable def cx_charwidth_Mark : Cx := ⟨Tryd.prog, gtabU, [zfr 0], [(114, Tryd.f114), (69, Tryd.f69)], z4u, z21, []⟩
def tr_charwidth_Mark : Tree := (.call 0 []
  (.loop [(.int 0), (.o1 .len (.v 1))]
    (.br (.o2 .lti (.v 2) (.v 3))
      (.req (.o2 .lei (.int 0) (.o2 (.quo .i64) (.o2 (.add .i64) (.v 2) (.v 3)) (.int 2))) (.req (.o2 .lti (.o2 (.quo .i64) (.o2 (.add .i64) (.v 2) (.v 3)) (.int 2)) (.o1 .len (.v 1))) (.br (.o2 .lti (.o1 (.proj 1) (.o2 .idx (.v 1) (.o2 (.quo .i64) (.o2 (.add .i64) (.v 2) (.v 3)) (.int 2)))) (.v 0))
        (.back 0 [(.o2 (.add .i64) (.o2 (.quo .i64) (.o2 (.add .i64) (.v 2) (.v 3)) (.int 2)) (.int 1)), (.v 3)])
        (.back 0 [(.v 2), (.o2 (.quo .i64) (.o2 (.add .i64) (.v 2) (.v 3)) (.int 2))]))))
      (.br (.o2 .lti (.v 2) (.o1 .len (.v 1)))
        (.req (.o2 .lei (.int 0) (.v 2)) (.req (.o2 .lti (.v 2) (.o1 .len (.v 1))) (.ret (.o2 .lei (.o1 (.proj 0) (.o2 .idx (.v 1) (.v 2))) (.v 0)))))
        (.ret (.bool false))))))
set_option maxRecDepth 100000 in
theorem zy4 : za4 cx_charwidth_Mark 4 sg_charwidth_Mark Tryd.f68 (Tryd.f68.body.getD .skip) = tr_charwidth_Mark := by kernel_rfl
theorem zz5 {Γ : CEnv} (hg : ∀ n, Γ.glob n = globT n) (hs : ∀ s ∈ cx_charwidth_Mark.sigs, Contract Tryd.prog Γ gtabU s (Γ.pre s.no) (Γ.post s.no)) : CxOk cx_charwidth_Mark Γ := ⟨by kernel_rfl, hs, (fun x hx => by
  simp only [cx_charwidth_Mark, List.mem_cons, List.not_mem_nil, or_false] at hx
  rcases hx with rfl | rfl
  · exact ⟨Tryd.func114, by kernel_rfl⟩
  · exact ⟨Tryd.func69, by kernel_rfl⟩), (fun x hx => by cases hx)⟩
theorem zi9 {Γ : CEnv} (hg : ∀ n, Γ.glob n = globT n) (hs : ∀ s ∈ cx_charwidth_Mark.sigs, Contract Tryd.prog Γ gtabU s (Γ.pre s.no) (Γ.post s.no)) (k : Nat) {pre : List TV → Prop} {post : List TV → TV → Prop} (h : ∀ ts, ts.length = 1 → pre ts → tr_charwidth_Mark.den Γ (post ts) ts []) : Contract Tryd.prog Γ gtabU (zet k) pre post :=
  Contract.renum (zas (zz5 hg hs) 4 sg_charwidth_Mark Tryd.func68 (by kernel_rfl) (by kernel_rfl) fun ts hl hp => by rw [zy4]; exact h ts hl hp) k

def sg_charwidth_Width : Sig := ⟨36, 0, [(false, [(.int .i32)])], [(false, [((.int .i64), none)])]⟩
def zcc (k : Nat) : Sig := ⟨sg_charwidth_Width.f, k, sg_charwidth_Width.args, sg_charwidth_Width.res⟩
def z2j : List (FuncId × Nat × Head) := [(114, 2, ⟨[0, 1, 4, 5], [.blk 0, .blk 1], [5, 4], [], [], []⟩)]
def z00 : List (FuncId × Nat × Nat × Plan) := [(114, 1, 4, (.op true 0 (.op true 1 (.op true 2 (.op true 3 .nil)))))]
noncomputable def cx_charwidth_Width : Cx := ⟨Tryd.prog, gtabU, [zgy 0, zet 1], [(114, Tryd.f114), (69, Tryd.f69)], z2j, z00, []⟩
def tr_charwidth_Width : Tree := (.br (.o2 .lti (.v 0) (.int 32))
  (.ret (.int (-1)))
  (.br (.o2 .lei (.int 127) (.v 0))
    (.br (.o2 .lei (.v 0) (.int 159))
      (.ret (.int (-1)))
      (.call 1 [(.v 0)]
        (.br (.v 1)
          (.ret (.int 0))
          (.call 0 []
            (.loop [(.int 0), (.o1 .len (.v 2))]
              (.br (.o2 .lti (.v 3) (.v 4))
                (.req (.o2 .lei (.int 0) (.o2 (.quo .i64) (.o2 (.add .i64) (.v 3) (.v 4)) (.int 2))) (.req (.o2 .lti (.o2 (.quo .i64) (.o2 (.add .i64) (.v 3) (.v 4)) (.int 2)) (.o1 .len (.v 2))) (.br (.o2 .lti (.o1 (.proj 1) (.o2 .idx (.v 2) (.o2 (.quo .i64) (.o2 (.add .i64) (.v 3) (.v 4)) (.int 2)))) (.v 0))
                  (.back 0 [(.o2 (.add .i64) (.o2 (.quo .i64) (.o2 (.add .i64) (.v 3) (.v 4)) (.int 2)) (.int 1)), (.v 4)])
                  (.back 0 [(.v 3), (.o2 (.quo .i64) (.o2 (.add .i64) (.v 3) (.v 4)) (.int 2))]))))
                (.br (.o2 .lti (.v 3) (.o1 .len (.v 2)))
                  (.req (.o2 .lei (.int 0) (.v 3)) (.req (.o2 .lti (.v 3) (.o1 .len (.v 2))) (.br (.o2 .lei (.o1 (.proj 0) (.o2 .idx (.v 2) (.v 3))) (.v 0))
                    (.ret (.int 2))
                    (.ret (.int 1)))))
                  (.ret (.int 1)))))))))
    (.call 1 [(.v 0)]
      (.br (.v 1)
        (.ret (.int 0))
        (.call 0 []
          (.loop [(.int 0), (.o1 .len (.v 2))]
            (.br (.o2 .lti (.v 3) (.v 4))
              (.req (.o2 .lei (.int 0) (.o2 (.quo .i64) (.o2 (.add .i64) (.v 3) (.v 4)) (.int 2))) (.req (.o2 .lti (.o2 (.quo .i64) (.o2 (.add .i64) (.v 3) (.v 4)) (.int 2)) (.o1 .len (.v 2))) (.br (.o2 .lti (.o1 (.proj 1) (.o2 .idx (.v 2) (.o2 (.quo .i64) (.o2 (.add .i64) (.v 3) (.v 4)) (.int 2)))) (.v 0))
                (.back 0 [(.o2 (.add .i64) (.o2 (.quo .i64) (.o2 (.add .i64) (.v 3) (.v 4)) (.int 2)) (.int 1)), (.v 4)])
                (.back 0 [(.v 3), (.o2 (.quo .i64) (.o2 (.add .i64) (.v 3) (.v 4)) (.int 2))]))))
              (.br (.o2 .lti (.v 3) (.o1 .len (.v 2)))
                (.req (.o2 .lei (.int 0) (.v 3)) (.req (.o2 .lti (.v 3) (.o1 .len (.v 2))) (.br (.o2 .lei (.o1 (.proj 0) (.o2 .idx (.v 2) (.v 3))) (.v 0))
                  (.ret (.int 2))
                  (.ret (.int 1)))))
                (.ret (.int 1))))))))))
set_option maxRecDepth 100000 in
theorem zxv : za4 cx_charwidth_Width 4 sg_charwidth_Width Tryd.f36 (Tryd.f36.body.getD .skip) = tr_charwidth_Width := by kernel_rfl
theorem zxr {Γ : CEnv} (hg : ∀ n, Γ.glob n = globT n) (hs : ∀ s ∈ cx_charwidth_Width.sigs, Contract Tryd.prog Γ gtabU s (Γ.pre s.no) (Γ.post s.no)) : CxOk cx_charwidth_Width Γ := ⟨by kernel_rfl, hs, (fun x hx => by
  simp only [cx_charwidth_Width, List.mem_cons, List.not_mem_nil, or_false] at hx
  rcases hx with rfl | rfl
  · exact ⟨Tryd.func114, by kernel_rfl⟩
  · exact ⟨Tryd.func69, by kernel_rfl⟩), (fun x hx => by cases hx)⟩
theorem zif {Γ : CEnv} (hg : ∀ n, Γ.glob n = globT n) (hs : ∀ s ∈ cx_charwidth_Width.sigs, Contract Tryd.prog Γ gtabU s (Γ.pre s.no) (Γ.post s.no)) (k : Nat) {pre : List TV → Prop} {post : List TV → TV → Prop} (h : ∀ ts, ts.length = 1 → pre ts → tr_charwidth_Width.den Γ (post ts) ts []) : Contract Tryd.prog Γ gtabU (zcc k) pre post :=
  Contract.renum (zas (zxr hg hs) 4 sg_charwidth_Width Tryd.func36 (by kernel_rfl) (by kernel_rfl) fun ts hl hp => by rw [zxv]; exact h ts hl hp) k
end Go.Proofs.YtlhagkbhojmjpaaDoor

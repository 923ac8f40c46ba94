/- Written by this repo's own program out of its texts. -/
import Derived.Test.YtlhagkbhojmjpaaGreatDoorPMb
set_option linter.unusedVariables false
set_option linter.unusedSimpArgs false
namespace Go.Proofs.YtlhagkbhojmjpaaGreatDoor
def sg_chhmarks : Sig := ⟨162, 0, [], [(false, [((.slice true [(.int .i32), (.int .i32)]), some 221)])]⟩
def zfr (k : Nat) : Sig := ⟨sg_chhmarks.f, k, sg_chhmarks.args, sg_chhmarks.res⟩
def z0n : List (FuncId × Nat × Head) := []
def z04 : List (FuncId × Nat × Nat × Plan) := []
noncomputable def cx_charwidth_marks : Cx := ⟨Tryz.prog, gtabU, [], [], z0n, z04, [], []⟩
theorem zxx {Γ : CEnv} (hg : GK Γ) (hs : GS gtabU Γ cx_charwidth_marks) : CxOk cx_charwidth_marks Γ := ⟨by kernel_rfl, hs, (fun x hx => by cases hx), (fun x hx => by cases hx), (fun m hm => by cases hm)⟩
def tr_charwidth_marks : Tree := (.ret (.cons (.o1 .agg (.cons (.int 768) (.cons (.int 879) .nil))) (.cons (.o1 .agg (.cons (.int 6832) (.cons (.int 6911) .nil))) (.cons (.o1 .agg (.cons (.int 7616) (.cons (.int 7679) .nil))) (.cons (.o1 .agg (.cons (.int 8203) (.cons (.int 8207) .nil))) (.cons (.o1 .agg (.cons (.int 8400) (.cons (.int 8447) .nil))) (.cons (.o1 .agg (.cons (.int 65024) (.cons (.int 65039) .nil))) (.cons (.o1 .agg (.cons (.int 65056) (.cons (.int 65071) .nil))) .nil))))))))
set_option maxRecDepth 100000 in
theorem zxq : za4 cx_charwidth_marks 4 sg_chhmarks Tryz.f162 (Tryz.f162.body.getD .skip) = tr_charwidth_marks := by kernel_rfl
theorem zii {Γ : CEnv} (hg : GK Γ) (hs : GS gtabU Γ cx_charwidth_marks) : GC gtabU Γ zfr tr_charwidth_marks 0 := fun k _ _ h => Contract.renum (zas (zxx hg hs) 4 sg_chhmarks Tryz.func162 (by kernel_rfl) (by kernel_rfl) fun ts hl hp => by rw [zxq]; exact h ts hl hp) k
def sg_chhWide : Sig := ⟨133, 0, [], [(false, [((.slice true [(.int .i32), (.int .i32)]), some 221)])]⟩
def zgy (k : Nat) : Sig := ⟨sg_chhWide.f, k, sg_chhWide.args, sg_chhWide.res⟩
def z4j : List (FuncId × Nat × Head) := []
def z3w : List (FuncId × Nat × Nat × Plan) := []
noncomputable def cx_charwidth_Wide : Cx := ⟨Tryz.prog, gtabU, [], [], z4j, z3w, [], []⟩
theorem zy1 {Γ : CEnv} (hg : GK Γ) (hs : GS gtabU Γ cx_charwidth_Wide) : CxOk cx_charwidth_Wide Γ := ⟨by kernel_rfl, hs, (fun x hx => by cases hx), (fun x hx => by cases hx), (fun m hm => by cases hm)⟩
def tr_charwidth_Wide : Tree := (.ret (.cons (.o1 .agg (.cons (.int 4352) (.cons (.int 4447) .nil))) (.cons (.o1 .agg (.cons (.int 11904) (.cons (.int 12350) .nil))) (.cons (.o1 .agg (.cons (.int 12353) (.cons (.int 13311) .nil))) (.cons (.o1 .agg (.cons (.int 13312) (.cons (.int 19903) .nil))) (.cons (.o1 .agg (.cons (.int 19968) (.cons (.int 40959) .nil))) (.cons (.o1 .agg (.cons (.int 40960) (.cons (.int 42191) .nil))) (.cons (.o1 .agg (.cons (.int 44032) (.cons (.int 55203) .nil))) (.cons (.o1 .agg (.cons (.int 63744) (.cons (.int 64255) .nil))) (.cons (.o1 .agg (.cons (.int 65072) (.cons (.int 65135) .nil))) (.cons (.o1 .agg (.cons (.int 65280) (.cons (.int 65376) .nil))) (.cons (.o1 .agg (.cons (.int 65504) (.cons (.int 65510) .nil))) (.cons (.o1 .agg (.cons (.int 127744) (.cons (.int 128591) .nil))) (.cons (.o1 .agg (.cons (.int 129280) (.cons (.int 129535) .nil))) (.cons (.o1 .agg (.cons (.int 131072) (.cons (.int 262141) .nil))) .nil)))))))))))))))
set_option maxRecDepth 100000 in
theorem zza : za4 cx_charwidth_Wide 4 sg_chhWide Tryz.f133 (Tryz.f133.body.getD .skip) = tr_charwidth_Wide := by kernel_rfl
theorem zi0 {Γ : CEnv} (hg : GK Γ) (hs : GS gtabU Γ cx_charwidth_Wide) : GC gtabU Γ zgy tr_charwidth_Wide 0 := fun k _ _ h => Contract.renum (zas (zy1 hg hs) 4 sg_chhWide Tryz.func133 (by kernel_rfl) (by kernel_rfl) fun ts hl hp => by rw [zza]; exact h ts hl hp) k
def sg_chhMark : Sig := ⟨131, 0, [(false, [(.int .i32)])], [(false, [(.bool, none)])]⟩
def zet (k : Nat) : Sig := ⟨sg_chhMark.f, k, sg_chhMark.args, sg_chhMark.res⟩
def z4u : List (FuncId × Nat × Head) := [(163, 2, ⟨[0, 1, 4, 5], [.blk 0, .blk 1], [5, 4], [], [], []⟩)]
def z21 : List (FuncId × Nat × Nat × Plan) := [(163, 1, 4, (.op true 0 (.op true 1 (.op true 2 (.op true 3 .nil)))))]
noncomputable def cx_charwidth_Mark : Cx := ⟨Tryz.prog, gtabU, [zfr 0], [(163, Tryz.f163), (132, Tryz.f132)], z4u, z21, [], []⟩
theorem zz5 {Γ : CEnv} (hg : GK Γ) (hs : GS gtabU Γ cx_charwidth_Mark) : CxOk cx_charwidth_Mark Γ := ⟨by kernel_rfl, hs, (fun x hx => by
 simp only [cx_charwidth_Mark, List.mem_cons, List.not_mem_nil, or_false] at hx
 rcases hx with rfl | rfl
 ·exact ⟨Tryz.func163, by kernel_rfl⟩
 ·exact ⟨Tryz.func132, by kernel_rfl⟩), (fun x hx => by cases hx), (fun m hm => by cases hm)⟩
def tr_charwidth_Mark : Tree := (.call 0 [] (.loop [(.int 0), (.o1 .len (.v 1))] (.br (.o2 .lti (.v 2) (.v 3)) (.req (.o2 .lei (.int 0) (.o2 (.quo .i64) (.o2 (.add .i64) (.v 2) (.v 3)) (.int 2))) (.req (.o2 .lti (.o2 (.quo .i64) (.o2 (.add .i64) (.v 2) (.v 3)) (.int 2)) (.o1 .len (.v 1))) (.br (.o2 .lti (.o1 (.proj 1) (.o2 .idx (.v 1) (.o2 (.quo .i64) (.o2 (.add .i64) (.v 2) (.v 3)) (.int 2)))) (.v 0)) (.back 0 [(.o2 (.add .i64) (.o2 (.quo .i64) (.o2 (.add .i64) (.v 2) (.v 3)) (.int 2)) (.int 1)), (.v 3)]) (.back 0 [(.v 2), (.o2 (.quo .i64) (.o2 (.add .i64) (.v 2) (.v 3)) (.int 2))])))) (.br (.o2 .lti (.v 2) (.o1 .len (.v 1))) (.req (.o2 .lei (.int 0) (.v 2)) (.req (.o2 .lti (.v 2) (.o1 .len (.v 1))) (.ret (.o2 .lei (.o1 (.proj 0) (.o2 .idx (.v 1) (.v 2))) (.v 0))))) (.ret (.bool false))))))
set_option maxRecDepth 100000 in
theorem zy4 : za4 cx_charwidth_Mark 4 sg_chhMark Tryz.f131 (Tryz.f131.body.getD .skip) = tr_charwidth_Mark := by kernel_rfl
theorem zi9 {Γ : CEnv} (hg : GK Γ) (hs : GS gtabU Γ cx_charwidth_Mark) : GC gtabU Γ zet tr_charwidth_Mark 1 := fun k _ _ h => Contract.renum (zas (zz5 hg hs) 4 sg_chhMark Tryz.func131 (by kernel_rfl) (by kernel_rfl) fun ts hl hp => by rw [zy4]; exact h ts hl hp) k
def sg_chhWidth : Sig := ⟨101, 0, [(false, [(.int .i32)])], [(false, [((.int .i64), none)])]⟩
def zcc (k : Nat) : Sig := ⟨sg_chhWidth.f, k, sg_chhWidth.args, sg_chhWidth.res⟩
def z2j : List (FuncId × Nat × Head) := [(163, 2, ⟨[0, 1, 4, 5], [.blk 0, .blk 1], [5, 4], [], [], []⟩)]
def z00 : List (FuncId × Nat × Nat × Plan) := [(163, 1, 4, (.op true 0 (.op true 1 (.op true 2 (.op true 3 .nil)))))]
noncomputable def cx_charwidth_Width : Cx := ⟨Tryz.prog, gtabU, [zgy 0, zet 1], [(163, Tryz.f163), (132, Tryz.f132)], z2j, z00, [], []⟩
theorem zxr {Γ : CEnv} (hg : GK Γ) (hs : GS gtabU Γ cx_charwidth_Width) : CxOk cx_charwidth_Width Γ := ⟨by kernel_rfl, hs, (fun x hx => by
 simp only [cx_charwidth_Width, List.mem_cons, List.not_mem_nil, or_false] at hx
 rcases hx with rfl | rfl
 ·exact ⟨Tryz.func163, by kernel_rfl⟩
 ·exact ⟨Tryz.func132, by kernel_rfl⟩), (fun x hx => by cases hx), (fun m hm => by cases hm)⟩
def tr_charwidth_Width : Tree := (.br (.o2 .lti (.v 0) (.int 32)) (.ret (.int (-1))) (.br (.o2 .lei (.int 127) (.v 0)) (.br (.o2 .lei (.v 0) (.int 159)) (.ret (.int (-1))) (.call 1 [(.v 0)] (.br (.v 1) (.ret (.int 0)) (.call 0 [] (.loop [(.int 0), (.o1 .len (.v 2))] (.br (.o2 .lti (.v 3) (.v 4)) (.req (.o2 .lei (.int 0) (.o2 (.quo .i64) (.o2 (.add .i64) (.v 3) (.v 4)) (.int 2))) (.req (.o2 .lti (.o2 (.quo .i64) (.o2 (.add .i64) (.v 3) (.v 4)) (.int 2)) (.o1 .len (.v 2))) (.br (.o2 .lti (.o1 (.proj 1) (.o2 .idx (.v 2) (.o2 (.quo .i64) (.o2 (.add .i64) (.v 3) (.v 4)) (.int 2)))) (.v 0)) (.back 0 [(.o2 (.add .i64) (.o2 (.quo .i64) (.o2 (.add .i64) (.v 3) (.v 4)) (.int 2)) (.int 1)), (.v 4)]) (.back 0 [(.v 3), (.o2 (.quo .i64) (.o2 (.add .i64) (.v 3) (.v 4)) (.int 2))])))) (.br (.o2 .lti (.v 3) (.o1 .len (.v 2))) (.req (.o2 .lei (.int 0) (.v 3)) (.req (.o2 .lti (.v 3) (.o1 .len (.v 2))) (.br (.o2 .lei (.o1 (.proj 0) (.o2 .idx (.v 2) (.v 3))) (.v 0)) (.ret (.int 2)) (.ret (.int 1))))) (.ret (.int 1))))))))) (.call 1 [(.v 0)] (.br (.v 1) (.ret (.int 0)) (.call 0 [] (.loop [(.int 0), (.o1 .len (.v 2))] (.br (.o2 .lti (.v 3) (.v 4)) (.req (.o2 .lei (.int 0) (.o2 (.quo .i64) (.o2 (.add .i64) (.v 3) (.v 4)) (.int 2))) (.req (.o2 .lti (.o2 (.quo .i64) (.o2 (.add .i64) (.v 3) (.v 4)) (.int 2)) (.o1 .len (.v 2))) (.br (.o2 .lti (.o1 (.proj 1) (.o2 .idx (.v 2) (.o2 (.quo .i64) (.o2 (.add .i64) (.v 3) (.v 4)) (.int 2)))) (.v 0)) (.back 0 [(.o2 (.add .i64) (.o2 (.quo .i64) (.o2 (.add .i64) (.v 3) (.v 4)) (.int 2)) (.int 1)), (.v 4)]) (.back 0 [(.v 3), (.o2 (.quo .i64) (.o2 (.add .i64) (.v 3) (.v 4)) (.int 2))])))) (.br (.o2 .lti (.v 3) (.o1 .len (.v 2))) (.req (.o2 .lei (.int 0) (.v 3)) (.req (.o2 .lti (.v 3) (.o1 .len (.v 2))) (.br (.o2 .lei (.o1 (.proj 0) (.o2 .idx (.v 2) (.v 3))) (.v 0)) (.ret (.int 2)) (.ret (.int 1))))) (.ret (.int 1))))))))))
set_option maxRecDepth 100000 in
theorem zxv : za4 cx_charwidth_Width 4 sg_chhWidth Tryz.f101 (Tryz.f101.body.getD .skip) = tr_charwidth_Width := by kernel_rfl
theorem zif {Γ : CEnv} (hg : GK Γ) (hs : GS gtabU Γ cx_charwidth_Width) : GC gtabU Γ zcc tr_charwidth_Width 1 := fun k _ _ h => Contract.renum (zas (zxr hg hs) 4 sg_chhWidth Tryz.func101 (by kernel_rfl) (by kernel_rfl) fun ts hl hp => by rw [zxv]; exact h ts hl hp) k
end Go.Proofs.YtlhagkbhojmjpaaGreatDoor

/- Written by this repo's own program out of its texts. -/
import Derived.Test.YtlhagkbhojmjpaaGreatDoorPW1
set_option linter.unusedVariables false
set_option linter.unusedSimpArgs false
namespace Go.Proofs.YtlhagkbhojmjpaaGreatDoor
def sg_utmValid : Sig := ⟨110, 0, [(false, [.str])], [(false, [(.bool, none)])]⟩
def zcr (k : Nat) : Sig := ⟨sg_utmValid.f, k, sg_utmValid.args, sg_utmValid.res⟩
def zy0 : List (FuncId × Nat × Head) := []
def zyn : List (FuncId × Nat × Nat × Plan) := []
noncomputable def cx_utf8stream_Valid : Cx := ⟨Tryz.prog, gtabU, [zdi 0], [], zy0, zyn, [], []⟩
theorem zwq {Γ : CEnv} (hg : GK Γ) (hs : GS gtabU Γ cx_utf8stream_Valid) : CxOk cx_utf8stream_Valid Γ := ⟨by kernel_rfl, hs, (fun x hx => by cases hx), (fun x hx => by cases hx), (fun m hm => by cases hm)⟩
def tr_utf8stream_Valid : Tree := (.call 0 [(.v 0)] (.ret (.v 1)))
set_option maxRecDepth 100000 in
theorem zwm : za4 cx_utf8stream_Valid 4 sg_utmValid Tryz.f110 (Tryz.f110.body.getD .skip) = tr_utf8stream_Valid := by kernel_rfl
theorem zee {Γ : CEnv} (hg : GK Γ) (hs : GS gtabU Γ cx_utf8stream_Valid) : GC gtabU Γ zcr tr_utf8stream_Valid 1 := fun k _ _ h => Contract.renum (zas (zwq hg hs) 4 sg_utmValid Tryz.func110 (by kernel_rfl) (by kernel_rfl) fun ts hl hp => by rw [zwm]; exact h ts hl hp) k
def sg_clrmarked : Sig := ⟨111, 0, [(false, [(.slice false [(.int .i32)])])], [(false, [(.bool, none)])]⟩
def zgi (k : Nat) : Sig := ⟨sg_clrmarked.f, k, sg_clrmarked.args, sg_clrmarked.res⟩
def z4v : List (FuncId × Nat × Head) := [(111, 2, ⟨[5, 6, 7], [], [7], [], [], []⟩)]
def z24 : List (FuncId × Nat × Nat × Plan) := []
noncomputable def cx_cluster_marked : Cx := ⟨Tryz.prog, gtabU, [zet 0], [], z4v, z24, [], []⟩
theorem zzf {Γ : CEnv} (hg : GK Γ) (hs : GS gtabU Γ cx_cluster_marked) : CxOk cx_cluster_marked Γ := ⟨by kernel_rfl, hs, (fun x hx => by cases hx), (fun x hx => by cases hx), (fun m hm => by cases hm)⟩
def tr_cluster_marked : Tree := (.loop [(.int 0)] (.br (.o2 .lti (.v 1) (.o1 .len (.v 0))) (.req (.o2 .lei (.int 0) (.v 1)) (.req (.o2 .lti (.v 1) (.o1 .len (.v 0))) (.call 0 [(.o2 .idx (.v 0) (.v 1))] (.br (.o1 .no (.v 2)) (.ret (.bool false)) (.back 0 [(.o2 (.add .i64) (.v 1) (.int 1))]))))) (.ret (.bool true))))
set_option maxRecDepth 100000 in
theorem zz7 : za4 cx_cluster_marked 4 sg_clrmarked Tryz.f111 (Tryz.f111.body.getD .skip) = tr_cluster_marked := by kernel_rfl
theorem zjm {Γ : CEnv} (hg : GK Γ) (hs : GS gtabU Γ cx_cluster_marked) : GC gtabU Γ zgi tr_cluster_marked 1 := fun k _ _ h => Contract.renum (zas (zzf hg hs) 4 sg_clrmarked Tryz.func111 (by kernel_rfl) (by kernel_rfl) fun ts hl hp => by rw [zz7]; exact h ts hl hp) k
def sg_clrCheck : Sig := ⟨86, 0, [(false, [.str])], [(false, [((.int .i64), none)])]⟩
def zh7 (k : Nat) : Sig := ⟨sg_clrCheck.f, k, sg_clrCheck.args, sg_clrCheck.res⟩
def z5t : List (FuncId × Nat × Head) := []
def z5o : List (FuncId × Nat × Nat × Plan) := []
noncomputable def cx_cluster_Check : Cx := ⟨Tryz.prog, gtabU, [zcc 0, zcr 1, zgi 2], [], z5t, z5o, [], []⟩
theorem zz9 {Γ : CEnv} (hg : GK Γ) (hs : GS gtabU Γ cx_cluster_Check) : CxOk cx_cluster_Check Γ := ⟨by kernel_rfl, hs, (fun x hx => by cases hx), (fun x hx => by cases hx), (fun m hm => by cases hm)⟩
def tr_cluster_Check : Tree := (.br (.o2 .eqs (.v 0) (.str [])) (.ret (.int 3)) (.call 1 [(.v 0)] (.br (.o1 .no (.v 1)) (.ret (.int 3)) (.req (.o2 .lei (.o1 .slen (.v 0)) (.int 1099511627776)) (.req (.o2 .lti (.int 0) (.o1 .len (.o1 .runesOf (.v 0)))) (.call 0 [(.o2 .idx (.o1 .runesOf (.v 0)) (.int 0))] (.br (.o2 .lti (.v 2) (.int 1)) (.ret (.int 9)) (.req (.o2 .lei (.int 1) (.o1 .len (.o1 .runesOf (.v 0)))) (.call 2 [(.o3 .sub (.o1 .runesOf (.v 0)) (.int 1) (.o1 .len (.o1 .runesOf (.v 0))))] (.br (.o1 .no (.v 3)) (.ret (.int 9)) (.br (.o2 .lti (.int 3) (.o2 (.sub .i64) (.o1 .len (.o1 .runesOf (.v 0))) (.int 1))) (.ret (.int 5)) (.ret (.int 0)))))))))))))
set_option maxRecDepth 100000 in
theorem z1b : za4 cx_cluster_Check 4 sg_clrCheck Tryz.f86 (Tryz.f86.body.getD .skip) = tr_cluster_Check := by kernel_rfl
theorem zju {Γ : CEnv} (hg : GK Γ) (hs : GS gtabU Γ cx_cluster_Check) : GC gtabU Γ zh7 tr_cluster_Check 1 := fun k _ _ h => Contract.renum (zas (zz9 hg hs) 4 sg_clrCheck Tryz.func86 (by kernel_rfl) (by kernel_rfl) fun ts hl hp => by rw [z1b]; exact h ts hl hp) k
def sg_clrrunes : Sig := ⟨112, 0, [(false, [.str])], [(false, [((.slice false [(.int .i32)]), some 21)])]⟩
def zh3 (k : Nat) : Sig := ⟨sg_clrrunes.f, k, sg_clrrunes.args, sg_clrrunes.res⟩
def z6u : List (FuncId × Nat × Head) := []
def z6m : List (FuncId × Nat × Nat × Plan) := []
noncomputable def cx_cluster_runes : Cx := ⟨Tryz.prog, gtabU, [zh7 0], [], z6u, z6m, [], []⟩
theorem z2l {Γ : CEnv} (hg : GK Γ) (hs : GS gtabU Γ cx_cluster_runes) : CxOk cx_cluster_runes Γ := ⟨by kernel_rfl, hs, (fun x hx => by cases hx), (fun x hx => by cases hx), (fun m hm => by cases hm)⟩
def tr_cluster_runes : Tree := (.call 0 [(.v 0)] (.br (.o1 .no (.o2 .eqi (.v 1) (.int 0))) (.ret .nil) (.req (.o2 .lei (.o1 .slen (.v 0)) (.int 1099511627776)) (.ret (.o1 .runesOf (.v 0))))))
set_option maxRecDepth 100000 in
theorem z13 : za4 cx_cluster_runes 4 sg_clrrunes Tryz.f112 (Tryz.f112.body.getD .skip) = tr_cluster_runes := by kernel_rfl
theorem zjv {Γ : CEnv} (hg : GK Γ) (hs : GS gtabU Γ cx_cluster_runes) : GC gtabU Γ zh3 tr_cluster_runes 1 := fun k _ _ h => Contract.renum (zas (z2l hg hs) 4 sg_clrrunes Tryz.func112 (by kernel_rfl) (by kernel_rfl) fun ts hl hp => by rw [z13]; exact h ts hl hp) k
def sg_clrWidth : Sig := ⟨87, 0, [(false, [.str])], [(false, [((.int .i64), none)])]⟩
def zh6 (k : Nat) : Sig := ⟨sg_clrWidth.f, k, sg_clrWidth.args, sg_clrWidth.res⟩
def z51 : List (FuncId × Nat × Head) := []
def z6f : List (FuncId × Nat × Nat × Plan) := []
noncomputable def cx_cluster_Width : Cx := ⟨Tryz.prog, gtabU, [zcc 0, zh3 1], [], z51, z6f, [], []⟩
theorem z08 {Γ : CEnv} (hg : GK Γ) (hs : GS gtabU Γ cx_cluster_Width) : CxOk cx_cluster_Width Γ := ⟨by kernel_rfl, hs, (fun x hx => by cases hx), (fun x hx => by cases hx), (fun m hm => by cases hm)⟩
def tr_cluster_Width : Tree := (.call 1 [(.v 0)] (.br (.o2 .lti (.int 0) (.o1 .len (.v 1))) (.req (.o2 .lti (.int 0) (.o1 .len (.v 1))) (.call 0 [(.o2 .idx (.v 1) (.int 0))] (.ret (.v 2)))) (.ret (.int 0))))
set_option maxRecDepth 100000 in
theorem z15 : za4 cx_cluster_Width 4 sg_clrWidth Tryz.f87 (Tryz.f87.body.getD .skip) = tr_cluster_Width := by kernel_rfl
theorem zjr {Γ : CEnv} (hg : GK Γ) (hs : GS gtabU Γ cx_cluster_Width) : GC gtabU Γ zh6 tr_cluster_Width 1 := fun k _ _ h => Contract.renum (zas (z08 hg hs) 4 sg_clrWidth Tryz.func87 (by kernel_rfl) (by kernel_rfl) fun ts hl hp => by rw [z15]; exact h ts hl hp) k
def sg_clrMarks : Sig := ⟨208, 0, [(false, [.str])], [(false, [((.slice false [(.int .i32)]), none)])]⟩
def qps (k : Nat) : Sig := ⟨sg_clrMarks.f, k, sg_clrMarks.args, sg_clrMarks.res⟩
def qp3 : List (FuncId × Nat × Head) := []
def qp2 : List (FuncId × Nat × Nat × Plan) := []
noncomputable def cx_cluster_Marks : Cx := ⟨Tryz.prog, gtabU, [zh3 0], [], qp3, qp2, [], []⟩
theorem qpz {Γ : CEnv} (hg : GK Γ) (hs : GS gtabU Γ cx_cluster_Marks) : CxOk cx_cluster_Marks Γ := ⟨by kernel_rfl, hs, (fun x hx => by cases hx), (fun x hx => by cases hx), (fun m hm => by cases hm)⟩
def tr_cluster_Marks : Tree := (.call 0 [(.v 0)] (.br (.o2 .lti (.int 0) (.o1 .len (.v 1))) (.req (.o2 .lei (.int 1) (.o1 .len (.v 1))) (.ret (.o3 .sub (.v 1) (.int 1) (.o1 .len (.v 1))))) (.ret .nil)))
set_option maxRecDepth 100000 in
theorem qpy : za4 cx_cluster_Marks 4 sg_clrMarks Tryz.f208 (Tryz.f208.body.getD .skip) = tr_cluster_Marks := by kernel_rfl
theorem qpu {Γ : CEnv} (hg : GK Γ) (hs : GS gtabU Γ cx_cluster_Marks) : GC gtabU Γ qps tr_cluster_Marks 1 := fun k _ _ h => Contract.renum (zas (qpz hg hs) 4 sg_clrMarks Tryz.func208 (by kernel_rfl) (by kernel_rfl) fun ts hl hp => by rw [qpy]; exact h ts hl hp) k
def sg_clrAttach : Sig := ⟨184, 0, [(false, [.str]), (false, [(.int .i32)])], [(false, [(.str, none)]), (false, [((.int .i64), none)])]⟩
def qpv (k : Nat) : Sig := ⟨sg_clrAttach.f, k, sg_clrAttach.args, sg_clrAttach.res⟩
def qp1 : List (FuncId × Nat × Head) := []
def qp0 : List (FuncId × Nat × Nat × Plan) := []
noncomputable def cx_cluster_Attach : Cx := ⟨Tryz.prog, gtabU, [zci 0, zet 1, zh7 2, qps 3], [], qp1, qp0, [], []⟩
theorem qpw {Γ : CEnv} (hg : GK Γ) (hs : GS gtabU Γ cx_cluster_Attach) : CxOk cx_cluster_Attach Γ := ⟨by kernel_rfl, hs, (fun x hx => by cases hx), (fun x hx => by cases hx), (fun m hm => by cases hm)⟩
def tr_cluster_Attach : Tree := (.call 2 [(.v 0)] (.br (.o1 .no (.o2 .eqi (.v 2) (.int 0))) (.ret (.o1 .agg (.cons (.str []) (.cons (.v 2) .nil)))) (.call 1 [(.v 1)] (.br (.o1 .no (.v 3)) (.ret (.o1 .agg (.cons (.str []) (.cons (.int 9) .nil)))) (.call 3 [(.v 0)] (.br (.o2 .lei (.int 3) (.o1 .len (.v 4))) (.ret (.o1 .agg (.cons (.str []) (.cons (.int 5) .nil)))) (.call 0 [(.cons (.v 1) .nil)] (.req (.o2 .lei (.o1 .slen (.o2 .cat (.v 0) (.v 5))) (.int 9223372036854775807)) (.ret (.o1 .agg (.cons (.o2 .cat (.v 0) (.v 5)) (.cons (.int 0) .nil))))))))))))
set_option maxRecDepth 100000 in
theorem qpx : za4 cx_cluster_Attach 4 sg_clrAttach Tryz.f184 (Tryz.f184.body.getD .skip) = tr_cluster_Attach := by kernel_rfl
theorem qpt {Γ : CEnv} (hg : GK Γ) (hs : GS gtabU Γ cx_cluster_Attach) : GC gtabU Γ qpv tr_cluster_Attach 2 := fun k _ _ h => Contract.renum (zas (qpw hg hs) 4 sg_clrAttach Tryz.func184 (by kernel_rfl) (by kernel_rfl) fun ts hl hp => by rw [qpx]; exact h ts hl hp) k
end Go.Proofs.YtlhagkbhojmjpaaGreatDoor

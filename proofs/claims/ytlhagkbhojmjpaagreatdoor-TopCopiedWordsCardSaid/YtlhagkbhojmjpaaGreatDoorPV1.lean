/- Written by this repo's own program out of its texts. -/
import Derived.Test.YtlhagkbhojmjpaaGreatDoorPBld
import Derived.Test.YtlhagkbhojmjpaaGreatDoorPGg
set_option linter.unusedVariables false
set_option linter.unusedSimpArgs false
namespace Go.Proofs.YtlhagkbhojmjpaaGreatDoor
def sg_setWords : Sig := ⟨23, 0, [(false, [(.slice true [.str, .bool, (.int .i64)])])], [(false, [((.slice true [(.int .i64), (.int .i64)]), some 68)])]⟩
def q46 (k : Nat) : Sig := ⟨sg_setWords.f, k, sg_setWords.args, sg_setWords.res⟩
def sg_ref15_GreatRow : Sig := ⟨50, 0, [(false, [(.slice true [.str, .bool, (.int .i64)])])], [(false, [(.bool, none)])]⟩
def qcd (k : Nat) : Sig := ⟨sg_ref15_GreatRow.f, k, sg_ref15_GreatRow.args, sg_ref15_GreatRow.res⟩
def qfq : List (FuncId × Nat × Head) := [(50, 4, ⟨[0, 3], [], [3], [], [], []⟩)]
def qfb : List (FuncId × Nat × Nat × Plan) := []
noncomputable def cx_ref15_GreatRow : Cx := ⟨Tryz.prog, gtabU, [], [], qfq, qfb, [], []⟩
theorem qeg {Γ : CEnv} (hg : GK Γ) (hs : GS gtabU Γ cx_ref15_GreatRow) : CxOk cx_ref15_GreatRow Γ := ⟨by kernel_rfl, hs, (fun x hx => by cases hx), (fun x hx => by cases hx), (fun m hm => by cases hm)⟩
def tr_ref15_GreatRow : Tree := (.br (.o2 .lti (.int 140) (.o1 .len (.v 0))) (.ret (.bool true)) (.loop [(.int 0)] (.br (.o2 .lti (.v 1) (.o1 .len (.v 0))) (.req (.o2 .lei (.int 0) (.v 1)) (.req (.o2 .lti (.v 1) (.o1 .len (.v 0))) (.br (.o2 .lti (.int 40) (.o1 .slen (.o1 (.proj 0) (.o2 .idx (.v 0) (.v 1))))) (.ret (.bool true)) (.back 0 [(.o2 (.add .i64) (.v 1) (.int 1))])))) (.ret (.bool false)))))
set_option maxRecDepth 100000 in
theorem qeo : za4 cx_ref15_GreatRow 4 sg_ref15_GreatRow Tryz.f50 (Tryz.f50.body.getD .skip) = tr_ref15_GreatRow := by kernel_rfl
theorem qcy {Γ : CEnv} (hg : GK Γ) (hs : GS gtabU Γ cx_ref15_GreatRow) : GC gtabU Γ qcd tr_ref15_GreatRow 1 := fun k _ _ h => Contract.renum (zas (qeg hg hs) 4 sg_ref15_GreatRow Tryz.func50 (by kernel_rfl) (by kernel_rfl) fun ts hl hp => by rw [qeo]; exact h ts hl hp) k
def sg_ref15_Great : Sig := ⟨17, 0, [(true, [(.int .i64), (.int .i64), (.slice false [(.slice true [.str, .bool, (.int .i64)])]), (.int .i64), (.int .i64), .bool])], [(false, [(.bool, none)])]⟩
def qb1 (k : Nat) : Sig := ⟨sg_ref15_Great.f, k, sg_ref15_Great.args, sg_ref15_Great.res⟩
def hd_ref15_Great : List (FuncId × Nat × Head) := [(17, 4, ⟨[1, 3], [.slot 1 true 24 false []], [3], [], [], []⟩)]
def pl_ref15_Great : List (FuncId × Nat × Nat × Plan) := []
noncomputable def cx_ref15_Great : Cx := ⟨Tryz.prog, gtabU, [qcd 0], [], hd_ref15_Great, pl_ref15_Great, [], []⟩
theorem qgn {Γ : CEnv} (hg : GK Γ) (hs : GS gtabU Γ cx_ref15_Great) : CxOk cx_ref15_Great Γ := ⟨by kernel_rfl, hs, (fun x hx => by cases hx), (fun x hx => by cases hx), (fun m hm => by cases hm)⟩
def tr_ref15_Great : Tree := (.br (.o2 .lti (.int 12) (.o1 .len (.o1 (.proj 2) (.v 0)))) (.ret (.bool true)) (.br (.o2 .lti (.int 40) (.o1 (.proj 0) (.v 0))) (.br (.o2 .lti (.int 2) (.o1 .len (.o1 (.proj 2) (.v 0)))) (.ret (.bool true)) (.loop [(.int 0)] (.br (.o2 .lti (.v 1) (.o1 .len (.o1 (.proj 2) (.v 0)))) (.req (.o2 .lei (.int 0) (.v 1)) (.req (.o2 .lti (.v 1) (.o1 .len (.o1 (.proj 2) (.v 0)))) (.call 0 [(.o2 .idx (.o1 (.proj 2) (.v 0)) (.v 1))] (.br (.v 2) (.ret (.bool true)) (.back 0 [(.o2 (.add .i64) (.v 1) (.int 1))]))))) (.ret (.bool false))))) (.loop [(.int 0)] (.br (.o2 .lti (.v 1) (.o1 .len (.o1 (.proj 2) (.v 0)))) (.req (.o2 .lei (.int 0) (.v 1)) (.req (.o2 .lti (.v 1) (.o1 .len (.o1 (.proj 2) (.v 0)))) (.call 0 [(.o2 .idx (.o1 (.proj 2) (.v 0)) (.v 1))] (.br (.v 2) (.ret (.bool true)) (.back 0 [(.o2 (.add .i64) (.v 1) (.int 1))]))))) (.ret (.bool false))))))
set_option maxRecDepth 100000 in
theorem qf1 : za4 cx_ref15_Great 4 sg_ref15_Great Tryz.f17 (Tryz.f17.body.getD .skip) = tr_ref15_Great := by kernel_rfl
theorem qdx {Γ : CEnv} (hg : GK Γ) (hs : GS gtabU Γ cx_ref15_Great) : GC gtabU Γ qb1 tr_ref15_Great 1 := fun k _ _ h => Contract.renum (zas (qgn hg hs) 4 sg_ref15_Great Tryz.func17 (by kernel_rfl) (by kernel_rfl) fun ts hl hp => by rw [qf1]; exact h ts hl hp) k
def sg_view_sized : Sig := ⟨51, 0, [(false, [(.int .i64)]), (false, [(.int .i64)])], [(false, [(.bool, none)])]⟩
def qc1 (k : Nat) : Sig := ⟨sg_view_sized.f, k, sg_view_sized.args, sg_view_sized.res⟩
def hd_view_sized : List (FuncId × Nat × Head) := []
def pl_view_sized : List (FuncId × Nat × Nat × Plan) := []
noncomputable def cx_view_sized : Cx := ⟨Tryz.prog, gtabU, [], [], hd_view_sized, pl_view_sized, [], []⟩
theorem qg4 {Γ : CEnv} (hg : GK Γ) (hs : GS gtabU Γ cx_view_sized) : CxOk cx_view_sized Γ := ⟨by kernel_rfl, hs, (fun x hx => by cases hx), (fun x hx => by cases hx), (fun m hm => by cases hm)⟩
def tr_view_sized : Tree := (.br (.o2 .lei (.int 1) (.v 0)) (.br (.o2 .lei (.v 0) (.int 132)) (.br (.o2 .lei (.int 1) (.v 1)) (.ret (.o2 .lei (.v 1) (.int 60))) (.ret (.bool false))) (.ret (.bool false))) (.ret (.bool false)))
set_option maxRecDepth 100000 in
theorem qhd : za4 cx_view_sized 4 sg_view_sized Tryz.f51 (Tryz.f51.body.getD .skip) = tr_view_sized := by kernel_rfl
theorem qec {Γ : CEnv} (hg : GK Γ) (hs : GS gtabU Γ cx_view_sized) : GC gtabU Γ qc1 tr_view_sized 2 := fun k _ _ h => Contract.renum (zas (qg4 hg hs) 4 sg_view_sized Tryz.func51 (by kernel_rfl) (by kernel_rfl) fun ts hl hp => by rw [qhd]; exact h ts hl hp) k
def sg_view_blank : Sig := ⟨53, 0, [], [(true, [(.str, none), (.bool, none), ((.int .i64), none)])]⟩
def qcz (k : Nat) : Sig := ⟨sg_view_blank.f, k, sg_view_blank.args, sg_view_blank.res⟩
def hd_view_blank : List (FuncId × Nat × Head) := []
def pl_view_blank : List (FuncId × Nat × Nat × Plan) := []
noncomputable def cx_view_blank : Cx := ⟨Tryz.prog, gtabU, [], [], hd_view_blank, pl_view_blank, [], []⟩
theorem qhg {Γ : CEnv} (hg : GK Γ) (hs : GS gtabU Γ cx_view_blank) : CxOk cx_view_blank Γ := ⟨by kernel_rfl, hs, (fun x hx => by cases hx), (fun x hx => by cases hx), (fun m hm => by cases hm)⟩
def tr_view_blank : Tree := (.ret (.o1 .agg (.cons (.str [32]) (.cons (.bool false) (.cons (.int 0) .nil)))))
set_option maxRecDepth 100000 in
theorem qhp : za4 cx_view_blank 4 sg_view_blank Tryz.f53 (Tryz.f53.body.getD .skip) = tr_view_blank := by kernel_rfl
theorem qeh {Γ : CEnv} (hg : GK Γ) (hs : GS gtabU Γ cx_view_blank) : GC gtabU Γ qcz tr_view_blank 0 := fun k _ _ h => Contract.renum (zas (qhg hg hs) 4 sg_view_blank Tryz.func53 (by kernel_rfl) (by kernel_rfl) fun ts hl hp => by rw [qhp]; exact h ts hl hp) k
def sg_view_glyph : Sig := ⟨52, 0, [(true, [.str, .bool, (.int .i64)])], [(false, [((.int .i64), none)])]⟩
def qc6 (k : Nat) : Sig := ⟨sg_view_glyph.f, k, sg_view_glyph.args, sg_view_glyph.res⟩
def hd_view_glyph : List (FuncId × Nat × Head) := []
def pl_view_glyph : List (FuncId × Nat × Nat × Plan) := [(52, 3, 27, (.op true 0 (.op true 1 (.op true 2 (.op true 3 (.op false 4 (.op false 5 (.op false 6 (.op false 7 (.op true 8 (.op true 9 (.op true 10 (.op false 11 (.op false 12 (.op true 13 (.op true 14 (.op true 15 (.op false 16 (.op false 17 (.op true 18 (.op true 19 (.op true 20 (.op true 21 (.op true 22 (.op true 23 (.op true 24 (.op true 25 (.op false 26 .nil))))))))))))))))))))))))))))]
noncomputable def cx_view_glyph : Cx := ⟨Tryz.prog, gtabU, [zh7 0, zh6 1], [], hd_view_glyph, pl_view_glyph, [], []⟩
theorem qhj {Γ : CEnv} (hg : GK Γ) (hs : GS gtabU Γ cx_view_glyph) : CxOk cx_view_glyph Γ := ⟨by kernel_rfl, hs, (fun x hx => by cases hx), (fun x hx => by cases hx), (fun m hm => by cases hm)⟩
def tr_view_glyph : Tree := (.call 0 [(.o1 (.proj 0) (.v 0))] (.br (.o1 .no (.o2 .eqi (.v 1) (.int 0))) (.ret (.int 3)) (.call 1 [(.o1 (.proj 0) (.v 0))] (.br (.o1 .no (.o2 .eqb (.o1 (.proj 1) (.v 0)) (.o2 .eqi (.v 2) (.int 2)))) (.ret (.int 9)) (.br (.o2 .lti (.o1 (.proj 2) (.v 0)) (.int 0)) (.ret (.int 9)) (.br (.o2 .lti (.int 3) (.o1 (.proj 2) (.v 0))) (.ret (.int 9)) (.br (.o2 .eqi (.o1 (.proj 2) (.v 0)) (.int 3)) (.br (.o1 .no (.o2 .eqs (.o1 (.proj 0) (.v 0)) (.str [42]))) (.ret (.int 9)) (.ret (.int 0))) (.ret (.int 0)))))))))
set_option maxRecDepth 100000 in
theorem qgz : za4 cx_view_glyph 4 sg_view_glyph Tryz.f52 (Tryz.f52.body.getD .skip) = tr_view_glyph := by kernel_rfl
theorem qeb {Γ : CEnv} (hg : GK Γ) (hs : GS gtabU Γ cx_view_glyph) : GC gtabU Γ qc6 tr_view_glyph 1 := fun k _ _ h => Contract.renum (zas (qhj hg hs) 4 sg_view_glyph Tryz.func52 (by kernel_rfl) (by kernel_rfl) fun ts hl hp => by rw [qgz]; exact h ts hl hp) k
def sg_view_Width : Sig := ⟨32, 0, [(false, [(.slice true [.str, .bool, (.int .i64)])])], [(false, [((.int .i64), none)])]⟩
def qck (k : Nat) : Sig := ⟨sg_view_Width.f, k, sg_view_Width.args, sg_view_Width.res⟩
def hd_view_Width : List (FuncId × Nat × Head) := [(32, 3, ⟨[3, 8, 9, 10], [], [10, 3], [], [], []⟩)]
def pl_view_Width : List (FuncId × Nat × Nat × Plan) := []
noncomputable def cx_view_Width : Cx := ⟨Tryz.prog, gtabU, [], [], hd_view_Width, pl_view_Width, [], []⟩
theorem qhi {Γ : CEnv} (hg : GK Γ) (hs : GS gtabU Γ cx_view_Width) : CxOk cx_view_Width Γ := ⟨by kernel_rfl, hs, (fun x hx => by cases hx), (fun x hx => by cases hx), (fun m hm => by cases hm)⟩
def tr_view_Width : Tree := (.loop [(.o1 .len (.v 0)), (.int 0)] (.br (.o2 .lti (.v 2) (.o1 .len (.v 0))) (.req (.o2 .lei (.int 0) (.v 2)) (.req (.o2 .lti (.v 2) (.o1 .len (.v 0))) (.br (.o1 (.proj 1) (.o2 .idx (.v 0) (.v 2))) (.back 0 [(.o2 (.add .i64) (.v 1) (.int 1)), (.o2 (.add .i64) (.v 2) (.int 1))]) (.back 0 [(.v 1), (.o2 (.add .i64) (.v 2) (.int 1))])))) (.ret (.v 1))))
set_option maxRecDepth 100000 in
theorem qg0 : za4 cx_view_Width 4 sg_view_Width Tryz.f32 (Tryz.f32.body.getD .skip) = tr_view_Width := by kernel_rfl
theorem qef {Γ : CEnv} (hg : GK Γ) (hs : GS gtabU Γ cx_view_Width) : GC gtabU Γ qck tr_view_Width 1 := fun k _ _ h => Contract.renum (zas (qhi hg hs) 4 sg_view_Width Tryz.func32 (by kernel_rfl) (by kernel_rfl) fun ts hl hp => by rw [qg0]; exact h ts hl hp) k
def sg_view_Index : Sig := ⟨21, 0, [(false, [(.slice true [.str, .bool, (.int .i64)])]), (false, [(.int .i64)])], [(false, [((.int .i64), none)])]⟩
def qc5 (k : Nat) : Sig := ⟨sg_view_Index.f, k, sg_view_Index.args, sg_view_Index.res⟩
def hd_view_Index : List (FuncId × Nat × Head) := [(21, 5, ⟨[0, 1, 5, 10, 11, 12], [], [12, 5], [], [], []⟩)]
def pl_view_Index : List (FuncId × Nat × Nat × Plan) := []
noncomputable def cx_view_Index : Cx := ⟨Tryz.prog, gtabU, [], [], hd_view_Index, pl_view_Index, [], []⟩
theorem qhu {Γ : CEnv} (hg : GK Γ) (hs : GS gtabU Γ cx_view_Index) : CxOk cx_view_Index Γ := ⟨by kernel_rfl, hs, (fun x hx => by cases hx), (fun x hx => by cases hx), (fun m hm => by cases hm)⟩
def tr_view_Index : Tree := (.br (.o2 .lti (.v 1) (.int 0)) (.ret (.int (-1))) (.loop [(.int 0), (.int 0)] (.br (.o2 .lti (.v 3) (.o1 .len (.v 0))) (.req (.o2 .lei (.int 0) (.v 3)) (.req (.o2 .lti (.v 3) (.o1 .len (.v 0))) (.br (.o1 (.proj 1) (.o2 .idx (.v 0) (.v 3))) (.br (.o2 .lti (.v 1) (.o2 (.add .i64) (.o2 (.add .i64) (.v 2) (.int 1)) (.int 1))) (.ret (.v 3)) (.back 0 [(.o2 (.add .i64) (.o2 (.add .i64) (.v 2) (.int 1)) (.int 1)), (.o2 (.add .i64) (.v 3) (.int 1))])) (.br (.o2 .lti (.v 1) (.o2 (.add .i64) (.v 2) (.int 1))) (.ret (.v 3)) (.back 0 [(.o2 (.add .i64) (.v 2) (.int 1)), (.o2 (.add .i64) (.v 3) (.int 1))]))))) (.ret (.o2 (.sub .i64) (.o2 (.add .i64) (.o1 .len (.v 0)) (.v 1)) (.v 2))))))
set_option maxRecDepth 100000 in
theorem qgt : za4 cx_view_Index 4 sg_view_Index Tryz.f21 (Tryz.f21.body.getD .skip) = tr_view_Index := by kernel_rfl
theorem qej {Γ : CEnv} (hg : GK Γ) (hs : GS gtabU Γ cx_view_Index) : GC gtabU Γ qc5 tr_view_Index 2 := fun k _ _ h => Contract.renum (zas (qhu hg hs) 4 sg_view_Index Tryz.func21 (by kernel_rfl) (by kernel_rfl) fun ts hl hp => by rw [qgt]; exact h ts hl hp) k
def sg_view_Check : Sig := ⟨18, 0, [(true, [(.int .i64), (.int .i64), (.slice false [(.slice true [.str, .bool, (.int .i64)])]), (.int .i64), (.int .i64), .bool])], [(false, [((.int .i64), none)])]⟩
def qcj (k : Nat) : Sig := ⟨sg_view_Check.f, k, sg_view_Check.args, sg_view_Check.res⟩
def hd_view_Check : List (FuncId × Nat × Head) := [(18, 8, ⟨[1, 47, 48, 49], [.slot 1 true 24 false []], [49], [], [], []⟩), (18, 11, ⟨[1, 4, 47, 48, 49, 53, 54, 55], [.slot 1 true 24 false []], [55], [], [], []⟩)]
def pl_view_Check : List (FuncId × Nat × Nat × Plan) := [(18, 17, 5, (.op true 0 (.op true 2 (.op true 3 (.op false 1 (.op false 4 .nil)))))), (18, 20, 11, (.op true 0 (.op true 1 (.op true 2 (.op true 3 (.op true 4 (.op true 5 (.op true 6 (.op true 7 (.op false 8 (.op false 9 (.op false 10 .nil))))))))))))]
noncomputable def cx_view_Check : Cx := ⟨Tryz.prog, gtabU, [qc1 0, qcz 1, qc6 2, qck 3], [], hd_view_Check, pl_view_Check, [], []⟩
theorem qg8 {Γ : CEnv} (hg : GK Γ) (hs : GS gtabU Γ cx_view_Check) : CxOk cx_view_Check Γ := ⟨by kernel_rfl, hs, (fun x hx => by cases hx), (fun x hx => by cases hx), (fun m hm => by cases hm)⟩
def tr_view_Check : Tree := (.call 0 [(.o1 (.proj 0) (.v 0)), (.o1 (.proj 1) (.v 0))] (.br (.o1 .no (.v 1)) (.ret (.int 2)) (.br (.o1 .no (.o2 .eqi (.o1 .len (.o1 (.proj 2) (.v 0))) (.o1 (.proj 1) (.v 0)))) (.ret (.int 11)) (.br (.o2 .lti (.o1 (.proj 3) (.v 0)) (.int 0)) (.ret (.int 2)) (.br (.o2 .lei (.o1 (.proj 1) (.v 0)) (.o1 (.proj 3) (.v 0))) (.ret (.int 2)) (.br (.o2 .lti (.o1 (.proj 4) (.v 0)) (.int 0)) (.ret (.int 2)) (.br (.o2 .lei (.o1 (.proj 0) (.v 0)) (.o1 (.proj 4) (.v 0))) (.ret (.int 2)) (.loop [(.int 0)] (.br (.o2 .lti (.v 2) (.o1 .len (.o1 (.proj 2) (.v 0)))) (.req (.o2 .lei (.int 0) (.v 2)) (.req (.o2 .lti (.v 2) (.o1 .len (.o1 (.proj 2) (.v 0)))) (.loop [(.int 0)] (.br (.o2 .lti (.v 3) (.o1 .len (.o2 .idx (.o1 (.proj 2) (.v 0)) (.v 2)))) (.req (.o2 .lei (.int 0) (.v 3)) (.req (.o2 .lti (.v 3) (.o1 .len (.o2 .idx (.o1 (.proj 2) (.v 0)) (.v 2)))) (.call 2 [(.o1 .agg (.cons (.o1 (.proj 0) (.o2 .idx (.o2 .idx (.o1 (.proj 2) (.v 0)) (.v 2)) (.v 3))) (.cons (.o1 (.proj 1) (.o2 .idx (.o2 .idx (.o1 (.proj 2) (.v 0)) (.v 2)) (.v 3))) (.cons (.o1 (.proj 2) (.o2 .idx (.o2 .idx (.o1 (.proj 2) (.v 0)) (.v 2)) (.v 3))) .nil))))] (.br (.o1 .no (.o2 .eqi (.v 4) (.int 0))) (.ret (.v 4)) (.back 1 [(.o2 (.add .i64) (.v 3) (.int 1))]))))) (.call 3 [(.o2 .idx (.o1 (.proj 2) (.v 0)) (.v 2))] (.br (.o2 .lti (.o1 (.proj 0) (.v 0)) (.v 4)) (.ret (.int 12)) (.br (.o2 .lti (.int 0) (.o1 .len (.o2 .idx (.o1 (.proj 2) (.v 0)) (.v 2)))) (.req (.o2 .lei (.int 0) (.o2 (.sub .i64) (.o1 .len (.o2 .idx (.o1 (.proj 2) (.v 0)) (.v 2))) (.int 1))) (.req (.o2 .lti (.o2 (.sub .i64) (.o1 .len (.o2 .idx (.o1 (.proj 2) (.v 0)) (.v 2))) (.int 1)) (.o1 .len (.o2 .idx (.o1 (.proj 2) (.v 0)) (.v 2)))) (.call 1 [] (.br (.o3 .ite (.o2 .eqs (.o1 (.proj 0) (.o2 .idx (.o2 .idx (.o1 (.proj 2) (.v 0)) (.v 2)) (.o2 (.sub .i64) (.o1 .len (.o2 .idx (.o1 (.proj 2) (.v 0)) (.v 2))) (.int 1)))) (.o1 (.proj 0) (.v 5))) (.o3 .ite (.o2 .eqb (.o1 (.proj 1) (.o2 .idx (.o2 .idx (.o1 (.proj 2) (.v 0)) (.v 2)) (.o2 (.sub .i64) (.o1 .len (.o2 .idx (.o1 (.proj 2) (.v 0)) (.v 2))) (.int 1)))) (.o1 (.proj 1) (.v 5))) (.o3 .ite (.o2 .eqi (.o1 (.proj 2) (.o2 .idx (.o2 .idx (.o1 (.proj 2) (.v 0)) (.v 2)) (.o2 (.sub .i64) (.o1 .len (.o2 .idx (.o1 (.proj 2) (.v 0)) (.v 2))) (.int 1)))) (.o1 (.proj 2) (.v 5))) (.bool true) (.bool false)) (.bool false)) (.bool false)) (.ret (.int 1)) (.back 0 [(.o2 (.add .i64) (.v 2) (.int 1))]))))) (.back 0 [(.o2 (.add .i64) (.v 2) (.int 1))])))))))) (.ret (.int 0)))))))))))
set_option maxRecDepth 100000 in
theorem qgv : za4 cx_view_Check 4 sg_view_Check Tryz.f18 (Tryz.f18.body.getD .skip) = tr_view_Check := by kernel_rfl
theorem qep {Γ : CEnv} (hg : GK Γ) (hs : GS gtabU Γ cx_view_Check) : GC gtabU Γ qcj tr_view_Check 1 := fun k _ _ h => Contract.renum (zas (qg8 hg hs) 4 sg_view_Check Tryz.func18 (by kernel_rfl) (by kernel_rfl) fun ts hl hp => by rw [qgv]; exact h ts hl hp) k
def sg_view_Text : Sig := ⟨57, 0, [(false, [(.slice true [.str, .bool, (.int .i64)])])], [(false, [(.str, none)])]⟩
def q5a (k : Nat) : Sig := ⟨sg_view_Text.f, k, sg_view_Text.args, sg_view_Text.res⟩
def hd_view_Text : List (FuncId × Nat × Head) := [(57, 3, ⟨[3, 6, 7, 8], [.slot 3 true 163 false [], .cell 3 0 true 0 false [], .cell 3 1 true 5 false [(.int .u8)]], [8], [2], [], []⟩)]
def pl_view_Text : List (FuncId × Nat × Nat × Plan) := []
noncomputable def cx_view_Text : Cx := ⟨Tryz.prog, gtabU, [], [(92, Tryz.f92)], hd_view_Text, pl_view_Text, [(118, .check 163), (93, .bstr 163 5)], []⟩
theorem cxok_view_Text {Γ : CEnv} (hg : GK Γ) (hs : GS gtabU Γ cx_view_Text) : CxOk cx_view_Text Γ := ⟨by kernel_rfl, hs, (fun x hx => by
 simp only [cx_view_Text, List.mem_cons, List.not_mem_nil, or_false] at hx
 rcases hx with rfl
 ·exact ⟨Tryz.func92, by kernel_rfl⟩), (fun x hx => by
 simp only [cx_view_Text, List.mem_cons, List.not_mem_nil, or_false] at hx
 rcases hx with rfl | rfl
 ·exact primok_check
 ·exact primok_bstr), (fun m hm => by cases hm)⟩
def tr_view_Text : Tree := (.loop [(.int 0), .nil] (.br (.o2 .lti (.v 1) (.o1 .len (.v 0))) (.req (.o2 .lei (.int 0) (.v 1)) (.req (.o2 .lti (.v 1) (.o1 .len (.v 0))) (.req (.o2 .lei (.o1 .len (.o2 .app (.v 2) (.o1 .bytesOf (.o1 (.proj 0) (.o2 .idx (.v 0) (.v 1)))))) (.int 1099511627776)) (.back 0 [(.o2 (.add .i64) (.v 1) (.int 1)), (.o2 .app (.v 2) (.o1 .bytesOf (.o1 (.proj 0) (.o2 .idx (.v 0) (.v 1)))))])))) (.ret (.o1 .strOf (.v 2)))))
set_option maxRecDepth 100000 in
theorem tree_view_Text : za4 cx_view_Text 4 sg_view_Text Tryz.f57 (Tryz.f57.body.getD .skip) = tr_view_Text := by kernel_rfl
theorem contract_view_Text {Γ : CEnv} (hg : GK Γ) (hs : GS gtabU Γ cx_view_Text) : GC gtabU Γ q5a tr_view_Text 1 := fun k _ _ h => Contract.renum (zas (cxok_view_Text hg hs) 4 sg_view_Text Tryz.func57 (by kernel_rfl) (by kernel_rfl) fun ts hl hp => by rw [tree_view_Text]; exact h ts hl hp) k
def sg_setkind : Sig := ⟨60, 0, [(true, [.str, .bool, (.int .i64)])], [(false, [((.int .i64), none)])]⟩
def q5r (k : Nat) : Sig := ⟨sg_setkind.f, k, sg_setkind.args, sg_setkind.res⟩
def q5s : List (FuncId × Nat × Head) := []
def q5q : List (FuncId × Nat × Nat × Plan) := []
noncomputable def cx_segment_kind : Cx := ⟨Tryz.prog, gtabU, [], [], q5s, q5q, [], []⟩
theorem q5l {Γ : CEnv} (hg : GK Γ) (hs : GS gtabU Γ cx_segment_kind) : CxOk cx_segment_kind Γ := ⟨by kernel_rfl, hs, (fun x hx => by cases hx), (fun x hx => by cases hx), (fun m hm => by cases hm)⟩
def tr_segment_kind : Tree := (.br (.o2 .eqs (.o1 (.proj 0) (.v 0)) (.str [])) (.ret (.int 0)) (.br (.o2 .eqs (.o1 (.proj 0) (.v 0)) (.str [32])) (.ret (.int 0)) (.req (.o2 .lti (.int 0) (.o1 .slen (.o1 (.proj 0) (.v 0)))) (.br (.o2 .lei (.int 128) (.o2 .sidx (.o1 (.proj 0) (.v 0)) (.int 0))) (.ret (.int 1)) (.br (.o2 .eqi (.o2 .sidx (.o1 (.proj 0) (.v 0)) (.int 0)) (.int 95)) (.ret (.int 1)) (.br (.o2 .lei (.int 48) (.o2 .sidx (.o1 (.proj 0) (.v 0)) (.int 0))) (.br (.o2 .lei (.o2 .sidx (.o1 (.proj 0) (.v 0)) (.int 0)) (.int 57)) (.ret (.int 1)) (.br (.o2 .lei (.int 65) (.o2 .sidx (.o1 (.proj 0) (.v 0)) (.int 0))) (.br (.o2 .lei (.o2 .sidx (.o1 (.proj 0) (.v 0)) (.int 0)) (.int 90)) (.ret (.int 1)) (.br (.o2 .lei (.int 97) (.o2 .sidx (.o1 (.proj 0) (.v 0)) (.int 0))) (.br (.o2 .lei (.o2 .sidx (.o1 (.proj 0) (.v 0)) (.int 0)) (.int 122)) (.ret (.int 1)) (.ret (.int 2))) (.ret (.int 2)))) (.br (.o2 .lei (.int 97) (.o2 .sidx (.o1 (.proj 0) (.v 0)) (.int 0))) (.br (.o2 .lei (.o2 .sidx (.o1 (.proj 0) (.v 0)) (.int 0)) (.int 122)) (.ret (.int 1)) (.ret (.int 2))) (.ret (.int 2))))) (.br (.o2 .lei (.int 65) (.o2 .sidx (.o1 (.proj 0) (.v 0)) (.int 0))) (.br (.o2 .lei (.o2 .sidx (.o1 (.proj 0) (.v 0)) (.int 0)) (.int 90)) (.ret (.int 1)) (.br (.o2 .lei (.int 97) (.o2 .sidx (.o1 (.proj 0) (.v 0)) (.int 0))) (.br (.o2 .lei (.o2 .sidx (.o1 (.proj 0) (.v 0)) (.int 0)) (.int 122)) (.ret (.int 1)) (.ret (.int 2))) (.ret (.int 2)))) (.br (.o2 .lei (.int 97) (.o2 .sidx (.o1 (.proj 0) (.v 0)) (.int 0))) (.br (.o2 .lei (.o2 .sidx (.o1 (.proj 0) (.v 0)) (.int 0)) (.int 122)) (.ret (.int 1)) (.ret (.int 2))) (.ret (.int 2))))))))))
set_option maxRecDepth 100000 in
theorem q5j : za4 cx_segment_kind 4 sg_setkind Tryz.f60 (Tryz.f60.body.getD .skip) = tr_segment_kind := by kernel_rfl
theorem contract_segment_kind {Γ : CEnv} (hg : GK Γ) (hs : GS gtabU Γ cx_segment_kind) : GC gtabU Γ q5r tr_segment_kind 1 := fun k _ _ h => Contract.renum (zas (q5l hg hs) 4 sg_setkind Tryz.func60 (by kernel_rfl) (by kernel_rfl) fun ts hl hp => by rw [q5j]; exact h ts hl hp) k
def sg_clgposition : Sig := ⟨55, 0, [(true, [(.int .i64), (.int .i64), (.slice false [(.slice true [.str, .bool, (.int .i64)])]), (.int .i64), (.int .i64), .bool]), (false, [(.int .i64)]), (false, [(.int .i64)])], [(false, [(.bool, none)])]⟩
def q4w (k : Nat) : Sig := ⟨sg_clgposition.f, k, sg_clgposition.args, sg_clgposition.res⟩
def q5b : List (FuncId × Nat × Head) := []
def q5c : List (FuncId × Nat × Nat × Plan) := []
noncomputable def cx_clipping_position : Cx := ⟨Tryz.prog, gtabU, [], [], q5b, q5c, [], []⟩
theorem q49 {Γ : CEnv} (hg : GK Γ) (hs : GS gtabU Γ cx_clipping_position) : CxOk cx_clipping_position Γ := ⟨by kernel_rfl, hs, (fun x hx => by cases hx), (fun x hx => by cases hx), (fun m hm => by cases hm)⟩
def tr_clipping_position : Tree := (.br (.o2 .lei (.int 0) (.v 1)) (.br (.o2 .lti (.v 1) (.o1 (.proj 1) (.v 0))) (.br (.o2 .lei (.int 0) (.v 2)) (.ret (.o2 .lei (.v 2) (.o1 (.proj 0) (.v 0)))) (.ret (.bool false))) (.ret (.bool false))) (.ret (.bool false)))
set_option maxRecDepth 100000 in
theorem q48 : za4 cx_clipping_position 4 sg_clgposition Tryz.f55 (Tryz.f55.body.getD .skip) = tr_clipping_position := by kernel_rfl
theorem contract_clipping_position {Γ : CEnv} (hg : GK Γ) (hs : GS gtabU Γ cx_clipping_position) : GC gtabU Γ q4w tr_clipping_position 3 := fun k _ _ h => Contract.renum (zas (q49 hg hs) 4 sg_clgposition Tryz.func55 (by kernel_rfl) (by kernel_rfl) fun ts hl hp => by rw [q48]; exact h ts hl hp) k
def sg_clgindex : Sig := ⟨56, 0, [(false, [(.slice true [.str, .bool, (.int .i64)])]), (false, [(.int .i64)])], [(false, [((.int .i64), none)])]⟩
def q45 (k : Nat) : Sig := ⟨sg_clgindex.f, k, sg_clgindex.args, sg_clgindex.res⟩
def q5i : List (FuncId × Nat × Head) := []
def q5m : List (FuncId × Nat × Nat × Plan) := []
noncomputable def cx_clipping_index : Cx := ⟨Tryz.prog, gtabU, [qc5 0], [], q5i, q5m, [], []⟩
theorem q5f {Γ : CEnv} (hg : GK Γ) (hs : GS gtabU Γ cx_clipping_index) : CxOk cx_clipping_index Γ := ⟨by kernel_rfl, hs, (fun x hx => by cases hx), (fun x hx => by cases hx), (fun m hm => by cases hm)⟩
def tr_clipping_index : Tree := (.call 0 [(.v 0), (.v 1)] (.ret (.o2 .min (.v 2) (.o1 .len (.v 0)))))
set_option maxRecDepth 100000 in
theorem q5d : za4 cx_clipping_index 4 sg_clgindex Tryz.f56 (Tryz.f56.body.getD .skip) = tr_clipping_index := by kernel_rfl
theorem contract_clipping_index {Γ : CEnv} (hg : GK Γ) (hs : GS gtabU Γ cx_clipping_index) : GC gtabU Γ q45 tr_clipping_index 2 := fun k _ _ h => Contract.renum (zas (q5f hg hs) 4 sg_clgindex Tryz.func56 (by kernel_rfl) (by kernel_rfl) fun ts hl hp => by rw [q5d]; exact h ts hl hp) k
def sg_clgWord : Sig := ⟨22, 0, [(true, [(.int .i64), (.int .i64), (.slice false [(.slice true [.str, .bool, (.int .i64)])]), (.int .i64), (.int .i64), .bool]), (false, [(.int .i64)]), (false, [(.int .i64)])], [(false, [(.str, none)]), (false, [((.int .i64), none)])]⟩
def q47 (k : Nat) : Sig := ⟨sg_clgWord.f, k, sg_clgWord.args, sg_clgWord.res⟩
def q5p : List (FuncId × Nat × Head) := [(22, 9, ⟨[9, 10, 32, 33, 34], [.slot 32 true 68 true [(.int .i64), (.int .i64)]], [34], [], [], []⟩)]
def q5o : List (FuncId × Nat × Nat × Plan) := []
noncomputable def cx_clipping_Word : Cx := ⟨Tryz.prog, gtabU, [q46 0, qcj 1, q5a 2, q4w 3, q45 4], [], q5p, q5o, [], []⟩
theorem q5g {Γ : CEnv} (hg : GK Γ) (hs : GS gtabU Γ cx_clipping_Word) : CxOk cx_clipping_Word Γ := ⟨by kernel_rfl, hs, (fun x hx => by cases hx), (fun x hx => by cases hx), (fun m hm => by cases hm)⟩
def tr_clipping_Word : Tree := (.call 1 [(.o1 .agg (.cons (.o1 (.proj 0) (.v 0)) (.cons (.o1 (.proj 1) (.v 0)) (.cons (.o1 (.proj 2) (.v 0)) (.cons (.o1 (.proj 3) (.v 0)) (.cons (.o1 (.proj 4) (.v 0)) (.cons (.o1 (.proj 5) (.v 0)) .nil)))))))] (.br (.o1 .no (.o2 .eqi (.v 3) (.int 0))) (.ret (.o1 .agg (.cons (.str []) (.cons (.v 3) .nil)))) (.call 3 [(.o1 .agg (.cons (.o1 (.proj 0) (.v 0)) (.cons (.o1 (.proj 1) (.v 0)) (.cons (.o1 (.proj 2) (.v 0)) (.cons (.o1 (.proj 3) (.v 0)) (.cons (.o1 (.proj 4) (.v 0)) (.cons (.o1 (.proj 5) (.v 0)) .nil))))))), (.v 1), (.v 2)] (.br (.o1 .no (.v 4)) (.ret (.o1 .agg (.cons (.str []) (.cons (.int 2) .nil)))) (.req (.o2 .lei (.int 0) (.v 1)) (.req (.o2 .lti (.v 1) (.o1 .len (.o1 (.proj 2) (.v 0)))) (.call 4 [(.o2 .idx (.o1 (.proj 2) (.v 0)) (.v 1)), (.v 2)] (.call 0 [(.o2 .idx (.o1 (.proj 2) (.v 0)) (.v 1))] (.loop [(.int 0)] (.br (.o2 .lti (.v 7) (.o1 .len (.v 6))) (.req (.o2 .lei (.int 0) (.v 7)) (.req (.o2 .lti (.v 7) (.o1 .len (.v 6))) (.br (.o2 .lei (.o1 (.proj 0) (.o2 .idx (.v 6) (.v 7))) (.v 5)) (.br (.o2 .lti (.v 5) (.o1 (.proj 1) (.o2 .idx (.v 6) (.v 7)))) (.req (.o2 .lei (.int 0) (.o1 (.proj 0) (.o2 .idx (.v 6) (.v 7)))) (.req (.o2 .lei (.o1 (.proj 0) (.o2 .idx (.v 6) (.v 7))) (.o1 (.proj 1) (.o2 .idx (.v 6) (.v 7)))) (.req (.o2 .lei (.int 0) (.o1 (.proj 1) (.o2 .idx (.v 6) (.v 7)))) (.req (.o2 .lei (.o1 (.proj 1) (.o2 .idx (.v 6) (.v 7))) (.o1 .len (.o2 .idx (.o1 (.proj 2) (.v 0)) (.v 1)))) (.call 2 [(.o3 .sub (.o2 .idx (.o1 (.proj 2) (.v 0)) (.v 1)) (.o1 (.proj 0) (.o2 .idx (.v 6) (.v 7))) (.o1 (.proj 1) (.o2 .idx (.v 6) (.v 7))))] (.ret (.o1 .agg (.cons (.v 8) (.cons (.int 0) .nil))))))))) (.back 0 [(.o2 (.add .i64) (.v 7) (.int 1))])) (.back 0 [(.o2 (.add .i64) (.v 7) (.int 1))])))) (.ret (.o1 .agg (.cons (.str []) (.cons (.int 8) .nil))))))))))))))
set_option maxRecDepth 100000 in
theorem q5h : za4 cx_clipping_Word 4 sg_clgWord Tryz.f22 (Tryz.f22.body.getD .skip) = tr_clipping_Word := by kernel_rfl
theorem contract_clipping_Word {Γ : CEnv} (hg : GK Γ) (hs : GS gtabU Γ cx_clipping_Word) : GC gtabU Γ q47 tr_clipping_Word 3 := fun k _ _ h => Contract.renum (zas (q5g hg hs) 4 sg_clgWord Tryz.func22 (by kernel_rfl) (by kernel_rfl) fun ts hl hp => by rw [q5h]; exact h ts hl hp) k
def sg_napheardText : Sig := ⟨24, 0, [(false, [(.slice true [.str, .bool, (.int .i64)])]), (true, [(.int .i64), .bool, .bool, (.int .i64), .bool, (.int .i64)])], [(false, [(.str, none)]), (false, [(.bool, none)])]⟩
def q4q (k : Nat) : Sig := ⟨sg_napheardText.f, k, sg_napheardText.args, sg_napheardText.res⟩
def q44 : List (FuncId × Nat × Head) := []
def q43 : List (FuncId × Nat × Nat × Plan) := []
noncomputable def cx_narratortop_heardText : Cx := ⟨Tryz.prog, gtabU, [qs2 0, qsi 1, q5a 2], [], q44, q43, [], []⟩
theorem q4z {Γ : CEnv} (hg : GK Γ) (hs : GS gtabU Γ cx_narratortop_heardText) : CxOk cx_narratortop_heardText Γ := ⟨by kernel_rfl, hs, (fun x hx => by cases hx), (fun x hx => by cases hx), (fun m hm => by cases hm)⟩
def tr_narratortop_heardText : Tree := (.call 0 [(.v 0), (.o1 .agg (.cons (.o1 (.proj 0) (.v 1)) (.cons (.o1 (.proj 1) (.v 1)) (.cons (.o1 (.proj 2) (.v 1)) (.cons (.o1 (.proj 3) (.v 1)) (.cons (.o1 (.proj 4) (.v 1)) (.cons (.o1 (.proj 5) (.v 1)) .nil)))))))] (.call 1 [(.v 2)] (.call 2 [(.o1 (.proj 0) (.v 3))] (.ret (.o1 .agg (.cons (.v 4) (.cons (.o2 .eqi (.o1 (.proj 1) (.v 3)) (.int 0)) .nil)))))))
set_option maxRecDepth 100000 in
theorem q40 : za4 cx_narratortop_heardText 4 sg_napheardText Tryz.f24 (Tryz.f24.body.getD .skip) = tr_narratortop_heardText := by kernel_rfl
theorem q5n {Γ : CEnv} (hg : GK Γ) (hs : GS gtabU Γ cx_narratortop_heardText) : GC gtabU Γ q4q tr_narratortop_heardText 2 := fun k _ _ h => Contract.renum (zas (q4z hg hs) 4 sg_napheardText Tryz.func24 (by kernel_rfl) (by kernel_rfl) fun ts hl hp => by rw [q40]; exact h ts hl hp) k
def sg_napspeaksStar : Sig := ⟨20, 0, [], [(false, [(.bool, none)])]⟩
def q4p (k : Nat) : Sig := ⟨sg_napspeaksStar.f, k, sg_napspeaksStar.args, sg_napspeaksStar.res⟩
def q42 : List (FuncId × Nat × Head) := []
def q41 : List (FuncId × Nat × Nat × Plan) := []
noncomputable def cx_narratortop_speaksStar : Cx := ⟨Tryz.prog, gtabU, [qs2 0], [], q42, q41, [], []⟩
theorem q4y {Γ : CEnv} (hg : GK Γ) (hs : GS gtabU Γ cx_narratortop_speaksStar) : CxOk cx_narratortop_speaksStar Γ := ⟨by kernel_rfl, hs, (fun x hx => by cases hx), (fun x hx => by cases hx), (fun m hm => by cases hm)⟩
def tr_narratortop_speaksStar : Tree := (.call 0 [(.cons (.o1 .agg (.cons (.str [42]) (.cons (.bool false) (.cons (.int 0) .nil)))) .nil), (.o1 .agg (.cons (.int 100) (.cons (.bool false) (.cons (.bool false) (.cons (.int 0) (.cons (.bool false) (.cons (.int 40) .nil)))))))] (.br (.o2 .eqi (.o1 .len (.v 0)) (.int 1)) (.req (.o2 .lti (.int 0) (.o1 .len (.v 0))) (.ret (.o2 .eqs (.o2 .idx (.v 0) (.int 0)) (.str [115, 116, 97, 114])))) (.ret (.bool false))))
set_option maxRecDepth 100000 in
theorem q4x : za4 cx_narratortop_speaksStar 4 sg_napspeaksStar Tryz.f20 (Tryz.f20.body.getD .skip) = tr_narratortop_speaksStar := by kernel_rfl
theorem q5k {Γ : CEnv} (hg : GK Γ) (hs : GS gtabU Γ cx_narratortop_speaksStar) : GC gtabU Γ q4p tr_narratortop_speaksStar 0 := fun k _ _ h => Contract.renum (zas (q4y hg hs) 4 sg_napspeaksStar Tryz.func20 (by kernel_rfl) (by kernel_rfl) fun ts hl hp => by rw [q4x]; exact h ts hl hp) k
def sg_napTopCopiedWords : Sig := ⟨4, 0, [(true, [(.int .i64), (.int .i64), (.slice false [(.slice true [.str, .bool, (.int .i64)])]), (.int .i64), (.int .i64), .bool]), (true, [(.int .i64), .bool, .bool, (.int .i64), .bool, (.int .i64)]), (false, [(.int .u8)]), (false, [(.int .u8)])], [(false, [(.bool, none)])]⟩
def q4v (k : Nat) : Sig := ⟨sg_napTopCopiedWords.f, k, sg_napTopCopiedWords.args, sg_napTopCopiedWords.res⟩
def q4t : List (FuncId × Nat × Head) := [(4, 8, ⟨[5, 11, 12, 13, 14, 58, 59, 60], [.slot 5 true 30 false [], .slot 58 true 68 true [(.int .i64), (.int .i64)]], [60], [], [], []⟩)]
def q4u : List (FuncId × Nat × Nat × Plan) := [(4, 3, 12, (.op true 0 (.op true 1 (.op true 2 (.op true 3 (.op true 4 (.op true 5 (.op true 6 (.op true 7 (.op true 8 (.op true 9 (.op true 10 (.op true 11 .nil))))))))))))), (4, 11, 13, (.op true 0 (.op true 1 (.op true 2 (.op true 3 (.op true 4 (.op true 5 (.op true 6 (.op false 7 (.op false 8 (.alt 9 (.alt 10 (.op false 11 (.op false 12 .nil)) (.op false 11 (.op false 10 (.op false 12 .nil)))) (.op false 10 (.op false 9 (.op false 11 (.op false 12 .nil)))))))))))))))]
noncomputable def cx_narratortop_TopCopiedWords : Cx := ⟨Tryz.prog, gtabU, [qs8 0, q46 1, qb1 2, qc5 3, qcj 4, q47 5, q4q 6, q4p 7], [], q4t, q4u, [], []⟩
theorem q4r {Γ : CEnv} (hg : GK Γ) (hs : GS gtabU Γ cx_narratortop_TopCopiedWords) : CxOk cx_narratortop_TopCopiedWords Γ := ⟨by kernel_rfl, hs, (fun x hx => by cases hx), (fun x hx => by cases hx), (fun m hm => by cases hm)⟩
def tr_narratortop_TopCopiedWords : Tree := (.call 2 [(.o1 .agg (.cons (.o1 (.proj 0) (.v 0)) (.cons (.o1 (.proj 1) (.v 0)) (.cons (.o1 (.proj 2) (.v 0)) (.cons (.o1 (.proj 3) (.v 0)) (.cons (.o1 (.proj 4) (.v 0)) (.cons (.o1 (.proj 5) (.v 0)) .nil)))))))] (.br (.v 4) (.call 7 [] (.ret (.v 5))) (.call 4 [(.o1 .agg (.cons (.o1 (.proj 0) (.v 0)) (.cons (.o1 (.proj 1) (.v 0)) (.cons (.o1 (.proj 2) (.v 0)) (.cons (.o1 (.proj 3) (.v 0)) (.cons (.o1 (.proj 4) (.v 0)) (.cons (.o1 (.proj 5) (.v 0)) .nil)))))))] (.br (.o1 .no (.o2 .eqi (.v 5) (.int 0))) (.call 7 [] (.ret (.v 6))) (.call 0 [(.o1 .agg (.cons (.o1 (.proj 0) (.v 1)) (.cons (.o1 (.proj 1) (.v 1)) (.cons (.o1 (.proj 2) (.v 1)) (.cons (.o1 (.proj 3) (.v 1)) (.cons (.o1 (.proj 4) (.v 1)) (.cons (.o1 (.proj 5) (.v 1)) .nil)))))))] (.br (.o1 .no (.o2 .eqi (.v 6) (.int 0))) (.call 7 [] (.ret (.v 7))) (.req (.o1 .no (.o2 .eqi (.o1 (.proj 1) (.v 0)) (.int 0))) (.req (.o1 .no (.o2 .eqi (.o1 (.proj 0) (.v 0)) (.int 0))) (.req (.o2 .lei (.int 0) (.o2 .rem (.o1 (.wrap .i64) (.v 2)) (.o1 (.proj 1) (.v 0)))) (.req (.o2 .lti (.o2 .rem (.o1 (.wrap .i64) (.v 2)) (.o1 (.proj 1) (.v 0))) (.o1 .len (.o1 (.proj 2) (.v 0)))) (.call 3 [(.o2 .idx (.o1 (.proj 2) (.v 0)) (.o2 .rem (.o1 (.wrap .i64) (.v 2)) (.o1 (.proj 1) (.v 0)))), (.o2 .rem (.o1 (.wrap .i64) (.v 3)) (.o1 (.proj 0) (.v 0)))] (.call 5 [(.o1 .agg (.cons (.o1 (.proj 0) (.v 0)) (.cons (.o1 (.proj 1) (.v 0)) (.cons (.o1 (.proj 2) (.v 0)) (.cons (.o1 (.proj 3) (.v 0)) (.cons (.o1 (.proj 4) (.v 0)) (.cons (.o1 (.proj 5) (.v 0)) .nil))))))), (.o2 .rem (.o1 (.wrap .i64) (.v 2)) (.o1 (.proj 1) (.v 0))), (.o2 .rem (.o1 (.wrap .i64) (.v 3)) (.o1 (.proj 0) (.v 0)))] (.call 1 [(.o2 .idx (.o1 (.proj 2) (.v 0)) (.o2 .rem (.o1 (.wrap .i64) (.v 2)) (.o1 (.proj 1) (.v 0))))] (.loop [(.int 0)] (.br (.o2 .lti (.v 10) (.o1 .len (.v 9))) (.req (.o2 .lei (.int 0) (.v 10)) (.req (.o2 .lti (.v 10) (.o1 .len (.v 9))) (.br (.o2 .lei (.o1 (.proj 0) (.o2 .idx (.v 9) (.v 10))) (.v 7)) (.br (.o2 .lti (.v 7) (.o1 (.proj 1) (.o2 .idx (.v 9) (.v 10)))) (.req (.o2 .lei (.int 0) (.o1 (.proj 0) (.o2 .idx (.v 9) (.v 10)))) (.req (.o2 .lei (.o1 (.proj 0) (.o2 .idx (.v 9) (.v 10))) (.o1 (.proj 1) (.o2 .idx (.v 9) (.v 10)))) (.req (.o2 .lei (.int 0) (.o1 (.proj 1) (.o2 .idx (.v 9) (.v 10)))) (.req (.o2 .lei (.o1 (.proj 1) (.o2 .idx (.v 9) (.v 10))) (.o1 .len (.o2 .idx (.o1 (.proj 2) (.v 0)) (.o2 .rem (.o1 (.wrap .i64) (.v 2)) (.o1 (.proj 1) (.v 0)))))) (.call 6 [(.o3 .sub (.o2 .idx (.o1 (.proj 2) (.v 0)) (.o2 .rem (.o1 (.wrap .i64) (.v 2)) (.o1 (.proj 1) (.v 0)))) (.o1 (.proj 0) (.o2 .idx (.v 9) (.v 10))) (.o1 (.proj 1) (.o2 .idx (.v 9) (.v 10)))), (.o1 .agg (.cons (.o1 (.proj 0) (.v 1)) (.cons (.o1 (.proj 1) (.v 1)) (.cons (.o1 (.proj 2) (.v 1)) (.cons (.o1 (.proj 3) (.v 1)) (.cons (.o1 (.proj 4) (.v 1)) (.cons (.o1 (.proj 5) (.v 1)) .nil)))))))] (.both (.both (.br (.o1 (.proj 1) (.v 11)) (.br (.o2 .eqi (.o1 (.proj 1) (.v 8)) (.int 0)) (.br (.o2 .eqs (.o1 (.proj 0) (.v 8)) (.o1 (.proj 0) (.v 11))) (.call 7 [] (.ret (.v 12))) (.ret (.bool false))) (.ret (.bool false))) (.ret (.bool false))) (.br (.o1 (.proj 1) (.v 11)) (.br (.o2 .eqi (.o1 (.proj 1) (.v 8)) (.int 0)) (.br (.o2 .eqs (.o1 (.proj 0) (.v 8)) (.o1 (.proj 0) (.v 11))) (.call 7 [] (.ret (.v 12))) (.ret (.bool false))) (.ret (.bool false))) (.ret (.bool false)))) (.br (.o1 (.proj 1) (.v 11)) (.br (.o2 .eqi (.o1 (.proj 1) (.v 8)) (.int 0)) (.br (.o2 .eqs (.o1 (.proj 0) (.v 8)) (.o1 (.proj 0) (.v 11))) (.call 7 [] (.ret (.v 12))) (.ret (.bool false))) (.ret (.bool false))) (.ret (.bool false))))))))) (.back 0 [(.o2 (.add .i64) (.v 10) (.int 1))])) (.back 0 [(.o2 (.add .i64) (.v 10) (.int 1))])))) (.br (.o2 .eqi (.o1 (.proj 1) (.v 8)) (.int 8)) (.br (.o2 .eqs (.o1 (.proj 0) (.v 8)) (.str [])) (.call 7 [] (.ret (.v 11))) (.ret (.bool false))) (.ret (.bool false))))))))))))))))))
set_option maxRecDepth 100000 in
theorem q4s : za4 cx_narratortop_TopCopiedWords 4 sg_napTopCopiedWords Tryz.f4 (Tryz.f4.body.getD .skip) = tr_narratortop_TopCopiedWords := by kernel_rfl
theorem q5e {Γ : CEnv} (hg : GK Γ) (hs : GS gtabU Γ cx_narratortop_TopCopiedWords) : GC gtabU Γ q4v tr_narratortop_TopCopiedWords 4 := fun k _ _ h => Contract.renum (zas (q4r hg hs) 4 sg_napTopCopiedWords Tryz.func4 (by kernel_rfl) (by kernel_rfl) fun ts hl hp => by rw [q4s]; exact h ts hl hp) k
end Go.Proofs.YtlhagkbhojmjpaaGreatDoor

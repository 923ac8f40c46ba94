/- Written by a program of ours (Gen): the trees of the symbolic runs of functions, and their contracts' frames. -/
import Derived.Test.YtlhagkbhojmjpaaDoorGl
namespace Go.Proofs.YtlhagkbhojmjpaaDoor
set_option linter.unusedVariables false
set_option linter.unusedSimpArgs false

def sg_scriptcode_Names : Sig := ⟨56, 0, [], [(false, [((.slice false [.str]), some 9)])]⟩
def qmm (k : Nat) : Sig := ⟨sg_scriptcode_Names.f, k, sg_scriptcode_Names.args, sg_scriptcode_Names.res⟩
def qnn : List (FuncId × Nat × Head) := []
def qnq : List (FuncId × Nat × Nat × Plan) := []
noncomputable def cx_scriptcode_Names : Cx := ⟨Tryd.prog, gtab, [], [], qnn, qnq, []⟩
def tr_scriptcode_Names : Tree := (.ret (.cons (.str [104, 97, 108, 116]) (.cons (.str [112, 117, 115, 104]) (.cons (.str [114, 111, 119]) (.cons (.str [108, 101, 110, 103, 116, 104]) (.cons (.str [99, 104, 97, 114]) (.cons (.str [115, 116, 121, 108, 101]) (.cons (.str [99, 108, 97, 115, 115]) (.cons (.str [119, 97, 105, 116]) (.cons (.str [97, 100, 100]) (.cons (.str [115, 117, 98]) (.cons (.str [109, 117, 108]) (.cons (.str [101, 113, 117, 97, 108]) (.cons (.str [108, 101, 115, 115]) (.cons (.str [110, 111, 116]) (.cons (.str [100, 117, 112]) (.cons (.str [100, 114, 111, 112]) (.cons (.str [115, 119, 97, 112]) (.cons (.str [106, 117, 109, 112]) (.cons (.str [106, 117, 109, 112, 122, 101, 114, 111]) (.cons (.str [115, 101, 116, 99, 108, 97, 115, 115]) (.cons (.str [115, 101, 116, 119, 97, 105, 116]) .nil))))))))))))))))))))))
set_option maxRecDepth 100000 in
theorem qng : za4 cx_scriptcode_Names 4 sg_scriptcode_Names Tryd.f56 (Tryd.f56.body.getD .skip) = tr_scriptcode_Names := by kernel_rfl
theorem qne {Γ : CEnv} (hg : ∀ n, Γ.glob n = globT n) (hs : ∀ s ∈ cx_scriptcode_Names.sigs, Contract Tryd.prog Γ gtab s (Γ.pre s.no) (Γ.post s.no)) : CxOk cx_scriptcode_Names Γ := ⟨by kernel_rfl, hs, (fun x hx => by cases hx), (fun x hx => by cases hx)⟩
theorem qm4 {Γ : CEnv} (hg : ∀ n, Γ.glob n = globT n) (hs : ∀ s ∈ cx_scriptcode_Names.sigs, Contract Tryd.prog Γ gtab s (Γ.pre s.no) (Γ.post s.no)) (k : Nat) {pre : List TV → Prop} {post : List TV → TV → Prop} (h : ∀ ts, ts.length = 0 → pre ts → tr_scriptcode_Names.den Γ (post ts) ts []) : Contract Tryd.prog Γ gtab (qmm k) pre post :=
  Contract.renum (zas (qne hg hs) 4 sg_scriptcode_Names Tryd.func56 (by kernel_rfl) (by kernel_rfl) fun ts hl hp => by rw [qng]; exact h ts hl hp) k

def sg_scriptcode_bounds : Sig := ⟨57, 0, [(false, [(.int .i64)]), (false, [(.int .i64)]), (false, [(.int .i64)])], [(false, [((.int .i64), none)]), (false, [((.int .i64), none)])]⟩
def qml (k : Nat) : Sig := ⟨sg_scriptcode_bounds.f, k, sg_scriptcode_bounds.args, sg_scriptcode_bounds.res⟩
def qnk : List (FuncId × Nat × Head) := []
def qnl : List (FuncId × Nat × Nat × Plan) := []
noncomputable def cx_scriptcode_bounds : Cx := ⟨Tryd.prog, gtab, [], [], qnk, qnl, []⟩
def tr_scriptcode_bounds : Tree := (.br (.o2 .eqi (.v 0) (.int 1))
  (.ret (.o1 .agg (.cons (.int (-999999999)) (.cons (.int 999999999) .nil))))
  (.br (.o2 .eqi (.v 0) (.int 17))
    (.ret (.o1 .agg (.cons (.o2 (.add .i64) (.v 1) (.int 1)) (.cons (.v 2) .nil))))
    (.br (.o2 .eqi (.v 0) (.int 18))
      (.ret (.o1 .agg (.cons (.o2 (.add .i64) (.v 1) (.int 1)) (.cons (.v 2) .nil))))
      (.ret (.o1 .agg (.cons (.int 0) (.cons (.int 0) .nil)))))))
set_option maxRecDepth 100000 in
theorem qnb : za4 cx_scriptcode_bounds 4 sg_scriptcode_bounds Tryd.f57 (Tryd.f57.body.getD .skip) = tr_scriptcode_bounds := by kernel_rfl
theorem qna {Γ : CEnv} (hg : ∀ n, Γ.glob n = globT n) (hs : ∀ s ∈ cx_scriptcode_bounds.sigs, Contract Tryd.prog Γ gtab s (Γ.pre s.no) (Γ.post s.no)) : CxOk cx_scriptcode_bounds Γ := ⟨by kernel_rfl, hs, (fun x hx => by cases hx), (fun x hx => by cases hx)⟩
theorem qmz {Γ : CEnv} (hg : ∀ n, Γ.glob n = globT n) (hs : ∀ s ∈ cx_scriptcode_bounds.sigs, Contract Tryd.prog Γ gtab s (Γ.pre s.no) (Γ.post s.no)) (k : Nat) {pre : List TV → Prop} {post : List TV → TV → Prop} (h : ∀ ts, ts.length = 3 → pre ts → tr_scriptcode_bounds.den Γ (post ts) ts []) : Contract Tryd.prog Γ gtab (qml k) pre post :=
  Contract.renum (zas (qna hg hs) 4 sg_scriptcode_bounds Tryd.func57 (by kernel_rfl) (by kernel_rfl) fun ts hl hp => by rw [qnb]; exact h ts hl hp) k

def sg_scriptcode_Check : Sig := ⟨27, 0, [(false, [(.slice true [(.int .i64), (.int .i64)])])], [(false, [((.int .i64), none)])]⟩
def qmy (k : Nat) : Sig := ⟨sg_scriptcode_Check.f, k, sg_scriptcode_Check.args, sg_scriptcode_Check.res⟩
def qno : List (FuncId × Nat × Head) := [(27, 4, ⟨[0, 10, 11, 12], [], [12], [], [], []⟩)]
def qnp : List (FuncId × Nat × Nat × Plan) := [(27, 6, 10, (.op true 0 (.op true 1 (.op true 2 (.op true 3 (.op true 4 (.op true 5 (.op false 6 (.op false 7 (.op false 8 (.op false 9 .nil)))))))))))]
noncomputable def cx_scriptcode_Check : Cx := ⟨Tryd.prog, gtab, [qmm 0, qml 1], [], qno, qnp, []⟩
def tr_scriptcode_Check : Tree := (.br (.o2 .lti (.int 500) (.o1 .len (.v 0)))
  (.ret (.int 5))
  (.loop [(.int 0)]
    (.br (.o2 .lti (.v 1) (.o1 .len (.v 0)))
      (.req (.o2 .lei (.int 0) (.v 1)) (.req (.o2 .lti (.v 1) (.o1 .len (.v 0))) (.br (.o2 .lti (.o1 (.proj 0) (.o2 .idx (.v 0) (.v 1))) (.int 0))
        (.ret (.int 9))
        (.call 0 []
          (.br (.o2 .lei (.o1 .len (.v 2)) (.o1 (.proj 0) (.o2 .idx (.v 0) (.v 1))))
            (.ret (.int 9))
            (.call 1 [(.o1 (.proj 0) (.o2 .idx (.v 0) (.v 1))), (.v 1), (.o1 .len (.v 0))]
              (.br (.o2 .lti (.o1 (.proj 1) (.o2 .idx (.v 0) (.v 1))) (.o1 (.proj 0) (.v 3)))
                (.ret (.int 2))
                (.br (.o2 .lti (.o1 (.proj 1) (.v 3)) (.o1 (.proj 1) (.o2 .idx (.v 0) (.v 1))))
                  (.ret (.int 2))
                  (.back 0 [(.o2 (.add .i64) (.v 1) (.int 1))])))))))))
      (.ret (.int 0)))))
set_option maxRecDepth 100000 in
theorem qnf : za4 cx_scriptcode_Check 4 sg_scriptcode_Check Tryd.f27 (Tryd.f27.body.getD .skip) = tr_scriptcode_Check := by kernel_rfl
theorem qnd {Γ : CEnv} (hg : ∀ n, Γ.glob n = globT n) (hs : ∀ s ∈ cx_scriptcode_Check.sigs, Contract Tryd.prog Γ gtab s (Γ.pre s.no) (Γ.post s.no)) : CxOk cx_scriptcode_Check Γ := ⟨by kernel_rfl, hs, (fun x hx => by cases hx), (fun x hx => by cases hx)⟩
theorem qm3 {Γ : CEnv} (hg : ∀ n, Γ.glob n = globT n) (hs : ∀ s ∈ cx_scriptcode_Check.sigs, Contract Tryd.prog Γ gtab s (Γ.pre s.no) (Γ.post s.no)) (k : Nat) {pre : List TV → Prop} {post : List TV → TV → Prop} (h : ∀ ts, ts.length = 1 → pre ts → tr_scriptcode_Check.den Γ (post ts) ts []) : Contract Tryd.prog Γ gtab (qmy k) pre post :=
  Contract.renum (zas (qnd hg hs) 4 sg_scriptcode_Check Tryd.func27 (by kernel_rfl) (by kernel_rfl) fun ts hl hp => by rw [qnf]; exact h ts hl hp) k

def sg_ref15_GreatRow : Sig := ⟨25, 0, [(false, [(.slice true [.str, .bool, (.int .i64)])])], [(false, [(.bool, none)])]⟩
def qcd (k : Nat) : Sig := ⟨sg_ref15_GreatRow.f, k, sg_ref15_GreatRow.args, sg_ref15_GreatRow.res⟩
def qfq : List (FuncId × Nat × Head) := [(25, 4, ⟨[0, 3], [], [3], [], [], []⟩)]
def qfb : List (FuncId × Nat × Nat × Plan) := []
noncomputable def cx_ref15_GreatRow : Cx := ⟨Tryd.prog, gtab, [], [], qfq, qfb, []⟩
def tr_ref15_GreatRow : Tree := (.br (.o2 .lti (.int 140) (.o1 .len (.v 0)))
  (.ret (.bool true))
  (.loop [(.int 0)]
    (.br (.o2 .lti (.v 1) (.o1 .len (.v 0)))
      (.req (.o2 .lei (.int 0) (.v 1)) (.req (.o2 .lti (.v 1) (.o1 .len (.v 0))) (.br (.o2 .lti (.int 40) (.o1 .slen (.o1 (.proj 0) (.o2 .idx (.v 0) (.v 1)))))
        (.ret (.bool true))
        (.back 0 [(.o2 (.add .i64) (.v 1) (.int 1))]))))
      (.ret (.bool false)))))
set_option maxRecDepth 100000 in
theorem qeo : za4 cx_ref15_GreatRow 4 sg_ref15_GreatRow Tryd.f25 (Tryd.f25.body.getD .skip) = tr_ref15_GreatRow := by kernel_rfl
theorem qeg {Γ : CEnv} (hg : ∀ n, Γ.glob n = globT n) (hs : ∀ s ∈ cx_ref15_GreatRow.sigs, Contract Tryd.prog Γ gtab s (Γ.pre s.no) (Γ.post s.no)) : CxOk cx_ref15_GreatRow Γ := ⟨by kernel_rfl, hs, (fun x hx => by cases hx), (fun x hx => by cases hx)⟩
theorem qcy {Γ : CEnv} (hg : ∀ n, Γ.glob n = globT n) (hs : ∀ s ∈ cx_ref15_GreatRow.sigs, Contract Tryd.prog Γ gtab s (Γ.pre s.no) (Γ.post s.no)) (k : Nat) {pre : List TV → Prop} {post : List TV → TV → Prop} (h : ∀ ts, ts.length = 1 → pre ts → tr_ref15_GreatRow.den Γ (post ts) ts []) : Contract Tryd.prog Γ gtab (qcd k) pre post :=
  Contract.renum (zas (qeg hg hs) 4 sg_ref15_GreatRow Tryd.func25 (by kernel_rfl) (by kernel_rfl) fun ts hl hp => by rw [qeo]; exact h ts hl hp) k

def sg_narratortop_smallScript : Sig := ⟨6, 0, [(false, [(.slice true [(.int .i64), (.int .i64)])]), (false, [(.slice true [.str, .bool, (.int .i64)])])], [(false, [(.bool, none)])]⟩
def qmk (k : Nat) : Sig := ⟨sg_narratortop_smallScript.f, k, sg_narratortop_smallScript.args, sg_narratortop_smallScript.res⟩
def qm1 : List (FuncId × Nat × Head) := []
def qm0 : List (FuncId × Nat × Nat × Plan) := []
noncomputable def cx_narratortop_smallScript : Cx := ⟨Tryd.prog, gtab, [qcd 0], [], qm1, qm0, []⟩
def tr_narratortop_smallScript : Tree := (.br (.o2 .lei (.o1 .len (.v 0)) (.int 100))
  (.call 0 [(.v 1)]
    (.ret (.o1 .no (.v 2))))
  (.ret (.bool false)))
set_option maxRecDepth 100000 in
theorem qmv : za4 cx_narratortop_smallScript 4 sg_narratortop_smallScript Tryd.f6 (Tryd.f6.body.getD .skip) = tr_narratortop_smallScript := by kernel_rfl
theorem qmx {Γ : CEnv} (hg : ∀ n, Γ.glob n = globT n) (hs : ∀ s ∈ cx_narratortop_smallScript.sigs, Contract Tryd.prog Γ gtab s (Γ.pre s.no) (Γ.post s.no)) : CxOk cx_narratortop_smallScript Γ := ⟨by kernel_rfl, hs, (fun x hx => by cases hx), (fun x hx => by cases hx)⟩
theorem qnu {Γ : CEnv} (hg : ∀ n, Γ.glob n = globT n) (hs : ∀ s ∈ cx_narratortop_smallScript.sigs, Contract Tryd.prog Γ gtab s (Γ.pre s.no) (Γ.post s.no)) (k : Nat) {pre : List TV → Prop} {post : List TV → TV → Prop} (h : ∀ ts, ts.length = 2 → pre ts → tr_narratortop_smallScript.den Γ (post ts) ts []) : Contract Tryd.prog Γ gtab (qmk k) pre post :=
  Contract.renum (zas (qmx hg hs) 4 sg_narratortop_smallScript Tryd.func6 (by kernel_rfl) (by kernel_rfl) fun ts hl hp => by rw [qmv]; exact h ts hl hp) k
def sg_scriptverify_Depths : Sig := ⟨26, 0, [(false, [(.slice true [(.int .i64), (.int .i64)])])], [(false, [((.slice false [(.int .i64)]), some 3)]), (false, [((.int .i64), none)])]⟩
def qm8 (k : Nat) : Sig := ⟨sg_scriptverify_Depths.f, k, sg_scriptverify_Depths.args, sg_scriptverify_Depths.res⟩

def sg_scriptverify_Verify : Sig := ⟨7, 0, [(false, [(.slice true [(.int .i64), (.int .i64)])])], [(false, [((.int .i64), none)])]⟩
def qmi (k : Nat) : Sig := ⟨sg_scriptverify_Verify.f, k, sg_scriptverify_Verify.args, sg_scriptverify_Verify.res⟩
def qm7 : List (FuncId × Nat × Head) := []
def qm9 : List (FuncId × Nat × Nat × Plan) := []
noncomputable def cx_scriptverify_Verify : Cx := ⟨Tryd.prog, gtab, [qm8 0], [], qm7, qm9, []⟩
def tr_scriptverify_Verify : Tree := (.call 0 [(.v 0)]
  (.ret (.o1 (.proj 1) (.v 1))))
set_option maxRecDepth 100000 in
theorem qm6 : za4 cx_scriptverify_Verify 4 sg_scriptverify_Verify Tryd.f7 (Tryd.f7.body.getD .skip) = tr_scriptverify_Verify := by kernel_rfl
theorem qm5 {Γ : CEnv} (hg : ∀ n, Γ.glob n = globT n) (hs : ∀ s ∈ cx_scriptverify_Verify.sigs, Contract Tryd.prog Γ gtab s (Γ.pre s.no) (Γ.post s.no)) : CxOk cx_scriptverify_Verify Γ := ⟨by kernel_rfl, hs, (fun x hx => by cases hx), (fun x hx => by cases hx)⟩
theorem qnv {Γ : CEnv} (hg : ∀ n, Γ.glob n = globT n) (hs : ∀ s ∈ cx_scriptverify_Verify.sigs, Contract Tryd.prog Γ gtab s (Γ.pre s.no) (Γ.post s.no)) (k : Nat) {pre : List TV → Prop} {post : List TV → TV → Prop} (h : ∀ ts, ts.length = 1 → pre ts → tr_scriptverify_Verify.den Γ (post ts) ts []) : Contract Tryd.prog Γ gtab (qmi k) pre post :=
  Contract.renum (zas (qm5 hg hs) 4 sg_scriptverify_Verify Tryd.func7 (by kernel_rfl) (by kernel_rfl) fun ts hl hp => by rw [qm6]; exact h ts hl hp) k
def sg_scriptverify_Fuel : Sig := ⟨9, 0, [(false, [(.slice true [(.int .i64), (.int .i64)])])], [(false, [((.int .i64), none)]), (false, [((.int .i64), none)])]⟩
def qnh (k : Nat) : Sig := ⟨sg_scriptverify_Fuel.f, k, sg_scriptverify_Fuel.args, sg_scriptverify_Fuel.res⟩

def sg_narratortop_scriptRefused : Sig := ⟨8, 0, [], [(false, [(.bool, none)])]⟩
def qmj (k : Nat) : Sig := ⟨sg_narratortop_scriptRefused.f, k, sg_narratortop_scriptRefused.args, sg_narratortop_scriptRefused.res⟩
def qmw : List (FuncId × Nat × Head) := []
def qmu : List (FuncId × Nat × Nat × Plan) := []
noncomputable def cx_narratortop_scriptRefused : Cx := ⟨Tryd.prog, gtab, [qmi 0], [], qmw, qmu, []⟩
def tr_narratortop_scriptRefused : Tree := (.call 0 [(.cons (.o1 .agg (.cons (.int 15) (.cons (.int 0) .nil))) .nil)]
  (.ret (.o2 .eqi (.v 0) (.int 13))))
set_option maxRecDepth 100000 in
theorem qmq : za4 cx_narratortop_scriptRefused 4 sg_narratortop_scriptRefused Tryd.f8 (Tryd.f8.body.getD .skip) = tr_narratortop_scriptRefused := by kernel_rfl
theorem qms {Γ : CEnv} (hg : ∀ n, Γ.glob n = globT n) (hs : ∀ s ∈ cx_narratortop_scriptRefused.sigs, Contract Tryd.prog Γ gtab s (Γ.pre s.no) (Γ.post s.no)) : CxOk cx_narratortop_scriptRefused Γ := ⟨by kernel_rfl, hs, (fun x hx => by cases hx), (fun x hx => by cases hx)⟩
theorem qnr {Γ : CEnv} (hg : ∀ n, Γ.glob n = globT n) (hs : ∀ s ∈ cx_narratortop_scriptRefused.sigs, Contract Tryd.prog Γ gtab s (Γ.pre s.no) (Γ.post s.no)) (k : Nat) {pre : List TV → Prop} {post : List TV → TV → Prop} (h : ∀ ts, ts.length = 0 → pre ts → tr_narratortop_scriptRefused.den Γ (post ts) ts []) : Contract Tryd.prog Γ gtab (qmj k) pre post :=
  Contract.renum (zas (qms hg hs) 4 sg_narratortop_scriptRefused Tryd.func8 (by kernel_rfl) (by kernel_rfl) fun ts hl hp => by rw [qmq]; exact h ts hl hp) k
def sg_scriptvm_Run : Sig := ⟨10, 0, [(false, [(.slice true [(.int .i64), (.int .i64)])]), (false, [(.int .i64)]), (false, [(.slice true [.str, .bool, (.int .i64)])]), (true, [(.int .i64), (.int .i64), (.int .i64)]), (false, [(.int .i64)])], [(true, [((.int .i64), none), ((.int .i64), none), ((.int .i64), none), ((.int .i64), none), ((.int .i64), none)])]⟩
def qnc (k : Nat) : Sig := ⟨sg_scriptvm_Run.f, k, sg_scriptvm_Run.args, sg_scriptvm_Run.res⟩

def sg_scriptvm_Decide : Sig := ⟨11, 0, [(false, [(.slice true [(.int .i64), (.int .i64)])]), (false, [(.int .i64)]), (false, [(.slice true [.str, .bool, (.int .i64)])]), (true, [(.int .i64), (.int .i64), (.int .i64)])], [(true, [((.int .i64), none), ((.int .i64), none), ((.int .i64), none)])]⟩
def qm2 (k : Nat) : Sig := ⟨sg_scriptvm_Decide.f, k, sg_scriptvm_Decide.args, sg_scriptvm_Decide.res⟩
def qnt : List (FuncId × Nat × Head) := []
def qns : List (FuncId × Nat × Nat × Plan) := []
noncomputable def cx_scriptvm_Decide : Cx := ⟨Tryd.prog, gtab, [qmi 0, qnc 1], [], qnt, qns, []⟩
def tr_scriptvm_Decide : Tree := (.br (.o2 .eqi (.o1 (.proj 0) (.v 3)) (.int 1))
  (.ret (.o1 .agg (.cons (.o1 (.proj 0) (.v 3)) (.cons (.o1 (.proj 1) (.v 3)) (.cons (.o1 (.proj 2) (.v 3)) .nil)))))
  (.br (.o2 .eqi (.o1 .len (.v 0)) (.int 0))
    (.ret (.o1 .agg (.cons (.o1 (.proj 0) (.v 3)) (.cons (.o1 (.proj 1) (.v 3)) (.cons (.o1 (.proj 2) (.v 3)) .nil)))))
    (.call 0 [(.v 0)]
      (.br (.o1 .no (.o2 .eqi (.v 4) (.int 0)))
        (.ret (.o1 .agg (.cons (.o1 (.proj 0) (.v 3)) (.cons (.o1 (.proj 1) (.v 3)) (.cons (.o1 (.proj 2) (.v 3)) .nil)))))
        (.call 1 [(.v 0), (.v 1), (.v 2), (.o1 .agg (.cons (.o1 (.proj 0) (.v 3)) (.cons (.o1 (.proj 1) (.v 3)) (.cons (.o1 (.proj 2) (.v 3)) .nil)))), (.int 5000)]
          (.br (.o1 .no (.o2 .eqi (.o1 (.proj 0) (.v 5)) (.int 3)))
            (.ret (.o1 .agg (.cons (.o1 (.proj 0) (.v 5)) (.cons (.int 0) (.cons (.o1 (.proj 2) (.v 5)) .nil)))))
            (.ret (.o1 .agg (.cons (.o1 (.proj 0) (.v 5)) (.cons (.o1 (.proj 1) (.v 5)) (.cons (.o1 (.proj 2) (.v 5)) .nil)))))))))))
set_option maxRecDepth 100000 in
theorem qnj : za4 cx_scriptvm_Decide 4 sg_scriptvm_Decide Tryd.f11 (Tryd.f11.body.getD .skip) = tr_scriptvm_Decide := by kernel_rfl
theorem qni {Γ : CEnv} (hg : ∀ n, Γ.glob n = globT n) (hs : ∀ s ∈ cx_scriptvm_Decide.sigs, Contract Tryd.prog Γ gtab s (Γ.pre s.no) (Γ.post s.no)) : CxOk cx_scriptvm_Decide Γ := ⟨by kernel_rfl, hs, (fun x hx => by cases hx), (fun x hx => by cases hx)⟩
theorem contract_scriptvm_Decide {Γ : CEnv} (hg : ∀ n, Γ.glob n = globT n) (hs : ∀ s ∈ cx_scriptvm_Decide.sigs, Contract Tryd.prog Γ gtab s (Γ.pre s.no) (Γ.post s.no)) (k : Nat) {pre : List TV → Prop} {post : List TV → TV → Prop} (h : ∀ ts, ts.length = 4 → pre ts → tr_scriptvm_Decide.den Γ (post ts) ts []) : Contract Tryd.prog Γ gtab (qm2 k) pre post :=
  Contract.renum (zas (qni hg hs) 4 sg_scriptvm_Decide Tryd.func11 (by kernel_rfl) (by kernel_rfl) fun ts hl hp => by rw [qnj]; exact h ts hl hp) k

def sg_narratortop_TopScriptSafety : Sig := ⟨3, 0, [(false, [(.slice true [(.int .i64), (.int .i64)])]), (false, [(.int .i64)]), (false, [(.slice true [.str, .bool, (.int .i64)])]), (true, [(.int .i64), (.int .i64), (.int .i64)])], [(false, [(.bool, none)])]⟩
def qmr (k : Nat) : Sig := ⟨sg_narratortop_TopScriptSafety.f, k, sg_narratortop_TopScriptSafety.args, sg_narratortop_TopScriptSafety.res⟩
def qmt : List (FuncId × Nat × Head) := []
def qmp : List (FuncId × Nat × Nat × Plan) := []
noncomputable def cx_narratortop_TopScriptSafety : Cx := ⟨Tryd.prog, gtab, [qmk 0, qmi 1, qnh 2, qmj 3, qnc 4, qm2 5], [], qmt, qmp, []⟩
def tr_narratortop_TopScriptSafety : Tree := (.call 0 [(.v 0), (.v 2)]
  (.br (.o1 .no (.v 4))
    (.call 3 []
      (.ret (.v 5)))
    (.call 1 [(.v 0)]
      (.br (.o1 .no (.o2 .eqi (.v 5) (.int 0)))
        (.call 3 []
          (.ret (.v 6)))
        (.call 2 [(.v 0)]
          (.call 4 [(.v 0), (.v 1), (.v 2), (.o1 .agg (.cons (.o1 (.proj 0) (.v 3)) (.cons (.o1 (.proj 1) (.v 3)) (.cons (.o1 (.proj 2) (.v 3)) .nil)))), (.o1 (.proj 0) (.v 6))]
            (.br (.o1 .no (.o2 .eqi (.o1 (.proj 1) (.v 6)) (.int 0)))
              (.ret (.bool false))
              (.br (.o2 .lti (.int 5000) (.o1 (.proj 0) (.v 6)))
                (.ret (.bool false))
                (.br (.o1 .no (.o2 .eqi (.o1 (.proj 4) (.v 7)) (.int 0)))
                  (.ret (.bool false))
                  (.br (.o2 .lti (.o1 (.proj 0) (.v 6)) (.o1 (.proj 3) (.v 7)))
                    (.ret (.bool false))
                    (.br (.o2 .lti (.int 0) (.o1 (.proj 3) (.v 7)))
                      (.call 4 [(.v 0), (.v 1), (.v 2), (.o1 .agg (.cons (.o1 (.proj 0) (.v 3)) (.cons (.o1 (.proj 1) (.v 3)) (.cons (.o1 (.proj 2) (.v 3)) .nil)))), (.o2 (.sub .i64) (.o1 (.proj 3) (.v 7)) (.int 1))]
                        (.br (.o1 .no (.o2 .eqi (.o1 (.proj 4) (.v 8)) (.int 14)))
                          (.ret (.bool false))
                          (.br (.o1 .no (.o3 .ite (.o2 .eqi (.o1 (.proj 0) (.v 8)) (.o1 (.proj 0) (.v 3))) (.o3 .ite (.o2 .eqi (.o1 (.proj 1) (.v 8)) (.o1 (.proj 1) (.v 3))) (.o3 .ite (.o2 .eqi (.o1 (.proj 2) (.v 8)) (.o1 (.proj 2) (.v 3))) (.bool true) (.bool false)) (.bool false)) (.bool false)))
                            (.ret (.bool false))
                            (.br (.o1 .no (.o2 .eqi (.o1 (.proj 3) (.v 8)) (.o2 (.sub .i64) (.o1 (.proj 3) (.v 7)) (.int 1))))
                              (.ret (.bool false))
                              (.call 5 [(.v 0), (.v 1), (.v 2), (.o1 .agg (.cons (.o1 (.proj 0) (.v 3)) (.cons (.o1 (.proj 1) (.v 3)) (.cons (.o1 (.proj 2) (.v 3)) .nil))))]
                                (.br (.o2 .eqi (.o1 (.proj 2) (.v 9)) (.o1 (.proj 2) (.v 3)))
                                  (.br (.o1 .no (.o2 .eqi (.o1 (.proj 0) (.v 3)) (.int 1)))
                                    (.call 3 []
                                      (.ret (.v 10)))
                                    (.br (.o3 .ite (.o2 .eqi (.o1 (.proj 0) (.v 9)) (.o1 (.proj 0) (.v 3))) (.o3 .ite (.o2 .eqi (.o1 (.proj 1) (.v 9)) (.o1 (.proj 1) (.v 3))) (.o3 .ite (.o2 .eqi (.o1 (.proj 2) (.v 9)) (.o1 (.proj 2) (.v 3))) (.bool true) (.bool false)) (.bool false)) (.bool false))
                                      (.call 3 []
                                        (.ret (.v 10)))
                                      (.ret (.bool false))))
                                  (.ret (.bool false))))))))
                      (.call 5 [(.v 0), (.v 1), (.v 2), (.o1 .agg (.cons (.o1 (.proj 0) (.v 3)) (.cons (.o1 (.proj 1) (.v 3)) (.cons (.o1 (.proj 2) (.v 3)) .nil))))]
                        (.br (.o2 .eqi (.o1 (.proj 2) (.v 8)) (.o1 (.proj 2) (.v 3)))
                          (.br (.o1 .no (.o2 .eqi (.o1 (.proj 0) (.v 3)) (.int 1)))
                            (.call 3 []
                              (.ret (.v 9)))
                            (.br (.o3 .ite (.o2 .eqi (.o1 (.proj 0) (.v 8)) (.o1 (.proj 0) (.v 3))) (.o3 .ite (.o2 .eqi (.o1 (.proj 1) (.v 8)) (.o1 (.proj 1) (.v 3))) (.o3 .ite (.o2 .eqi (.o1 (.proj 2) (.v 8)) (.o1 (.proj 2) (.v 3))) (.bool true) (.bool false)) (.bool false)) (.bool false))
                              (.call 3 []
                                (.ret (.v 9)))
                              (.ret (.bool false))))
                          (.ret (.bool false)))))))))))))))
set_option maxRecDepth 100000 in
theorem qmo : za4 cx_narratortop_TopScriptSafety 4 sg_narratortop_TopScriptSafety Tryd.f3 (Tryd.f3.body.getD .skip) = tr_narratortop_TopScriptSafety := by kernel_rfl
theorem qmn {Γ : CEnv} (hg : ∀ n, Γ.glob n = globT n) (hs : ∀ s ∈ cx_narratortop_TopScriptSafety.sigs, Contract Tryd.prog Γ gtab s (Γ.pre s.no) (Γ.post s.no)) : CxOk cx_narratortop_TopScriptSafety Γ := ⟨by kernel_rfl, hs, (fun x hx => by cases hx), (fun x hx => by cases hx)⟩
theorem qnm {Γ : CEnv} (hg : ∀ n, Γ.glob n = globT n) (hs : ∀ s ∈ cx_narratortop_TopScriptSafety.sigs, Contract Tryd.prog Γ gtab s (Γ.pre s.no) (Γ.post s.no)) (k : Nat) {pre : List TV → Prop} {post : List TV → TV → Prop} (h : ∀ ts, ts.length = 4 → pre ts → tr_narratortop_TopScriptSafety.den Γ (post ts) ts []) : Contract Tryd.prog Γ gtab (qmr k) pre post :=
  Contract.renum (zas (qmn hg hs) 4 sg_narratortop_TopScriptSafety Tryd.func3 (by kernel_rfl) (by kernel_rfl) fun ts hl hp => by rw [qmo]; exact h ts hl hp) k
end Go.Proofs.YtlhagkbhojmjpaaDoor

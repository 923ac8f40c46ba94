/- Written by a program of ours (Gen): the trees of the symbolic runs of functions, and their contracts' frames. -/
import Derived.Test.YtlhagkbhojmjpaaDoorE1
import Derived.Test.YtlhagkbhojmjpaaDoorS1
namespace Go.Proofs.YtlhagkbhojmjpaaDoor
set_option linter.unusedVariables false
set_option linter.unusedSimpArgs false

def sg_ref07_Great : Sig := ⟨31, 0, [(false, [(.slice true [.str, (.int .i64), (.int .i64), (.int .i64), (.int .i64)])])], [(false, [(.bool, none)])]⟩
def qoa (k : Nat) : Sig := ⟨sg_ref07_Great.f, k, sg_ref07_Great.args, sg_ref07_Great.res⟩
def qor : List (FuncId × Nat × Head) := [(31, 4, ⟨[0, 3], [], [3], [], [], []⟩)]
def qoo : List (FuncId × Nat × Nat × Plan) := []
noncomputable def cx_ref07_Great : Cx := ⟨Tryd.prog, gtabU, [], [], qor, qoo, []⟩
def tr_ref07_Great : Tree := (.br (.o2 .lti (.int 140) (.o1 .len (.v 0)))
  (.ret (.bool true))
  (.loop [(.int 0)]
    (.br (.o2 .lti (.v 1) (.o1 .len (.v 0)))
      (.req (.o2 .lei (.int 0) (.v 1)) (.req (.o2 .lti (.v 1) (.o1 .len (.v 0))) (.br (.o2 .lti (.int 40) (.o1 .slen (.o1 (.proj 0) (.o2 .idx (.v 0) (.v 1)))))
        (.ret (.bool true))
        (.back 0 [(.o2 (.add .i64) (.v 1) (.int 1))]))))
      (.ret (.bool false)))))
set_option maxRecDepth 100000 in
theorem qoj : za4 cx_ref07_Great 4 sg_ref07_Great Tryd.f31 (Tryd.f31.body.getD .skip) = tr_ref07_Great := by kernel_rfl
theorem qoh {Γ : CEnv} (hg : ∀ n, Γ.glob n = globT n) (hs : ∀ s ∈ cx_ref07_Great.sigs, Contract Tryd.prog Γ gtabU s (Γ.pre s.no) (Γ.post s.no)) : CxOk cx_ref07_Great Γ := ⟨by kernel_rfl, hs, (fun x hx => by cases hx), (fun x hx => by cases hx)⟩
theorem qo1 {Γ : CEnv} (hg : ∀ n, Γ.glob n = globT n) (hs : ∀ s ∈ cx_ref07_Great.sigs, Contract Tryd.prog Γ gtabU s (Γ.pre s.no) (Γ.post s.no)) (k : Nat) {pre : List TV → Prop} {post : List TV → TV → Prop} (h : ∀ ts, ts.length = 1 → pre ts → tr_ref07_Great.den Γ (post ts) ts []) : Contract Tryd.prog Γ gtabU (qoa k) pre post :=
  Contract.renum (zas (qoh hg hs) 4 sg_ref07_Great Tryd.func31 (by kernel_rfl) (by kernel_rfl) fun ts hl hp => by rw [qoj]; exact h ts hl hp) k

def sg_ref15_Large : Sig := ⟨12, 0, [(true, [(.int .i64), (.int .i64), (.slice false [(.slice true [.str, (.int .i64), (.int .i64), (.int .i64), (.int .i64)])]), (.int .i64), (.int .i64), (.slice false [(.slice true [.str, (.int .i64), (.int .i64), (.int .i64), (.int .i64)])]), (.int .i64), (.int .i64), .bool, (.int .i64), (.int .i64), .bool, (.int .i64), (.int .i64), (.int .i64), .bool, (.int .u8), (.int .u8), (.int .i64), (.int .i64), (.int .i64), (.int .i64), .bool, .bool, .bool, .bool, .bool, .bool, .bool, .bool, (.int .u8), (.int .u8), (.int .i64), (.int .i64), (.int .i64), (.slice false [.bool]), (.slice false [(.slice true [.str, (.int .i64), (.int .i64), (.int .i64), (.int .i64)])]), (.int .i64), .str, .str, .str, .str])], [(false, [(.bool, none)])]⟩
def qof (k : Nat) : Sig := ⟨sg_ref15_Large.f, k, sg_ref15_Large.args, sg_ref15_Large.res⟩
def qot : List (FuncId × Nat × Head) := [(12, 4, ⟨[1, 3], [.slot 1 true 53 false []], [3], [], [], []⟩)]
def qop : List (FuncId × Nat × Nat × Plan) := []
noncomputable def cx_ref15_Large : Cx := ⟨Tryd.prog, gtabU, [qoa 0], [], qot, qop, []⟩
def tr_ref15_Large : Tree := (.br (.o2 .lti (.int 12) (.o1 .len (.o1 (.proj 2) (.v 0))))
  (.ret (.bool true))
  (.loop [(.int 0)]
    (.br (.o2 .lti (.v 1) (.o1 .len (.o1 (.proj 2) (.v 0))))
      (.req (.o2 .lei (.int 0) (.v 1)) (.req (.o2 .lti (.v 1) (.o1 .len (.o1 (.proj 2) (.v 0)))) (.call 0 [(.o2 .idx (.o1 (.proj 2) (.v 0)) (.v 1))]
        (.br (.v 2)
          (.ret (.bool true))
          (.back 0 [(.o2 (.add .i64) (.v 1) (.int 1))])))))
      (.ret (.bool false)))))
set_option maxRecDepth 100000 in
theorem qok : za4 cx_ref15_Large 4 sg_ref15_Large Tryd.f12 (Tryd.f12.body.getD .skip) = tr_ref15_Large := by kernel_rfl
theorem qoi {Γ : CEnv} (hg : ∀ n, Γ.glob n = globT n) (hs : ∀ s ∈ cx_ref15_Large.sigs, Contract Tryd.prog Γ gtabU s (Γ.pre s.no) (Γ.post s.no)) : CxOk cx_ref15_Large Γ := ⟨by kernel_rfl, hs, (fun x hx => by cases hx), (fun x hx => by cases hx)⟩
theorem qo3 {Γ : CEnv} (hg : ∀ n, Γ.glob n = globT n) (hs : ∀ s ∈ cx_ref15_Large.sigs, Contract Tryd.prog Γ gtabU s (Γ.pre s.no) (Γ.post s.no)) (k : Nat) {pre : List TV → Prop} {post : List TV → TV → Prop} (h : ∀ ts, ts.length = 1 → pre ts → tr_ref15_Large.den Γ (post ts) ts []) : Contract Tryd.prog Γ gtabU (qof k) pre post :=
  Contract.renum (zas (qoi hg hs) 4 sg_ref15_Large Tryd.func12 (by kernel_rfl) (by kernel_rfl) fun ts hl hp => by rw [qok]; exact h ts hl hp) k

def sg_ref15_Size : Sig := ⟨32, 0, [(false, [(.int .i64)]), (false, [(.int .i64)])], [(false, [(.bool, none)])]⟩
def qc3 (k : Nat) : Sig := ⟨sg_ref15_Size.f, k, sg_ref15_Size.args, sg_ref15_Size.res⟩
def hd_ref15_Size : List (FuncId × Nat × Head) := []
def pl_ref15_Size : List (FuncId × Nat × Nat × Plan) := []
noncomputable def cx_ref15_Size : Cx := ⟨Tryd.prog, gtabU, [], [], hd_ref15_Size, pl_ref15_Size, []⟩
def tr_ref15_Size : Tree := (.br (.o2 .lei (.int 1) (.v 0))
  (.br (.o2 .lei (.v 0) (.int 132))
    (.br (.o2 .lei (.int 1) (.v 1))
      (.ret (.o2 .lei (.v 1) (.int 60)))
      (.ret (.bool false)))
    (.ret (.bool false)))
  (.ret (.bool false)))
set_option maxRecDepth 100000 in
theorem qhq : za4 cx_ref15_Size 4 sg_ref15_Size Tryd.f32 (Tryd.f32.body.getD .skip) = tr_ref15_Size := by kernel_rfl
theorem qhh {Γ : CEnv} (hg : ∀ n, Γ.glob n = globT n) (hs : ∀ s ∈ cx_ref15_Size.sigs, Contract Tryd.prog Γ gtabU s (Γ.pre s.no) (Γ.post s.no)) : CxOk cx_ref15_Size Γ := ⟨by kernel_rfl, hs, (fun x hx => by cases hx), (fun x hx => by cases hx)⟩
theorem qem {Γ : CEnv} (hg : ∀ n, Γ.glob n = globT n) (hs : ∀ s ∈ cx_ref15_Size.sigs, Contract Tryd.prog Γ gtabU s (Γ.pre s.no) (Γ.post s.no)) (k : Nat) {pre : List TV → Prop} {post : List TV → TV → Prop} (h : ∀ ts, ts.length = 2 → pre ts → tr_ref15_Size.den Γ (post ts) ts []) : Contract Tryd.prog Γ gtabU (qc3 k) pre post :=
  Contract.renum (zas (qhh hg hs) 4 sg_ref15_Size Tryd.func32 (by kernel_rfl) (by kernel_rfl) fun ts hl hp => by rw [qhq]; exact h ts hl hp) k

def sg_ref07_Check : Sig := ⟨33, 0, [(false, [(.slice true [.str, (.int .i64), (.int .i64), (.int .i64), (.int .i64)])])], [(false, [((.int .i64), none)])]⟩
def sn_ref07_Check (k : Nat) : Sig := ⟨sg_ref07_Check.f, k, sg_ref07_Check.args, sg_ref07_Check.res⟩
def hd_ref07_Check : List (FuncId × Nat × Head) := [(33, 4, ⟨[0, 3], [], [3], [], [], []⟩)]
def pl_ref07_Check : List (FuncId × Nat × Nat × Plan) := [(33, 14, 19, (.op true 0 (.op true 1 (.op true 2 (.op true 3 (.op true 4 (.op true 5 (.op true 6 (.op true 7 (.op true 8 (.op true 9 (.op true 10 (.op true 11 (.op true 12 (.op true 13 (.op true 14 (.op true 15 (.op true 16 (.op true 17 (.op true 18 .nil))))))))))))))))))))]
noncomputable def cx_ref07_Check : Cx := ⟨Tryd.prog, gtabU, [zhl 0, zhj 1], [], hd_ref07_Check, pl_ref07_Check, []⟩
def tr_ref07_Check : Tree := (.br (.o2 .lti (.o1 .len (.v 0)) (.int 1))
  (.ret (.int 5))
  (.br (.o2 .lti (.int 132) (.o1 .len (.v 0)))
    (.ret (.int 5))
    (.loop [(.int 0)]
      (.br (.o2 .lti (.v 1) (.o1 .len (.v 0)))
        (.req (.o2 .lei (.int 0) (.v 1)) (.req (.o2 .lti (.v 1) (.o1 .len (.v 0))) (.br (.o1 .no (.o2 .eqi (.o1 (.proj 1) (.o2 .idx (.v 0) (.v 1))) (.int 1)))
          (.br (.o1 .no (.o2 .eqi (.o1 (.proj 1) (.o2 .idx (.v 0) (.v 1))) (.int 2)))
            (.ret (.int 12))
            (.req (.o2 .lei (.int 0) (.v 1)) (.req (.o2 .lti (.v 1) (.o1 .len (.v 0))) (.call 0 [(.o1 (.proj 0) (.o2 .idx (.v 0) (.v 1)))]
              (.br (.o1 .no (.o2 .eqi (.v 2) (.int 0)))
                (.ret (.int 3))
                (.req (.o2 .lei (.int 0) (.v 1)) (.req (.o2 .lti (.v 1) (.o1 .len (.v 0))) (.call 1 [(.o1 (.proj 0) (.o2 .idx (.v 0) (.v 1)))]
                  (.br (.o1 .no (.o2 .eqi (.v 3) (.o1 (.proj 1) (.o2 .idx (.v 0) (.v 1)))))
                    (.ret (.int 12))
                    (.br (.o2 .eqi (.o1 (.proj 1) (.o2 .idx (.v 0) (.v 1))) (.int 1))
                      (.back 0 [(.o2 (.add .i64) (.v 1) (.int 1))])
                      (.br (.o2 .eqi (.o2 (.add .i64) (.v 1) (.int 1)) (.o1 .len (.v 0)))
                        (.ret (.int 12))
                        (.req (.o2 .lei (.int 0) (.o2 (.add .i64) (.v 1) (.int 1))) (.req (.o2 .lti (.o2 (.add .i64) (.v 1) (.int 1)) (.o1 .len (.v 0))) (.req (.o2 .lei (.int 0) (.v 1)) (.req (.o2 .lti (.v 1) (.o1 .len (.v 0))) (.br (.o1 .no (.o3 .ite (.o2 .eqs (.o1 (.proj 0) (.o2 .idx (.v 0) (.o2 (.add .i64) (.v 1) (.int 1)))) (.str [])) (.o3 .ite (.o2 .eqi (.o1 (.proj 1) (.o2 .idx (.v 0) (.o2 (.add .i64) (.v 1) (.int 1)))) (.int 0)) (.o3 .ite (.o3 .ite (.o2 .eqi (.o1 (.proj 2) (.o2 .idx (.v 0) (.o2 (.add .i64) (.v 1) (.int 1)))) (.o1 (.proj 2) (.o2 .idx (.v 0) (.v 1)))) (.o3 .ite (.o2 .eqi (.o1 (.proj 3) (.o2 .idx (.v 0) (.o2 (.add .i64) (.v 1) (.int 1)))) (.o1 (.proj 3) (.o2 .idx (.v 0) (.v 1)))) (.o3 .ite (.o2 .eqi (.o1 (.proj 4) (.o2 .idx (.v 0) (.o2 (.add .i64) (.v 1) (.int 1)))) (.o1 (.proj 4) (.o2 .idx (.v 0) (.v 1)))) (.bool true) (.bool false)) (.bool false)) (.bool false)) (.bool true) (.bool false)) (.bool false)) (.bool false)))
                          (.ret (.int 12))
                          (.back 0 [(.o2 (.add .i64) (.o2 (.add .i64) (.v 1) (.int 1)) (.int 1))])))))))))))))))))
          (.req (.o2 .lei (.int 0) (.v 1)) (.req (.o2 .lti (.v 1) (.o1 .len (.v 0))) (.call 0 [(.o1 (.proj 0) (.o2 .idx (.v 0) (.v 1)))]
            (.br (.o1 .no (.o2 .eqi (.v 2) (.int 0)))
              (.ret (.int 3))
              (.req (.o2 .lei (.int 0) (.v 1)) (.req (.o2 .lti (.v 1) (.o1 .len (.v 0))) (.call 1 [(.o1 (.proj 0) (.o2 .idx (.v 0) (.v 1)))]
                (.br (.o1 .no (.o2 .eqi (.v 3) (.o1 (.proj 1) (.o2 .idx (.v 0) (.v 1)))))
                  (.ret (.int 12))
                  (.br (.o2 .eqi (.o1 (.proj 1) (.o2 .idx (.v 0) (.v 1))) (.int 1))
                    (.back 0 [(.o2 (.add .i64) (.v 1) (.int 1))])
                    (.br (.o2 .eqi (.o2 (.add .i64) (.v 1) (.int 1)) (.o1 .len (.v 0)))
                      (.ret (.int 12))
                      (.req (.o2 .lei (.int 0) (.o2 (.add .i64) (.v 1) (.int 1))) (.req (.o2 .lti (.o2 (.add .i64) (.v 1) (.int 1)) (.o1 .len (.v 0))) (.req (.o2 .lei (.int 0) (.v 1)) (.req (.o2 .lti (.v 1) (.o1 .len (.v 0))) (.br (.o1 .no (.o3 .ite (.o2 .eqs (.o1 (.proj 0) (.o2 .idx (.v 0) (.o2 (.add .i64) (.v 1) (.int 1)))) (.str [])) (.o3 .ite (.o2 .eqi (.o1 (.proj 1) (.o2 .idx (.v 0) (.o2 (.add .i64) (.v 1) (.int 1)))) (.int 0)) (.o3 .ite (.o3 .ite (.o2 .eqi (.o1 (.proj 2) (.o2 .idx (.v 0) (.o2 (.add .i64) (.v 1) (.int 1)))) (.o1 (.proj 2) (.o2 .idx (.v 0) (.v 1)))) (.o3 .ite (.o2 .eqi (.o1 (.proj 3) (.o2 .idx (.v 0) (.o2 (.add .i64) (.v 1) (.int 1)))) (.o1 (.proj 3) (.o2 .idx (.v 0) (.v 1)))) (.o3 .ite (.o2 .eqi (.o1 (.proj 4) (.o2 .idx (.v 0) (.o2 (.add .i64) (.v 1) (.int 1)))) (.o1 (.proj 4) (.o2 .idx (.v 0) (.v 1)))) (.bool true) (.bool false)) (.bool false)) (.bool false)) (.bool true) (.bool false)) (.bool false)) (.bool false)))
                        (.ret (.int 12))
                        (.back 0 [(.o2 (.add .i64) (.o2 (.add .i64) (.v 1) (.int 1)) (.int 1))])))))))))))))))))))
        (.ret (.int 0))))))
set_option maxRecDepth 100000 in
theorem qpl : za4 cx_ref07_Check 4 sg_ref07_Check Tryd.f33 (Tryd.f33.body.getD .skip) = tr_ref07_Check := by kernel_rfl
theorem qpj {Γ : CEnv} (hg : ∀ n, Γ.glob n = globT n) (hs : ∀ s ∈ cx_ref07_Check.sigs, Contract Tryd.prog Γ gtabU s (Γ.pre s.no) (Γ.post s.no)) : CxOk cx_ref07_Check Γ := ⟨by kernel_rfl, hs, (fun x hx => by cases hx), (fun x hx => by cases hx)⟩
theorem contract_ref07_Check {Γ : CEnv} (hg : ∀ n, Γ.glob n = globT n) (hs : ∀ s ∈ cx_ref07_Check.sigs, Contract Tryd.prog Γ gtabU s (Γ.pre s.no) (Γ.post s.no)) (k : Nat) {pre : List TV → Prop} {post : List TV → TV → Prop} (h : ∀ ts, ts.length = 1 → pre ts → tr_ref07_Check.den Γ (post ts) ts []) : Contract Tryd.prog Γ gtabU (sn_ref07_Check k) pre post :=
  Contract.renum (zas (qpj hg hs) 4 sg_ref07_Check Tryd.func33 (by kernel_rfl) (by kernel_rfl) fun ts hl hp => by rw [qpl]; exact h ts hl hp) k

def sg_ref04_Right : Sig := ⟨34, 0, [(true, [(.int .i64), (.int .i64), (.int .i64)])], [(false, [((.int .i64), none)])]⟩
def qoe (k : Nat) : Sig := ⟨sg_ref04_Right.f, k, sg_ref04_Right.args, sg_ref04_Right.res⟩
def qoq : List (FuncId × Nat × Head) := []
def qos : List (FuncId × Nat × Nat × Plan) := []
noncomputable def cx_ref04_Right : Cx := ⟨Tryd.prog, gtabU, [], [], qoq, qos, []⟩
def tr_ref04_Right : Tree := (.br (.o2 .lti (.o1 (.proj 0) (.v 0)) (.int (-1)))
  (.ret (.int 0))
  (.br (.o2 .lti (.int 255) (.o1 (.proj 0) (.v 0)))
    (.ret (.int 0))
    (.br (.o2 .lti (.o1 (.proj 1) (.v 0)) (.int (-1)))
      (.ret (.int 0))
      (.br (.o2 .lti (.int 255) (.o1 (.proj 1) (.v 0)))
        (.ret (.int 0))
        (.br (.o2 .lti (.o1 (.proj 2) (.v 0)) (.int 0))
          (.ret (.int 0))
          (.br (.o2 .lti (.int 255) (.o1 (.proj 2) (.v 0)))
            (.ret (.int 0))
            (.ret (.int 1))))))))
set_option maxRecDepth 100000 in
theorem qol : za4 cx_ref04_Right 4 sg_ref04_Right Tryd.f34 (Tryd.f34.body.getD .skip) = tr_ref04_Right := by kernel_rfl
theorem qog {Γ : CEnv} (hg : ∀ n, Γ.glob n = globT n) (hs : ∀ s ∈ cx_ref04_Right.sigs, Contract Tryd.prog Γ gtabU s (Γ.pre s.no) (Γ.post s.no)) : CxOk cx_ref04_Right Γ := ⟨by kernel_rfl, hs, (fun x hx => by cases hx), (fun x hx => by cases hx)⟩
theorem qo2 {Γ : CEnv} (hg : ∀ n, Γ.glob n = globT n) (hs : ∀ s ∈ cx_ref04_Right.sigs, Contract Tryd.prog Γ gtabU s (Γ.pre s.no) (Γ.post s.no)) (k : Nat) {pre : List TV → Prop} {post : List TV → TV → Prop} (h : ∀ ts, ts.length = 1 → pre ts → tr_ref04_Right.den Γ (post ts) ts []) : Contract Tryd.prog Γ gtabU (qoe k) pre post :=
  Contract.renum (zas (qog hg hs) 4 sg_ref04_Right Tryd.func34 (by kernel_rfl) (by kernel_rfl) fun ts hl hp => by rw [qol]; exact h ts hl hp) k

def sg_ref15_Showable : Sig := ⟨13, 0, [(true, [(.int .i64), (.int .i64), (.slice false [(.slice true [.str, (.int .i64), (.int .i64), (.int .i64), (.int .i64)])]), (.int .i64), (.int .i64), (.slice false [(.slice true [.str, (.int .i64), (.int .i64), (.int .i64), (.int .i64)])]), (.int .i64), (.int .i64), .bool, (.int .i64), (.int .i64), .bool, (.int .i64), (.int .i64), (.int .i64), .bool, (.int .u8), (.int .u8), (.int .i64), (.int .i64), (.int .i64), (.int .i64), .bool, .bool, .bool, .bool, .bool, .bool, .bool, .bool, (.int .u8), (.int .u8), (.int .i64), (.int .i64), (.int .i64), (.slice false [.bool]), (.slice false [(.slice true [.str, (.int .i64), (.int .i64), (.int .i64), (.int .i64)])]), (.int .i64), .str, .str, .str, .str])], [(false, [(.bool, none)])]⟩
def qou (k : Nat) : Sig := ⟨sg_ref15_Showable.f, k, sg_ref15_Showable.args, sg_ref15_Showable.res⟩
def qpb : List (FuncId × Nat × Head) := [(13, 5, ⟨[3, 4], [.slot 3 true 39 false []], [4], [], [], []⟩), (13, 10, ⟨[3, 4, 5], [.slot 3 true 39 false []], [5], [], [], []⟩)]
def qpa : List (FuncId × Nat × Nat × Plan) := [(13, 7, 18, (.op true 0 (.op true 1 (.op true 2 (.op true 3 (.op true 4 (.op true 5 (.op true 6 (.op true 7 (.op true 8 (.op true 9 (.op true 10 (.op true 11 (.op true 12 (.op true 13 (.op true 14 (.op false 15 (.op false 16 (.op false 17 .nil)))))))))))))))))))]
noncomputable def cx_ref15_Showable : Cx := ⟨Tryd.prog, gtabU, [qc3 0, sn_ref07_Check 1, qoe 2], [], qpb, qpa, []⟩
def tr_ref15_Showable : Tree := (.call 0 [(.o1 (.proj 0) (.v 0)), (.o1 (.proj 1) (.v 0))]
  (.br (.o1 .no (.v 1))
    (.ret (.bool false))
    (.br (.o1 .no (.o2 .eqi (.o1 .len (.o1 (.proj 2) (.v 0))) (.o1 (.proj 1) (.v 0))))
      (.ret (.bool false))
      (.br (.o2 .lti (.o1 (.proj 6) (.v 0)) (.int 0))
        (.ret (.bool false))
        (.br (.o2 .lei (.o1 (.proj 1) (.v 0)) (.o1 (.proj 6) (.v 0)))
          (.ret (.bool false))
          (.br (.o2 .lti (.o1 (.proj 7) (.v 0)) (.int 0))
            (.ret (.bool false))
            (.br (.o2 .lei (.o1 (.proj 0) (.v 0)) (.o1 (.proj 7) (.v 0)))
              (.ret (.bool false))
              (.loop [(.int 0)]
                (.br (.o2 .lti (.v 2) (.o1 .len (.o1 (.proj 2) (.v 0))))
                  (.req (.o2 .lei (.int 0) (.v 2)) (.req (.o2 .lti (.v 2) (.o1 .len (.o1 (.proj 2) (.v 0)))) (.br (.o1 .no (.o2 .eqi (.o1 .len (.o2 .idx (.o1 (.proj 2) (.v 0)) (.v 2))) (.o1 (.proj 0) (.v 0))))
                    (.ret (.bool false))
                    (.req (.o2 .lei (.int 0) (.v 2)) (.req (.o2 .lti (.v 2) (.o1 .len (.o1 (.proj 2) (.v 0)))) (.call 1 [(.o2 .idx (.o1 (.proj 2) (.v 0)) (.v 2))]
                      (.br (.o1 .no (.o2 .eqi (.v 3) (.int 0)))
                        (.ret (.bool false))
                        (.loop [(.int 0)]
                          (.req (.o2 .lei (.int 0) (.v 2)) (.req (.o2 .lti (.v 2) (.o1 .len (.o1 (.proj 2) (.v 0)))) (.br (.o2 .lti (.v 4) (.o1 .len (.o2 .idx (.o1 (.proj 2) (.v 0)) (.v 2))))
                            (.req (.o2 .lei (.int 0) (.v 2)) (.req (.o2 .lti (.v 2) (.o1 .len (.o1 (.proj 2) (.v 0)))) (.req (.o2 .lei (.int 0) (.v 4)) (.req (.o2 .lti (.v 4) (.o1 .len (.o2 .idx (.o1 (.proj 2) (.v 0)) (.v 2)))) (.call 2 [(.o1 .agg (.cons (.o1 (.proj 2) (.o2 .idx (.o2 .idx (.o1 (.proj 2) (.v 0)) (.v 2)) (.v 4))) (.cons (.o1 (.proj 3) (.o2 .idx (.o2 .idx (.o1 (.proj 2) (.v 0)) (.v 2)) (.v 4))) (.cons (.o1 (.proj 4) (.o2 .idx (.o2 .idx (.o1 (.proj 2) (.v 0)) (.v 2)) (.v 4))) .nil))))]
                              (.br (.o2 .eqi (.v 5) (.int 0))
                                (.ret (.bool false))
                                (.back 1 [(.o2 (.add .i64) (.v 4) (.int 1))])))))))
                            (.back 0 [(.o2 (.add .i64) (.v 2) (.int 1))]))))))))))))
                  (.ret (.bool true)))))))))))
set_option maxRecDepth 100000 in
theorem qo4 : za4 cx_ref15_Showable 4 sg_ref15_Showable Tryd.f13 (Tryd.f13.body.getD .skip) = tr_ref15_Showable := by kernel_rfl
theorem qo5 {Γ : CEnv} (hg : ∀ n, Γ.glob n = globT n) (hs : ∀ s ∈ cx_ref15_Showable.sigs, Contract Tryd.prog Γ gtabU s (Γ.pre s.no) (Γ.post s.no)) : CxOk cx_ref15_Showable Γ := ⟨by kernel_rfl, hs, (fun x hx => by cases hx), (fun x hx => by cases hx)⟩
theorem contract_ref15_Showable {Γ : CEnv} (hg : ∀ n, Γ.glob n = globT n) (hs : ∀ s ∈ cx_ref15_Showable.sigs, Contract Tryd.prog Γ gtabU s (Γ.pre s.no) (Γ.post s.no)) (k : Nat) {pre : List TV → Prop} {post : List TV → TV → Prop} (h : ∀ ts, ts.length = 1 → pre ts → tr_ref15_Showable.den Γ (post ts) ts []) : Contract Tryd.prog Γ gtabU (qou k) pre post :=
  Contract.renum (zas (qo5 hg hs) 4 sg_ref15_Showable Tryd.func13 (by kernel_rfl) (by kernel_rfl) fun ts hl hp => by rw [qo4]; exact h ts hl hp) k

def sg_view_sized : Sig := ⟨71, 0, [(false, [(.int .i64)]), (false, [(.int .i64)])], [(false, [(.bool, none)])]⟩
def qc1 (k : Nat) : Sig := ⟨sg_view_sized.f, k, sg_view_sized.args, sg_view_sized.res⟩
def hd_view_sized : List (FuncId × Nat × Head) := []
def pl_view_sized : List (FuncId × Nat × Nat × Plan) := []
noncomputable def cx_view_sized : Cx := ⟨Tryd.prog, gtabU, [], [], hd_view_sized, pl_view_sized, []⟩
def tr_view_sized : Tree := (.br (.o2 .lei (.int 1) (.v 0))
  (.br (.o2 .lei (.v 0) (.int 132))
    (.br (.o2 .lei (.int 1) (.v 1))
      (.ret (.o2 .lei (.v 1) (.int 60)))
      (.ret (.bool false)))
    (.ret (.bool false)))
  (.ret (.bool false)))
set_option maxRecDepth 100000 in
theorem qhd : za4 cx_view_sized 4 sg_view_sized Tryd.f71 (Tryd.f71.body.getD .skip) = tr_view_sized := by kernel_rfl
theorem qg4 {Γ : CEnv} (hg : ∀ n, Γ.glob n = globT n) (hs : ∀ s ∈ cx_view_sized.sigs, Contract Tryd.prog Γ gtabU s (Γ.pre s.no) (Γ.post s.no)) : CxOk cx_view_sized Γ := ⟨by kernel_rfl, hs, (fun x hx => by cases hx), (fun x hx => by cases hx)⟩
theorem qec {Γ : CEnv} (hg : ∀ n, Γ.glob n = globT n) (hs : ∀ s ∈ cx_view_sized.sigs, Contract Tryd.prog Γ gtabU s (Γ.pre s.no) (Γ.post s.no)) (k : Nat) {pre : List TV → Prop} {post : List TV → TV → Prop} (h : ∀ ts, ts.length = 2 → pre ts → tr_view_sized.den Γ (post ts) ts []) : Contract Tryd.prog Γ gtabU (qc1 k) pre post :=
  Contract.renum (zas (qg4 hg hs) 4 sg_view_sized Tryd.func71 (by kernel_rfl) (by kernel_rfl) fun ts hl hp => by rw [qhd]; exact h ts hl hp) k

def sg_cellrow_Check : Sig := ⟨72, 0, [(false, [(.slice true [.str, (.int .i64), (.int .i64), (.int .i64), (.int .i64)])])], [(false, [((.int .i64), none)])]⟩
def qpc (k : Nat) : Sig := ⟨sg_cellrow_Check.f, k, sg_cellrow_Check.args, sg_cellrow_Check.res⟩
def qpi : List (FuncId × Nat × Head) := [(72, 4, ⟨[0, 3], [], [3], [], [], []⟩)]
def qpk : List (FuncId × Nat × Nat × Plan) := [(72, 10, 6, (.op true 0 (.op true 1 (.op true 3 (.op true 4 (.op false 2 (.op false 5 .nil))))))), (72, 12, 21, (.op true 0 (.op true 1 (.op true 2 (.op true 3 (.op true 4 (.op true 5 (.op true 6 (.op true 7 (.op true 8 (.op true 9 (.op true 10 (.op true 11 (.op true 12 (.op true 13 (.op true 14 (.op true 15 (.op true 16 (.op true 17 (.op true 18 (.op true 19 (.op true 20 .nil))))))))))))))))))))))]
noncomputable def cx_cellrow_Check : Cx := ⟨Tryd.prog, gtabU, [zh7 0, zh6 1], [], qpi, qpk, []⟩
def tr_cellrow_Check : Tree := (.br (.o2 .lti (.o1 .len (.v 0)) (.int 1))
  (.ret (.int 5))
  (.br (.o2 .lti (.int 132) (.o1 .len (.v 0)))
    (.ret (.int 5))
    (.loop [(.int 0)]
      (.br (.o2 .lti (.v 1) (.o1 .len (.v 0)))
        (.req (.o2 .lei (.int 0) (.v 1)) (.req (.o2 .lti (.v 1) (.o1 .len (.v 0))) (.br (.o1 .no (.o2 .eqi (.o1 (.proj 1) (.o2 .idx (.v 0) (.v 1))) (.int 1)))
          (.br (.o1 .no (.o2 .eqi (.o1 (.proj 1) (.o2 .idx (.v 0) (.v 1))) (.int 2)))
            (.ret (.int 12))
            (.call 0 [(.o1 (.proj 0) (.o2 .idx (.v 0) (.v 1)))]
              (.br (.o1 .no (.o2 .eqi (.v 2) (.int 0)))
                (.ret (.int 3))
                (.call 1 [(.o1 (.proj 0) (.o2 .idx (.v 0) (.v 1)))]
                  (.br (.o1 .no (.o2 .eqi (.v 3) (.o1 (.proj 1) (.o2 .idx (.v 0) (.v 1)))))
                    (.ret (.int 12))
                    (.br (.o2 .eqi (.o1 (.proj 1) (.o2 .idx (.v 0) (.v 1))) (.int 2))
                      (.br (.o2 .lei (.o1 .len (.v 0)) (.o2 (.add .i64) (.v 1) (.int 1)))
                        (.ret (.int 12))
                        (.req (.o2 .lei (.int 0) (.o2 (.add .i64) (.v 1) (.int 1))) (.req (.o2 .lti (.o2 (.add .i64) (.v 1) (.int 1)) (.o1 .len (.v 0))) (.br (.o1 .no (.o3 .ite (.o2 .eqs (.o1 (.proj 0) (.o2 .idx (.v 0) (.o2 (.add .i64) (.v 1) (.int 1)))) (.str [])) (.o3 .ite (.o2 .eqi (.o1 (.proj 1) (.o2 .idx (.v 0) (.o2 (.add .i64) (.v 1) (.int 1)))) (.int 0)) (.o3 .ite (.o3 .ite (.o2 .eqi (.o1 (.proj 2) (.o2 .idx (.v 0) (.o2 (.add .i64) (.v 1) (.int 1)))) (.o1 (.proj 2) (.o2 .idx (.v 0) (.v 1)))) (.o3 .ite (.o2 .eqi (.o1 (.proj 3) (.o2 .idx (.v 0) (.o2 (.add .i64) (.v 1) (.int 1)))) (.o1 (.proj 3) (.o2 .idx (.v 0) (.v 1)))) (.o3 .ite (.o2 .eqi (.o1 (.proj 4) (.o2 .idx (.v 0) (.o2 (.add .i64) (.v 1) (.int 1)))) (.o1 (.proj 4) (.o2 .idx (.v 0) (.v 1)))) (.bool true) (.bool false)) (.bool false)) (.bool false)) (.bool true) (.bool false)) (.bool false)) (.bool false)))
                          (.ret (.int 12))
                          (.back 0 [(.o2 (.add .i64) (.v 1) (.o1 (.proj 1) (.o2 .idx (.v 0) (.v 1))))])))))
                      (.back 0 [(.o2 (.add .i64) (.v 1) (.o1 (.proj 1) (.o2 .idx (.v 0) (.v 1))))])))))))
          (.call 0 [(.o1 (.proj 0) (.o2 .idx (.v 0) (.v 1)))]
            (.br (.o1 .no (.o2 .eqi (.v 2) (.int 0)))
              (.ret (.int 3))
              (.call 1 [(.o1 (.proj 0) (.o2 .idx (.v 0) (.v 1)))]
                (.br (.o1 .no (.o2 .eqi (.v 3) (.o1 (.proj 1) (.o2 .idx (.v 0) (.v 1)))))
                  (.ret (.int 12))
                  (.br (.o2 .eqi (.o1 (.proj 1) (.o2 .idx (.v 0) (.v 1))) (.int 2))
                    (.br (.o2 .lei (.o1 .len (.v 0)) (.o2 (.add .i64) (.v 1) (.int 1)))
                      (.ret (.int 12))
                      (.req (.o2 .lei (.int 0) (.o2 (.add .i64) (.v 1) (.int 1))) (.req (.o2 .lti (.o2 (.add .i64) (.v 1) (.int 1)) (.o1 .len (.v 0))) (.br (.o1 .no (.o3 .ite (.o2 .eqs (.o1 (.proj 0) (.o2 .idx (.v 0) (.o2 (.add .i64) (.v 1) (.int 1)))) (.str [])) (.o3 .ite (.o2 .eqi (.o1 (.proj 1) (.o2 .idx (.v 0) (.o2 (.add .i64) (.v 1) (.int 1)))) (.int 0)) (.o3 .ite (.o3 .ite (.o2 .eqi (.o1 (.proj 2) (.o2 .idx (.v 0) (.o2 (.add .i64) (.v 1) (.int 1)))) (.o1 (.proj 2) (.o2 .idx (.v 0) (.v 1)))) (.o3 .ite (.o2 .eqi (.o1 (.proj 3) (.o2 .idx (.v 0) (.o2 (.add .i64) (.v 1) (.int 1)))) (.o1 (.proj 3) (.o2 .idx (.v 0) (.v 1)))) (.o3 .ite (.o2 .eqi (.o1 (.proj 4) (.o2 .idx (.v 0) (.o2 (.add .i64) (.v 1) (.int 1)))) (.o1 (.proj 4) (.o2 .idx (.v 0) (.v 1)))) (.bool true) (.bool false)) (.bool false)) (.bool false)) (.bool true) (.bool false)) (.bool false)) (.bool false)))
                        (.ret (.int 12))
                        (.back 0 [(.o2 (.add .i64) (.v 1) (.o1 (.proj 1) (.o2 .idx (.v 0) (.v 1))))])))))
                    (.back 0 [(.o2 (.add .i64) (.v 1) (.o1 (.proj 1) (.o2 .idx (.v 0) (.v 1))))])))))))))
        (.ret (.int 0))))))
set_option maxRecDepth 100000 in
theorem qpg : za4 cx_cellrow_Check 4 sg_cellrow_Check Tryd.f72 (Tryd.f72.body.getD .skip) = tr_cellrow_Check := by kernel_rfl
theorem qph {Γ : CEnv} (hg : ∀ n, Γ.glob n = globT n) (hs : ∀ s ∈ cx_cellrow_Check.sigs, Contract Tryd.prog Γ gtabU s (Γ.pre s.no) (Γ.post s.no)) : CxOk cx_cellrow_Check Γ := ⟨by kernel_rfl, hs, (fun x hx => by cases hx), (fun x hx => by cases hx)⟩
theorem contract_cellrow_Check {Γ : CEnv} (hg : ∀ n, Γ.glob n = globT n) (hs : ∀ s ∈ cx_cellrow_Check.sigs, Contract Tryd.prog Γ gtabU s (Γ.pre s.no) (Γ.post s.no)) (k : Nat) {pre : List TV → Prop} {post : List TV → TV → Prop} (h : ∀ ts, ts.length = 1 → pre ts → tr_cellrow_Check.den Γ (post ts) ts []) : Contract Tryd.prog Γ gtabU (qpc k) pre post :=
  Contract.renum (zas (qph hg hs) 4 sg_cellrow_Check Tryd.func72 (by kernel_rfl) (by kernel_rfl) fun ts hl hp => by rw [qpg]; exact h ts hl hp) k
def sg_attr_Check : Sig := ⟨75, 0, [(true, [(.int .i64), (.int .i64), (.int .i64)])], [(false, [((.int .i64), none)])]⟩
def qo9 (k : Nat) : Sig := ⟨sg_attr_Check.f, k, sg_attr_Check.args, sg_attr_Check.res⟩

def sg_view_showable : Sig := ⟨37, 0, [(true, [(.int .i64), (.int .i64), (.slice false [(.slice true [.str, (.int .i64), (.int .i64), (.int .i64), (.int .i64)])]), (.int .i64), (.int .i64), (.slice false [(.slice true [.str, (.int .i64), (.int .i64), (.int .i64), (.int .i64)])]), (.int .i64), (.int .i64), .bool, (.int .i64), (.int .i64), .bool, (.int .i64), (.int .i64), (.int .i64), .bool, (.int .u8), (.int .u8), (.int .i64), (.int .i64), (.int .i64), (.int .i64), .bool, .bool, .bool, .bool, .bool, .bool, .bool, .bool, (.int .u8), (.int .u8), (.int .i64), (.int .i64), (.int .i64), (.slice false [.bool]), (.slice false [(.slice true [.str, (.int .i64), (.int .i64), (.int .i64), (.int .i64)])]), (.int .i64), .str, .str, .str, .str])], [(false, [(.bool, none)])]⟩
def qpf (k : Nat) : Sig := ⟨sg_view_showable.f, k, sg_view_showable.args, sg_view_showable.res⟩
def qpe : List (FuncId × Nat × Head) := [(37, 5, ⟨[3, 50, 51, 52], [.slot 3 true 39 false []], [52], [], [], []⟩), (115, 2, ⟨[0, 1, 7, 8], [.blk 0], [8], [], [], []⟩)]
def qpd : List (FuncId × Nat × Nat × Plan) := [(37, 1, 9999, .nil)]
noncomputable def cx_view_showable : Cx := ⟨Tryd.prog, gtabU, [qc1 0, qpc 1, qo9 2], [(74, Tryd.f74), (115, Tryd.f115), (73, Tryd.f73)], qpe, qpd, []⟩
def tr_view_showable : Tree := (.call 0 [(.o1 (.proj 0) (.v 0)), (.o1 (.proj 1) (.v 0))]
  (.br (.o1 .no (.v 1))
    (.ret (.bool false))
    (.br (.o1 .no (.o2 .eqi (.o1 .len (.o1 (.proj 2) (.v 0))) (.o1 (.proj 1) (.v 0))))
      (.ret (.bool false))
      (.br (.o2 .lti (.o1 (.proj 6) (.v 0)) (.int 0))
        (.ret (.bool false))
        (.br (.o2 .lei (.o1 (.proj 1) (.v 0)) (.o1 (.proj 6) (.v 0)))
          (.ret (.bool false))
          (.br (.o2 .lti (.o1 (.proj 7) (.v 0)) (.int 0))
            (.ret (.bool false))
            (.br (.o2 .lei (.o1 (.proj 0) (.v 0)) (.o1 (.proj 7) (.v 0)))
              (.ret (.bool false))
              (.loop [(.int 0)]
                (.br (.o2 .lti (.v 2) (.o1 .len (.o1 (.proj 2) (.v 0))))
                  (.req (.o2 .lei (.int 0) (.v 2)) (.req (.o2 .lti (.v 2) (.o1 .len (.o1 (.proj 2) (.v 0)))) (.br (.o1 .no (.o2 .eqi (.o1 .len (.o2 .idx (.o1 (.proj 2) (.v 0)) (.v 2))) (.o1 (.proj 0) (.v 0))))
                    (.ret (.bool false))
                    (.call 1 [(.o2 .idx (.o1 (.proj 2) (.v 0)) (.v 2))]
                      (.br (.o1 .no (.o2 .eqi (.v 3) (.int 0)))
                        (.ret (.bool false))
                        (.loop [(.int 0)]
                          (.br (.o2 .lti (.v 4) (.o1 .len (.o2 .idx (.o1 (.proj 2) (.v 0)) (.v 2))))
                            (.req (.o2 .lei (.int 0) (.v 4)) (.req (.o2 .lti (.v 4) (.o1 .len (.o2 .idx (.o1 (.proj 2) (.v 0)) (.v 2)))) (.call 2 [(.o1 .agg (.cons (.o1 (.proj 2) (.o2 .idx (.o2 .idx (.o1 (.proj 2) (.v 0)) (.v 2)) (.v 4))) (.cons (.o1 (.proj 3) (.o2 .idx (.o2 .idx (.o1 (.proj 2) (.v 0)) (.v 2)) (.v 4))) (.cons (.o1 (.proj 4) (.o2 .idx (.o2 .idx (.o1 (.proj 2) (.v 0)) (.v 2)) (.v 4))) .nil))))]
                              (.br (.o1 .no (.o2 .eqi (.v 5) (.int 0)))
                                (.br (.o2 .lei (.int 0) (.v 4))
                                  (.ret (.bool false))
                                  (.back 0 [(.o2 (.add .i64) (.v 2) (.int 1))]))
                                (.back 1 [(.o2 (.add .i64) (.v 4) (.int 1))])))))
                            (.back 0 [(.o2 (.add .i64) (.v 2) (.int 1))]))))))))
                  (.ret (.bool true)))))))))))
set_option maxRecDepth 100000 in
theorem qo7 : za4 cx_view_showable 4 sg_view_showable Tryd.f37 (Tryd.f37.body.getD .skip) = tr_view_showable := by kernel_rfl
theorem qo8 {Γ : CEnv} (hg : ∀ n, Γ.glob n = globT n) (hs : ∀ s ∈ cx_view_showable.sigs, Contract Tryd.prog Γ gtabU s (Γ.pre s.no) (Γ.post s.no)) : CxOk cx_view_showable Γ := ⟨by kernel_rfl, hs, (fun x hx => by
  simp only [cx_view_showable, List.mem_cons, List.not_mem_nil, or_false] at hx
  rcases hx with rfl | rfl | rfl
  · exact ⟨Tryd.func74, by kernel_rfl⟩
  · exact ⟨Tryd.func115, by kernel_rfl⟩
  · exact ⟨Tryd.func73, by kernel_rfl⟩), (fun x hx => by cases hx)⟩
theorem contract_view_showable {Γ : CEnv} (hg : ∀ n, Γ.glob n = globT n) (hs : ∀ s ∈ cx_view_showable.sigs, Contract Tryd.prog Γ gtabU s (Γ.pre s.no) (Γ.post s.no)) (k : Nat) {pre : List TV → Prop} {post : List TV → TV → Prop} (h : ∀ ts, ts.length = 1 → pre ts → tr_view_showable.den Γ (post ts) ts []) : Contract Tryd.prog Γ gtabU (qpf k) pre post :=
  Contract.renum (zas (qo8 hg hs) 4 sg_view_showable Tryd.func37 (by kernel_rfl) (by kernel_rfl) fun ts hl hp => by rw [qo7]; exact h ts hl hp) k

def sg_attr_Style : Sig := ⟨80, 0, [(true, [(.int .i64), (.int .i64), (.int .i64)])], [(false, [((.int .i64), none)])]⟩
def qox (k : Nat) : Sig := ⟨sg_attr_Style.f, k, sg_attr_Style.args, sg_attr_Style.res⟩
def qow : List (FuncId × Nat × Head) := []
def qov : List (FuncId × Nat × Nat × Plan) := []
noncomputable def cx_attr_Style : Cx := ⟨Tryd.prog, gtabU, [], [], qow, qov, []⟩
def tr_attr_Style : Tree := (.br (.o1 .no (.o2 .eqi (.o2 (.and .i64) (.o1 (.proj 2) (.v 0)) (.int 64)) (.int 0)))
  (.ret (.int 3))
  (.br (.o1 .no (.o2 .eqi (.o2 (.and .i64) (.o1 (.proj 2) (.v 0)) (.int 32)) (.int 0)))
    (.ret (.int 2))
    (.br (.o1 .no (.o2 .eqi (.o2 (.and .i64) (.o1 (.proj 2) (.v 0)) (.int 29)) (.int 0)))
      (.ret (.int 1))
      (.ret (.int 0)))))
set_option maxRecDepth 100000 in
theorem qon : za4 cx_attr_Style 4 sg_attr_Style Tryd.f80 (Tryd.f80.body.getD .skip) = tr_attr_Style := by kernel_rfl
theorem qom {Γ : CEnv} (hg : ∀ n, Γ.glob n = globT n) (hs : ∀ s ∈ cx_attr_Style.sigs, Contract Tryd.prog Γ gtabU s (Γ.pre s.no) (Γ.post s.no)) : CxOk cx_attr_Style Γ := ⟨by kernel_rfl, hs, (fun x hx => by cases hx), (fun x hx => by cases hx)⟩
theorem qo6 {Γ : CEnv} (hg : ∀ n, Γ.glob n = globT n) (hs : ∀ s ∈ cx_attr_Style.sigs, Contract Tryd.prog Γ gtabU s (Γ.pre s.no) (Γ.post s.no)) (k : Nat) {pre : List TV → Prop} {post : List TV → TV → Prop} (h : ∀ ts, ts.length = 1 → pre ts → tr_attr_Style.den Γ (post ts) ts []) : Contract Tryd.prog Γ gtabU (qox k) pre post :=
  Contract.renum (zas (qom hg hs) 4 sg_attr_Style Tryd.func80 (by kernel_rfl) (by kernel_rfl) fun ts hl hp => by rw [qon]; exact h ts hl hp) k

def sg_view_blank : Sig := ⟨76, 0, [], [(true, [(.str, none), (.bool, none), ((.int .i64), none)])]⟩
def qcz (k : Nat) : Sig := ⟨sg_view_blank.f, k, sg_view_blank.args, sg_view_blank.res⟩
def hd_view_blank : List (FuncId × Nat × Head) := []
def pl_view_blank : List (FuncId × Nat × Nat × Plan) := []
noncomputable def cx_view_blank : Cx := ⟨Tryd.prog, gtabU, [], [], hd_view_blank, pl_view_blank, []⟩
def tr_view_blank : Tree := (.ret (.o1 .agg (.cons (.str [32]) (.cons (.bool false) (.cons (.int 0) .nil)))))
set_option maxRecDepth 100000 in
theorem qhp : za4 cx_view_blank 4 sg_view_blank Tryd.f76 (Tryd.f76.body.getD .skip) = tr_view_blank := by kernel_rfl
theorem qhg {Γ : CEnv} (hg : ∀ n, Γ.glob n = globT n) (hs : ∀ s ∈ cx_view_blank.sigs, Contract Tryd.prog Γ gtabU s (Γ.pre s.no) (Γ.post s.no)) : CxOk cx_view_blank Γ := ⟨by kernel_rfl, hs, (fun x hx => by cases hx), (fun x hx => by cases hx)⟩
theorem qeh {Γ : CEnv} (hg : ∀ n, Γ.glob n = globT n) (hs : ∀ s ∈ cx_view_blank.sigs, Contract Tryd.prog Γ gtabU s (Γ.pre s.no) (Γ.post s.no)) (k : Nat) {pre : List TV → Prop} {post : List TV → TV → Prop} (h : ∀ ts, ts.length = 0 → pre ts → tr_view_blank.den Γ (post ts) ts []) : Contract Tryd.prog Γ gtabU (qcz k) pre post :=
  Contract.renum (zas (qhg hg hs) 4 sg_view_blank Tryd.func76 (by kernel_rfl) (by kernel_rfl) fun ts hl hp => by rw [qhp]; exact h ts hl hp) k
def sg_slices_Cloneapi_Glyphapi_Glyph : Sig := ⟨77, 0, [(false, [(.slice true [.str, .bool, (.int .i64)])])], [(false, [((.slice true [.str, .bool, (.int .i64)]), some 107)])]⟩
def qpp (k : Nat) : Sig := ⟨sg_slices_Cloneapi_Glyphapi_Glyph.f, k, sg_slices_Cloneapi_Glyphapi_Glyph.args, sg_slices_Cloneapi_Glyphapi_Glyph.res⟩

def sg_view_Trim : Sig := ⟨38, 0, [(false, [(.slice true [.str, .bool, (.int .i64)])])], [(false, [((.slice true [.str, .bool, (.int .i64)]), some 107)])]⟩
def sn_view_Trim (k : Nat) : Sig := ⟨sg_view_Trim.f, k, sg_view_Trim.args, sg_view_Trim.res⟩
def hd_view_Trim : List (FuncId × Nat × Head) := [(38, 2, ⟨[0, 3], [], [3], [], [], []⟩)]
def pl_view_Trim : List (FuncId × Nat × Nat × Plan) := [(38, 2, 11, (.op true 0 (.op true 1 (.op true 2 (.op true 3 (.op true 4 (.op true 5 (.op true 6 (.op true 7 (.op false 8 (.op false 9 (.op false 10 .nil))))))))))))]
noncomputable def cx_view_Trim : Cx := ⟨Tryd.prog, gtabU, [qcz 0, qpp 1], [], hd_view_Trim, pl_view_Trim, []⟩
def tr_view_Trim : Tree := (.loop [(.o1 .len (.v 0))]
  (.br (.o2 .lti (.int 0) (.v 1))
    (.req (.o2 .lei (.int 0) (.o2 (.sub .i64) (.v 1) (.int 1))) (.req (.o2 .lti (.o2 (.sub .i64) (.v 1) (.int 1)) (.o1 .len (.v 0))) (.call 0 []
      (.br (.o3 .ite (.o2 .eqs (.o1 (.proj 0) (.o2 .idx (.v 0) (.o2 (.sub .i64) (.v 1) (.int 1)))) (.o1 (.proj 0) (.v 2))) (.o3 .ite (.o2 .eqb (.o1 (.proj 1) (.o2 .idx (.v 0) (.o2 (.sub .i64) (.v 1) (.int 1)))) (.o1 (.proj 1) (.v 2))) (.o3 .ite (.o2 .eqi (.o1 (.proj 2) (.o2 .idx (.v 0) (.o2 (.sub .i64) (.v 1) (.int 1)))) (.o1 (.proj 2) (.v 2))) (.bool true) (.bool false)) (.bool false)) (.bool false))
        (.back 0 [(.o2 (.sub .i64) (.v 1) (.int 1))])
        (.req (.o2 .lei (.int 0) (.v 1)) (.req (.o2 .lei (.v 1) (.o1 .len (.v 0))) (.call 1 [(.o3 .sub (.v 0) (.int 0) (.v 1))]
          (.ret (.v 3)))))))))
    (.req (.o2 .lei (.int 0) (.v 1)) (.req (.o2 .lei (.v 1) (.o1 .len (.v 0))) (.call 1 [(.o3 .sub (.v 0) (.int 0) (.v 1))]
      (.ret (.v 2)))))))
set_option maxRecDepth 100000 in
theorem tree_view_Trim : za4 cx_view_Trim 4 sg_view_Trim Tryd.f38 (Tryd.f38.body.getD .skip) = tr_view_Trim := by kernel_rfl
theorem cxok_view_Trim {Γ : CEnv} (hg : ∀ n, Γ.glob n = globT n) (hs : ∀ s ∈ cx_view_Trim.sigs, Contract Tryd.prog Γ gtabU s (Γ.pre s.no) (Γ.post s.no)) : CxOk cx_view_Trim Γ := ⟨by kernel_rfl, hs, (fun x hx => by cases hx), (fun x hx => by cases hx)⟩
theorem contract_view_Trim {Γ : CEnv} (hg : ∀ n, Γ.glob n = globT n) (hs : ∀ s ∈ cx_view_Trim.sigs, Contract Tryd.prog Γ gtabU s (Γ.pre s.no) (Γ.post s.no)) (k : Nat) {pre : List TV → Prop} {post : List TV → TV → Prop} (h : ∀ ts, ts.length = 1 → pre ts → tr_view_Trim.den Γ (post ts) ts []) : Contract Tryd.prog Γ gtabU (sn_view_Trim k) pre post :=
  Contract.renum (zas (cxok_view_Trim hg hs) 4 sg_view_Trim Tryd.func38 (by kernel_rfl) (by kernel_rfl) fun ts hl hp => by rw [tree_view_Trim]; exact h ts hl hp) k
def sg_view_Of : Sig := ⟨15, 0, [(true, [(.int .i64), (.int .i64), (.slice false [(.slice true [.str, (.int .i64), (.int .i64), (.int .i64), (.int .i64)])]), (.int .i64), (.int .i64), (.slice false [(.slice true [.str, (.int .i64), (.int .i64), (.int .i64), (.int .i64)])]), (.int .i64), (.int .i64), .bool, (.int .i64), (.int .i64), .bool, (.int .i64), (.int .i64), (.int .i64), .bool, (.int .u8), (.int .u8), (.int .i64), (.int .i64), (.int .i64), (.int .i64), .bool, .bool, .bool, .bool, .bool, .bool, .bool, .bool, (.int .u8), (.int .u8), (.int .i64), (.int .i64), (.int .i64), (.slice false [.bool]), (.slice false [(.slice true [.str, (.int .i64), (.int .i64), (.int .i64), (.int .i64)])]), (.int .i64), .str, .str, .str, .str])], [(true, [((.int .i64), none), ((.int .i64), none), ((.slice false [(.slice true [.str, .bool, (.int .i64)])]), none), ((.int .i64), none), ((.int .i64), none), (.bool, none)])]⟩
def sn_view_Of (k : Nat) : Sig := ⟨sg_view_Of.f, k, sg_view_Of.args, sg_view_Of.res⟩

def sg_narratortop_TopScriptConcealment : Sig := ⟨4, 0, [(false, [(.slice true [(.int .i64), (.int .i64)])]), (true, [(.int .i64), (.int .i64), (.slice false [(.slice true [.str, (.int .i64), (.int .i64), (.int .i64), (.int .i64)])]), (.int .i64), (.int .i64), (.slice false [(.slice true [.str, (.int .i64), (.int .i64), (.int .i64), (.int .i64)])]), (.int .i64), (.int .i64), .bool, (.int .i64), (.int .i64), .bool, (.int .i64), (.int .i64), (.int .i64), .bool, (.int .u8), (.int .u8), (.int .i64), (.int .i64), (.int .i64), (.int .i64), .bool, .bool, .bool, .bool, .bool, .bool, .bool, .bool, (.int .u8), (.int .u8), (.int .i64), (.int .i64), (.int .i64), (.slice false [.bool]), (.slice false [(.slice true [.str, (.int .i64), (.int .i64), (.int .i64), (.int .i64)])]), (.int .i64), .str, .str, .str, .str]), (false, [.str]), (false, [.str]), (true, [(.int .i64), (.int .i64), (.int .i64)])], [(false, [(.bool, none)])]⟩
def qob (k : Nat) : Sig := ⟨sg_narratortop_TopScriptConcealment.f, k, sg_narratortop_TopScriptConcealment.args, sg_narratortop_TopScriptConcealment.res⟩
def qod : List (FuncId × Nat × Head) := [(4, 23, ⟨[0, 9, 15, 16, 17], [.slot 9 true 25 false [], .slot 15 true 61 false [], .slot 16 true 61 false []], [17], [], [], []⟩), (4, 6, ⟨[0, 2, 3, 6, 9, 11, 12], [.slot 6 true 53 false [], .slot 9 true 25 false [], .slot 11 true 53 false [], .cell 11 2 false 56 false [(.slice true [.str, (.int .i64), (.int .i64), (.int .i64), (.int .i64)])]], [12], [3], [], []⟩), (4, 10, ⟨[0, 2, 3, 6, 9, 11, 12, 13, 14], [.slot 6 true 53 false [], .slot 9 true 25 false [], .slot 11 true 53 false [], .cell 11 2 false 56 false [(.slice true [.str, (.int .i64), (.int .i64), (.int .i64), (.int .i64)])], .slot 13 false 58 true [.str, (.int .i64), (.int .i64), (.int .i64), (.int .i64)]], [14], [4], [], []⟩)]
def qoc : List (FuncId × Nat × Nat × Plan) := [(4, 19, 6, (.op true 0 (.op true 2 (.alt 1 (.alt 3 (.alt 4 (.op false 5 .nil) (.op false 5 (.op false 4 .nil))) (.alt 4 (.alt 3 (.op false 5 .nil) (.op false 5 (.op false 3 .nil))) (.op false 5 (.alt 3 (.op false 4 .nil) (.op false 4 (.op false 3 .nil)))))) (.alt 4 (.alt 1 (.alt 3 (.op false 5 .nil) (.op false 5 (.op false 3 .nil))) (.op false 5 (.op false 1 (.op false 3 .nil)))) (.op false 5 (.alt 1 (.alt 3 (.op false 4 .nil) (.op false 4 (.op false 3 .nil))) (.op false 4 (.op false 1 (.op false 3 .nil)))))))))), (4, 25, 19, (.op true 0 (.op true 1 (.op true 2 (.op true 3 (.op true 4 (.op true 5 (.op true 6 (.op true 7 (.op true 9 (.op true 10 (.op true 11 (.op true 12 (.op true 13 (.op true 14 (.op true 15 (.op true 16 (.op false 8 (.op false 17 (.op false 18 .nil))))))))))))))))))))]
noncomputable def cx_narratortop_TopScriptConcealment : Cx := ⟨Tryd.prog, gtabU, [zh6 0, qm2 1, qmj 2, qof 3, qou 4, sn_view_Of 5], [], qod, qoc, []⟩
def tr_narratortop_TopScriptConcealment : Tree := (.br (.o2 .lti (.int 100) (.o1 .len (.v 0)))
  (.call 2 []
    (.ret (.v 5)))
  (.call 3 [(.o1 .agg (.cons (.o1 (.proj 0) (.v 1)) (.cons (.o1 (.proj 1) (.v 1)) (.cons (.o1 (.proj 2) (.v 1)) (.cons (.o1 (.proj 3) (.v 1)) (.cons (.o1 (.proj 4) (.v 1)) (.cons (.o1 (.proj 5) (.v 1)) (.cons (.o1 (.proj 6) (.v 1)) (.cons (.o1 (.proj 7) (.v 1)) (.cons (.o1 (.proj 8) (.v 1)) (.cons (.o1 (.proj 9) (.v 1)) (.cons (.o1 (.proj 10) (.v 1)) (.cons (.o1 (.proj 11) (.v 1)) (.cons (.o1 (.proj 12) (.v 1)) (.cons (.o1 (.proj 13) (.v 1)) (.cons (.o1 (.proj 14) (.v 1)) (.cons (.o1 (.proj 15) (.v 1)) (.cons (.o1 (.proj 16) (.v 1)) (.cons (.o1 (.proj 17) (.v 1)) (.cons (.o1 (.proj 18) (.v 1)) (.cons (.o1 (.proj 19) (.v 1)) (.cons (.o1 (.proj 20) (.v 1)) (.cons (.o1 (.proj 21) (.v 1)) (.cons (.o1 (.proj 22) (.v 1)) (.cons (.o1 (.proj 23) (.v 1)) (.cons (.o1 (.proj 24) (.v 1)) (.cons (.o1 (.proj 25) (.v 1)) (.cons (.o1 (.proj 26) (.v 1)) (.cons (.o1 (.proj 27) (.v 1)) (.cons (.o1 (.proj 28) (.v 1)) (.cons (.o1 (.proj 29) (.v 1)) (.cons (.o1 (.proj 30) (.v 1)) (.cons (.o1 (.proj 31) (.v 1)) (.cons (.o1 (.proj 32) (.v 1)) (.cons (.o1 (.proj 33) (.v 1)) (.cons (.o1 (.proj 34) (.v 1)) (.cons (.o1 (.proj 35) (.v 1)) (.cons (.o1 (.proj 36) (.v 1)) (.cons (.o1 (.proj 37) (.v 1)) (.cons (.o1 (.proj 38) (.v 1)) (.cons (.o1 (.proj 39) (.v 1)) (.cons (.o1 (.proj 40) (.v 1)) (.cons (.o1 (.proj 41) (.v 1)) .nil)))))))))))))))))))))))))))))))))))))))))))]
    (.br (.v 5)
      (.call 2 []
        (.ret (.v 6)))
      (.call 4 [(.o1 .agg (.cons (.o1 (.proj 0) (.v 1)) (.cons (.o1 (.proj 1) (.v 1)) (.cons (.o1 (.proj 2) (.v 1)) (.cons (.o1 (.proj 3) (.v 1)) (.cons (.o1 (.proj 4) (.v 1)) (.cons (.o1 (.proj 5) (.v 1)) (.cons (.o1 (.proj 6) (.v 1)) (.cons (.o1 (.proj 7) (.v 1)) (.cons (.o1 (.proj 8) (.v 1)) (.cons (.o1 (.proj 9) (.v 1)) (.cons (.o1 (.proj 10) (.v 1)) (.cons (.o1 (.proj 11) (.v 1)) (.cons (.o1 (.proj 12) (.v 1)) (.cons (.o1 (.proj 13) (.v 1)) (.cons (.o1 (.proj 14) (.v 1)) (.cons (.o1 (.proj 15) (.v 1)) (.cons (.o1 (.proj 16) (.v 1)) (.cons (.o1 (.proj 17) (.v 1)) (.cons (.o1 (.proj 18) (.v 1)) (.cons (.o1 (.proj 19) (.v 1)) (.cons (.o1 (.proj 20) (.v 1)) (.cons (.o1 (.proj 21) (.v 1)) (.cons (.o1 (.proj 22) (.v 1)) (.cons (.o1 (.proj 23) (.v 1)) (.cons (.o1 (.proj 24) (.v 1)) (.cons (.o1 (.proj 25) (.v 1)) (.cons (.o1 (.proj 26) (.v 1)) (.cons (.o1 (.proj 27) (.v 1)) (.cons (.o1 (.proj 28) (.v 1)) (.cons (.o1 (.proj 29) (.v 1)) (.cons (.o1 (.proj 30) (.v 1)) (.cons (.o1 (.proj 31) (.v 1)) (.cons (.o1 (.proj 32) (.v 1)) (.cons (.o1 (.proj 33) (.v 1)) (.cons (.o1 (.proj 34) (.v 1)) (.cons (.o1 (.proj 35) (.v 1)) (.cons (.o1 (.proj 36) (.v 1)) (.cons (.o1 (.proj 37) (.v 1)) (.cons (.o1 (.proj 38) (.v 1)) (.cons (.o1 (.proj 39) (.v 1)) (.cons (.o1 (.proj 40) (.v 1)) (.cons (.o1 (.proj 41) (.v 1)) .nil)))))))))))))))))))))))))))))))))))))))))))]
        (.br (.o1 .no (.v 6))
          (.call 2 []
            (.ret (.v 7)))
          (.br (.o2 .lti (.int 40) (.o1 .slen (.v 2)))
            (.call 2 []
              (.ret (.v 7)))
            (.br (.o2 .lti (.int 40) (.o1 .slen (.v 3)))
              (.call 2 []
                (.ret (.v 7)))
              (.call 0 [(.v 2)]
                (.br (.o1 .no (.o2 .eqi (.v 7) (.int 1)))
                  (.call 2 []
                    (.ret (.v 8)))
                  (.call 0 [(.v 3)]
                    (.br (.o1 .no (.o2 .eqi (.v 8) (.int 2)))
                      (.call 2 []
                        (.ret (.v 9)))
                      (.loop [(.int 0), .nil]
                        (.br (.o2 .lti (.v 9) (.o1 .len (.o1 (.proj 2) (.v 1))))
                          (.req (.o2 .lei (.int 0) (.v 9)) (.req (.o2 .lti (.v 9) (.o1 .len (.o1 (.proj 2) (.v 1)))) (.req (.o2 .lei (.o1 .len (.o2 .app .nil (.o2 .idx (.o1 (.proj 2) (.v 1)) (.v 9)))) (.int 1099511627776)) (.loop [(.int 0), (.o2 .app .nil (.o2 .idx (.o1 (.proj 2) (.v 1)) (.v 9)))]
                            (.br (.o2 .lti (.v 11) (.o1 .len (.v 12)))
                              (.req (.o2 .lei (.int 0) (.v 11)) (.req (.o2 .lti (.v 11) (.o1 .len (.v 12))) (.br (.o2 .eqi (.o2 (.and .i64) (.o1 (.proj 4) (.o2 .idx (.v 12) (.v 11))) (.int 64)) (.int 0))
                                (.back 1 [(.o2 (.add .i64) (.v 11) (.int 1)), (.v 12)])
                                (.req (.o2 .lei (.int 0) (.v 11)) (.req (.o2 .lti (.v 11) (.o1 .len (.v 12))) (.br (.o2 .eqi (.o1 (.proj 1) (.o2 .idx (.v 12) (.v 11))) (.int 1))
                                  (.req (.o2 .lei (.int 0) (.v 11)) (.req (.o2 .lti (.v 11) (.o1 .len (.v 12))) (.back 1 [(.o2 (.add .i64) (.v 11) (.int 1)), (.o3 .set (.v 12) (.v 11) (.o2 (.setc 0 5) (.o2 .idx (.v 12) (.v 11)) (.v 2)))])))
                                  (.br (.o2 .eqi (.o1 (.proj 1) (.o2 .idx (.v 12) (.v 11))) (.int 2))
                                    (.req (.o2 .lei (.int 0) (.v 11)) (.req (.o2 .lti (.v 11) (.o1 .len (.v 12))) (.back 1 [(.o2 (.add .i64) (.v 11) (.int 1)), (.o3 .set (.v 12) (.v 11) (.o2 (.setc 0 5) (.o2 .idx (.v 12) (.v 11)) (.v 3)))])))
                                    (.back 1 [(.o2 (.add .i64) (.v 11) (.int 1)), (.v 12)]))))))))
                              (.req (.o2 .lei (.o1 .len (.o2 .app (.v 10) (.cons (.v 12) .nil))) (.int 1099511627776)) (.back 0 [(.o2 (.add .i64) (.v 9) (.int 1)), (.o2 .app (.v 10) (.cons (.v 12) .nil))])))))))
                          (.both
                            (.call 5 [(.o1 .agg (.cons (.o1 (.proj 0) (.v 1)) (.cons (.o1 (.proj 1) (.v 1)) (.cons (.o1 (.proj 2) (.v 1)) (.cons (.o1 (.proj 3) (.v 1)) (.cons (.o1 (.proj 4) (.v 1)) (.cons (.o1 (.proj 5) (.v 1)) (.cons (.o1 (.proj 6) (.v 1)) (.cons (.o1 (.proj 7) (.v 1)) (.cons (.o1 (.proj 8) (.v 1)) (.cons (.o1 (.proj 9) (.v 1)) (.cons (.o1 (.proj 10) (.v 1)) (.cons (.o1 (.proj 11) (.v 1)) (.cons (.o1 (.proj 12) (.v 1)) (.cons (.o1 (.proj 13) (.v 1)) (.cons (.o1 (.proj 14) (.v 1)) (.cons (.o1 (.proj 15) (.v 1)) (.cons (.o1 (.proj 16) (.v 1)) (.cons (.o1 (.proj 17) (.v 1)) (.cons (.o1 (.proj 18) (.v 1)) (.cons (.o1 (.proj 19) (.v 1)) (.cons (.o1 (.proj 20) (.v 1)) (.cons (.o1 (.proj 21) (.v 1)) (.cons (.o1 (.proj 22) (.v 1)) (.cons (.o1 (.proj 23) (.v 1)) (.cons (.o1 (.proj 24) (.v 1)) (.cons (.o1 (.proj 25) (.v 1)) (.cons (.o1 (.proj 26) (.v 1)) (.cons (.o1 (.proj 27) (.v 1)) (.cons (.o1 (.proj 28) (.v 1)) (.cons (.o1 (.proj 29) (.v 1)) (.cons (.o1 (.proj 30) (.v 1)) (.cons (.o1 (.proj 31) (.v 1)) (.cons (.o1 (.proj 32) (.v 1)) (.cons (.o1 (.proj 33) (.v 1)) (.cons (.o1 (.proj 34) (.v 1)) (.cons (.o1 (.proj 35) (.v 1)) (.cons (.o1 (.proj 36) (.v 1)) (.cons (.o1 (.proj 37) (.v 1)) (.cons (.o1 (.proj 38) (.v 1)) (.cons (.o1 (.proj 39) (.v 1)) (.cons (.o1 (.proj 40) (.v 1)) (.cons (.o1 (.proj 41) (.v 1)) .nil)))))))))))))))))))))))))))))))))))))))))))]
                              (.both
                                (.call 5 [(.o1 .agg (.cons (.o1 (.proj 0) (.v 1)) (.cons (.o1 (.proj 1) (.v 1)) (.cons (.v 10) (.cons (.o1 (.proj 3) (.v 1)) (.cons (.o1 (.proj 4) (.v 1)) (.cons (.o1 (.proj 5) (.v 1)) (.cons (.o1 (.proj 6) (.v 1)) (.cons (.o1 (.proj 7) (.v 1)) (.cons (.o1 (.proj 8) (.v 1)) (.cons (.o1 (.proj 9) (.v 1)) (.cons (.o1 (.proj 10) (.v 1)) (.cons (.o1 (.proj 11) (.v 1)) (.cons (.o1 (.proj 12) (.v 1)) (.cons (.o1 (.proj 13) (.v 1)) (.cons (.o1 (.proj 14) (.v 1)) (.cons (.o1 (.proj 15) (.v 1)) (.cons (.o1 (.proj 16) (.v 1)) (.cons (.o1 (.proj 17) (.v 1)) (.cons (.o1 (.proj 18) (.v 1)) (.cons (.o1 (.proj 19) (.v 1)) (.cons (.o1 (.proj 20) (.v 1)) (.cons (.o1 (.proj 21) (.v 1)) (.cons (.o1 (.proj 22) (.v 1)) (.cons (.o1 (.proj 23) (.v 1)) (.cons (.o1 (.proj 24) (.v 1)) (.cons (.o1 (.proj 25) (.v 1)) (.cons (.o1 (.proj 26) (.v 1)) (.cons (.o1 (.proj 27) (.v 1)) (.cons (.o1 (.proj 28) (.v 1)) (.cons (.o1 (.proj 29) (.v 1)) (.cons (.o1 (.proj 30) (.v 1)) (.cons (.o1 (.proj 31) (.v 1)) (.cons (.o1 (.proj 32) (.v 1)) (.cons (.o1 (.proj 33) (.v 1)) (.cons (.o1 (.proj 34) (.v 1)) (.cons (.o1 (.proj 35) (.v 1)) (.cons (.o1 (.proj 36) (.v 1)) (.cons (.o1 (.proj 37) (.v 1)) (.cons (.o1 (.proj 38) (.v 1)) (.cons (.o1 (.proj 39) (.v 1)) (.cons (.o1 (.proj 40) (.v 1)) (.cons (.o1 (.proj 41) (.v 1)) .nil)))))))))))))))))))))))))))))))))))))))))))]
                                  (.both
                                    (.br (.o1 .no (.o2 .eqi (.o1 .len (.o1 (.proj 2) (.v 11))) (.o1 .len (.o1 (.proj 2) (.v 12)))))
                                      (.ret (.bool false))
                                      (.loop [(.int 0)]
                                        (.br (.o2 .lti (.v 13) (.o1 .len (.o1 (.proj 2) (.v 11))))
                                          (.req (.o2 .lei (.int 0) (.v 13)) (.req (.o2 .lti (.v 13) (.o1 .len (.o1 (.proj 2) (.v 11)))) (.req (.o2 .lei (.int 0) (.v 13)) (.req (.o2 .lti (.v 13) (.o1 .len (.o1 (.proj 2) (.v 12)))) (.call 1 [(.v 0), (.v 13), (.o2 .idx (.o1 (.proj 2) (.v 11)) (.v 13)), (.o1 .agg (.cons (.o1 (.proj 0) (.v 4)) (.cons (.o1 (.proj 1) (.v 4)) (.cons (.o1 (.proj 2) (.v 4)) .nil))))]
                                            (.call 1 [(.v 0), (.v 13), (.o2 .idx (.o1 (.proj 2) (.v 12)) (.v 13)), (.o1 .agg (.cons (.o1 (.proj 0) (.v 4)) (.cons (.o1 (.proj 1) (.v 4)) (.cons (.o1 (.proj 2) (.v 4)) .nil))))]
                                              (.br (.o1 .no (.o3 .ite (.o2 .eqi (.o1 (.proj 0) (.v 14)) (.o1 (.proj 0) (.v 15))) (.o3 .ite (.o2 .eqi (.o1 (.proj 1) (.v 14)) (.o1 (.proj 1) (.v 15))) (.o3 .ite (.o2 .eqi (.o1 (.proj 2) (.v 14)) (.o1 (.proj 2) (.v 15))) (.bool true) (.bool false)) (.bool false)) (.bool false)))
                                                (.ret (.bool false))
                                                (.back 1 [(.o2 (.add .i64) (.v 13) (.int 1))]))))))))
                                          (.call 2 []
                                            (.ret (.v 14))))))
                                    (.br (.o1 .no (.o2 .eqi (.o1 .len (.o1 (.proj 2) (.v 11))) (.o1 .len (.o1 (.proj 2) (.v 12)))))
                                      (.ret (.bool false))
                                      (.loop [(.int 0)]
                                        (.br (.o2 .lti (.v 13) (.o1 .len (.o1 (.proj 2) (.v 11))))
                                          (.req (.o2 .lei (.int 0) (.v 13)) (.req (.o2 .lti (.v 13) (.o1 .len (.o1 (.proj 2) (.v 11)))) (.req (.o2 .lei (.int 0) (.v 13)) (.req (.o2 .lti (.v 13) (.o1 .len (.o1 (.proj 2) (.v 12)))) (.call 1 [(.v 0), (.v 13), (.o2 .idx (.o1 (.proj 2) (.v 11)) (.v 13)), (.o1 .agg (.cons (.o1 (.proj 0) (.v 4)) (.cons (.o1 (.proj 1) (.v 4)) (.cons (.o1 (.proj 2) (.v 4)) .nil))))]
                                            (.call 1 [(.v 0), (.v 13), (.o2 .idx (.o1 (.proj 2) (.v 12)) (.v 13)), (.o1 .agg (.cons (.o1 (.proj 0) (.v 4)) (.cons (.o1 (.proj 1) (.v 4)) (.cons (.o1 (.proj 2) (.v 4)) .nil))))]
                                              (.br (.o1 .no (.o3 .ite (.o2 .eqi (.o1 (.proj 0) (.v 14)) (.o1 (.proj 0) (.v 15))) (.o3 .ite (.o2 .eqi (.o1 (.proj 1) (.v 14)) (.o1 (.proj 1) (.v 15))) (.o3 .ite (.o2 .eqi (.o1 (.proj 2) (.v 14)) (.o1 (.proj 2) (.v 15))) (.bool true) (.bool false)) (.bool false)) (.bool false)))
                                                (.ret (.bool false))
                                                (.back 1 [(.o2 (.add .i64) (.v 13) (.int 1))]))))))))
                                          (.call 2 []
                                            (.ret (.v 14))))))))
                                (.both
                                  (.both
                                    (.call 5 [(.o1 .agg (.cons (.o1 (.proj 0) (.v 1)) (.cons (.o1 (.proj 1) (.v 1)) (.cons (.v 10) (.cons (.o1 (.proj 3) (.v 1)) (.cons (.o1 (.proj 4) (.v 1)) (.cons (.o1 (.proj 5) (.v 1)) (.cons (.o1 (.proj 6) (.v 1)) (.cons (.o1 (.proj 7) (.v 1)) (.cons (.o1 (.proj 8) (.v 1)) (.cons (.o1 (.proj 9) (.v 1)) (.cons (.o1 (.proj 10) (.v 1)) (.cons (.o1 (.proj 11) (.v 1)) (.cons (.o1 (.proj 12) (.v 1)) (.cons (.o1 (.proj 13) (.v 1)) (.cons (.o1 (.proj 14) (.v 1)) (.cons (.o1 (.proj 15) (.v 1)) (.cons (.o1 (.proj 16) (.v 1)) (.cons (.o1 (.proj 17) (.v 1)) (.cons (.o1 (.proj 18) (.v 1)) (.cons (.o1 (.proj 19) (.v 1)) (.cons (.o1 (.proj 20) (.v 1)) (.cons (.o1 (.proj 21) (.v 1)) (.cons (.o1 (.proj 22) (.v 1)) (.cons (.o1 (.proj 23) (.v 1)) (.cons (.o1 (.proj 24) (.v 1)) (.cons (.o1 (.proj 25) (.v 1)) (.cons (.o1 (.proj 26) (.v 1)) (.cons (.o1 (.proj 27) (.v 1)) (.cons (.o1 (.proj 28) (.v 1)) (.cons (.o1 (.proj 29) (.v 1)) (.cons (.o1 (.proj 30) (.v 1)) (.cons (.o1 (.proj 31) (.v 1)) (.cons (.o1 (.proj 32) (.v 1)) (.cons (.o1 (.proj 33) (.v 1)) (.cons (.o1 (.proj 34) (.v 1)) (.cons (.o1 (.proj 35) (.v 1)) (.cons (.o1 (.proj 36) (.v 1)) (.cons (.o1 (.proj 37) (.v 1)) (.cons (.o1 (.proj 38) (.v 1)) (.cons (.o1 (.proj 39) (.v 1)) (.cons (.o1 (.proj 40) (.v 1)) (.cons (.o1 (.proj 41) (.v 1)) .nil)))))))))))))))))))))))))))))))))))))))))))]
                                      (.br (.o1 .no (.o2 .eqi (.o1 .len (.o1 (.proj 2) (.v 11))) (.o1 .len (.o1 (.proj 2) (.v 12)))))
                                        (.ret (.bool false))
                                        (.loop [(.int 0)]
                                          (.br (.o2 .lti (.v 13) (.o1 .len (.o1 (.proj 2) (.v 11))))
                                            (.req (.o2 .lei (.int 0) (.v 13)) (.req (.o2 .lti (.v 13) (.o1 .len (.o1 (.proj 2) (.v 11)))) (.req (.o2 .lei (.int 0) (.v 13)) (.req (.o2 .lti (.v 13) (.o1 .len (.o1 (.proj 2) (.v 12)))) (.call 1 [(.v 0), (.v 13), (.o2 .idx (.o1 (.proj 2) (.v 11)) (.v 13)), (.o1 .agg (.cons (.o1 (.proj 0) (.v 4)) (.cons (.o1 (.proj 1) (.v 4)) (.cons (.o1 (.proj 2) (.v 4)) .nil))))]
                                              (.call 1 [(.v 0), (.v 13), (.o2 .idx (.o1 (.proj 2) (.v 12)) (.v 13)), (.o1 .agg (.cons (.o1 (.proj 0) (.v 4)) (.cons (.o1 (.proj 1) (.v 4)) (.cons (.o1 (.proj 2) (.v 4)) .nil))))]
                                                (.br (.o1 .no (.o3 .ite (.o2 .eqi (.o1 (.proj 0) (.v 14)) (.o1 (.proj 0) (.v 15))) (.o3 .ite (.o2 .eqi (.o1 (.proj 1) (.v 14)) (.o1 (.proj 1) (.v 15))) (.o3 .ite (.o2 .eqi (.o1 (.proj 2) (.v 14)) (.o1 (.proj 2) (.v 15))) (.bool true) (.bool false)) (.bool false)) (.bool false)))
                                                  (.ret (.bool false))
                                                  (.back 1 [(.o2 (.add .i64) (.v 13) (.int 1))]))))))))
                                            (.call 2 []
                                              (.ret (.v 14)))))))
                                    (.call 5 [(.o1 .agg (.cons (.o1 (.proj 0) (.v 1)) (.cons (.o1 (.proj 1) (.v 1)) (.cons (.v 10) (.cons (.o1 (.proj 3) (.v 1)) (.cons (.o1 (.proj 4) (.v 1)) (.cons (.o1 (.proj 5) (.v 1)) (.cons (.o1 (.proj 6) (.v 1)) (.cons (.o1 (.proj 7) (.v 1)) (.cons (.o1 (.proj 8) (.v 1)) (.cons (.o1 (.proj 9) (.v 1)) (.cons (.o1 (.proj 10) (.v 1)) (.cons (.o1 (.proj 11) (.v 1)) (.cons (.o1 (.proj 12) (.v 1)) (.cons (.o1 (.proj 13) (.v 1)) (.cons (.o1 (.proj 14) (.v 1)) (.cons (.o1 (.proj 15) (.v 1)) (.cons (.o1 (.proj 16) (.v 1)) (.cons (.o1 (.proj 17) (.v 1)) (.cons (.o1 (.proj 18) (.v 1)) (.cons (.o1 (.proj 19) (.v 1)) (.cons (.o1 (.proj 20) (.v 1)) (.cons (.o1 (.proj 21) (.v 1)) (.cons (.o1 (.proj 22) (.v 1)) (.cons (.o1 (.proj 23) (.v 1)) (.cons (.o1 (.proj 24) (.v 1)) (.cons (.o1 (.proj 25) (.v 1)) (.cons (.o1 (.proj 26) (.v 1)) (.cons (.o1 (.proj 27) (.v 1)) (.cons (.o1 (.proj 28) (.v 1)) (.cons (.o1 (.proj 29) (.v 1)) (.cons (.o1 (.proj 30) (.v 1)) (.cons (.o1 (.proj 31) (.v 1)) (.cons (.o1 (.proj 32) (.v 1)) (.cons (.o1 (.proj 33) (.v 1)) (.cons (.o1 (.proj 34) (.v 1)) (.cons (.o1 (.proj 35) (.v 1)) (.cons (.o1 (.proj 36) (.v 1)) (.cons (.o1 (.proj 37) (.v 1)) (.cons (.o1 (.proj 38) (.v 1)) (.cons (.o1 (.proj 39) (.v 1)) (.cons (.o1 (.proj 40) (.v 1)) (.cons (.o1 (.proj 41) (.v 1)) .nil)))))))))))))))))))))))))))))))))))))))))))]
                                      (.br (.o1 .no (.o2 .eqi (.o1 .len (.o1 (.proj 2) (.v 11))) (.o1 .len (.o1 (.proj 2) (.v 12)))))
                                        (.ret (.bool false))
                                        (.loop [(.int 0)]
                                          (.br (.o2 .lti (.v 13) (.o1 .len (.o1 (.proj 2) (.v 11))))
                                            (.req (.o2 .lei (.int 0) (.v 13)) (.req (.o2 .lti (.v 13) (.o1 .len (.o1 (.proj 2) (.v 11)))) (.req (.o2 .lei (.int 0) (.v 13)) (.req (.o2 .lti (.v 13) (.o1 .len (.o1 (.proj 2) (.v 12)))) (.call 1 [(.v 0), (.v 13), (.o2 .idx (.o1 (.proj 2) (.v 11)) (.v 13)), (.o1 .agg (.cons (.o1 (.proj 0) (.v 4)) (.cons (.o1 (.proj 1) (.v 4)) (.cons (.o1 (.proj 2) (.v 4)) .nil))))]
                                              (.call 1 [(.v 0), (.v 13), (.o2 .idx (.o1 (.proj 2) (.v 12)) (.v 13)), (.o1 .agg (.cons (.o1 (.proj 0) (.v 4)) (.cons (.o1 (.proj 1) (.v 4)) (.cons (.o1 (.proj 2) (.v 4)) .nil))))]
                                                (.br (.o1 .no (.o3 .ite (.o2 .eqi (.o1 (.proj 0) (.v 14)) (.o1 (.proj 0) (.v 15))) (.o3 .ite (.o2 .eqi (.o1 (.proj 1) (.v 14)) (.o1 (.proj 1) (.v 15))) (.o3 .ite (.o2 .eqi (.o1 (.proj 2) (.v 14)) (.o1 (.proj 2) (.v 15))) (.bool true) (.bool false)) (.bool false)) (.bool false)))
                                                  (.ret (.bool false))
                                                  (.back 1 [(.o2 (.add .i64) (.v 13) (.int 1))]))))))))
                                            (.call 2 []
                                              (.ret (.v 14))))))))
                                  (.both
                                    (.call 5 [(.o1 .agg (.cons (.o1 (.proj 0) (.v 1)) (.cons (.o1 (.proj 1) (.v 1)) (.cons (.v 10) (.cons (.o1 (.proj 3) (.v 1)) (.cons (.o1 (.proj 4) (.v 1)) (.cons (.o1 (.proj 5) (.v 1)) (.cons (.o1 (.proj 6) (.v 1)) (.cons (.o1 (.proj 7) (.v 1)) (.cons (.o1 (.proj 8) (.v 1)) (.cons (.o1 (.proj 9) (.v 1)) (.cons (.o1 (.proj 10) (.v 1)) (.cons (.o1 (.proj 11) (.v 1)) (.cons (.o1 (.proj 12) (.v 1)) (.cons (.o1 (.proj 13) (.v 1)) (.cons (.o1 (.proj 14) (.v 1)) (.cons (.o1 (.proj 15) (.v 1)) (.cons (.o1 (.proj 16) (.v 1)) (.cons (.o1 (.proj 17) (.v 1)) (.cons (.o1 (.proj 18) (.v 1)) (.cons (.o1 (.proj 19) (.v 1)) (.cons (.o1 (.proj 20) (.v 1)) (.cons (.o1 (.proj 21) (.v 1)) (.cons (.o1 (.proj 22) (.v 1)) (.cons (.o1 (.proj 23) (.v 1)) (.cons (.o1 (.proj 24) (.v 1)) (.cons (.o1 (.proj 25) (.v 1)) (.cons (.o1 (.proj 26) (.v 1)) (.cons (.o1 (.proj 27) (.v 1)) (.cons (.o1 (.proj 28) (.v 1)) (.cons (.o1 (.proj 29) (.v 1)) (.cons (.o1 (.proj 30) (.v 1)) (.cons (.o1 (.proj 31) (.v 1)) (.cons (.o1 (.proj 32) (.v 1)) (.cons (.o1 (.proj 33) (.v 1)) (.cons (.o1 (.proj 34) (.v 1)) (.cons (.o1 (.proj 35) (.v 1)) (.cons (.o1 (.proj 36) (.v 1)) (.cons (.o1 (.proj 37) (.v 1)) (.cons (.o1 (.proj 38) (.v 1)) (.cons (.o1 (.proj 39) (.v 1)) (.cons (.o1 (.proj 40) (.v 1)) (.cons (.o1 (.proj 41) (.v 1)) .nil)))))))))))))))))))))))))))))))))))))))))))]
                                      (.br (.o1 .no (.o2 .eqi (.o1 .len (.o1 (.proj 2) (.v 11))) (.o1 .len (.o1 (.proj 2) (.v 12)))))
                                        (.ret (.bool false))
                                        (.loop [(.int 0)]
                                          (.br (.o2 .lti (.v 13) (.o1 .len (.o1 (.proj 2) (.v 11))))
                                            (.req (.o2 .lei (.int 0) (.v 13)) (.req (.o2 .lti (.v 13) (.o1 .len (.o1 (.proj 2) (.v 11)))) (.req (.o2 .lei (.int 0) (.v 13)) (.req (.o2 .lti (.v 13) (.o1 .len (.o1 (.proj 2) (.v 12)))) (.call 1 [(.v 0), (.v 13), (.o2 .idx (.o1 (.proj 2) (.v 11)) (.v 13)), (.o1 .agg (.cons (.o1 (.proj 0) (.v 4)) (.cons (.o1 (.proj 1) (.v 4)) (.cons (.o1 (.proj 2) (.v 4)) .nil))))]
                                              (.call 1 [(.v 0), (.v 13), (.o2 .idx (.o1 (.proj 2) (.v 12)) (.v 13)), (.o1 .agg (.cons (.o1 (.proj 0) (.v 4)) (.cons (.o1 (.proj 1) (.v 4)) (.cons (.o1 (.proj 2) (.v 4)) .nil))))]
                                                (.br (.o1 .no (.o3 .ite (.o2 .eqi (.o1 (.proj 0) (.v 14)) (.o1 (.proj 0) (.v 15))) (.o3 .ite (.o2 .eqi (.o1 (.proj 1) (.v 14)) (.o1 (.proj 1) (.v 15))) (.o3 .ite (.o2 .eqi (.o1 (.proj 2) (.v 14)) (.o1 (.proj 2) (.v 15))) (.bool true) (.bool false)) (.bool false)) (.bool false)))
                                                  (.ret (.bool false))
                                                  (.back 1 [(.o2 (.add .i64) (.v 13) (.int 1))]))))))))
                                            (.call 2 []
                                              (.ret (.v 14)))))))
                                    (.call 5 [(.o1 .agg (.cons (.o1 (.proj 0) (.v 1)) (.cons (.o1 (.proj 1) (.v 1)) (.cons (.v 10) (.cons (.o1 (.proj 3) (.v 1)) (.cons (.o1 (.proj 4) (.v 1)) (.cons (.o1 (.proj 5) (.v 1)) (.cons (.o1 (.proj 6) (.v 1)) (.cons (.o1 (.proj 7) (.v 1)) (.cons (.o1 (.proj 8) (.v 1)) (.cons (.o1 (.proj 9) (.v 1)) (.cons (.o1 (.proj 10) (.v 1)) (.cons (.o1 (.proj 11) (.v 1)) (.cons (.o1 (.proj 12) (.v 1)) (.cons (.o1 (.proj 13) (.v 1)) (.cons (.o1 (.proj 14) (.v 1)) (.cons (.o1 (.proj 15) (.v 1)) (.cons (.o1 (.proj 16) (.v 1)) (.cons (.o1 (.proj 17) (.v 1)) (.cons (.o1 (.proj 18) (.v 1)) (.cons (.o1 (.proj 19) (.v 1)) (.cons (.o1 (.proj 20) (.v 1)) (.cons (.o1 (.proj 21) (.v 1)) (.cons (.o1 (.proj 22) (.v 1)) (.cons (.o1 (.proj 23) (.v 1)) (.cons (.o1 (.proj 24) (.v 1)) (.cons (.o1 (.proj 25) (.v 1)) (.cons (.o1 (.proj 26) (.v 1)) (.cons (.o1 (.proj 27) (.v 1)) (.cons (.o1 (.proj 28) (.v 1)) (.cons (.o1 (.proj 29) (.v 1)) (.cons (.o1 (.proj 30) (.v 1)) (.cons (.o1 (.proj 31) (.v 1)) (.cons (.o1 (.proj 32) (.v 1)) (.cons (.o1 (.proj 33) (.v 1)) (.cons (.o1 (.proj 34) (.v 1)) (.cons (.o1 (.proj 35) (.v 1)) (.cons (.o1 (.proj 36) (.v 1)) (.cons (.o1 (.proj 37) (.v 1)) (.cons (.o1 (.proj 38) (.v 1)) (.cons (.o1 (.proj 39) (.v 1)) (.cons (.o1 (.proj 40) (.v 1)) (.cons (.o1 (.proj 41) (.v 1)) .nil)))))))))))))))))))))))))))))))))))))))))))]
                                      (.br (.o1 .no (.o2 .eqi (.o1 .len (.o1 (.proj 2) (.v 11))) (.o1 .len (.o1 (.proj 2) (.v 12)))))
                                        (.ret (.bool false))
                                        (.loop [(.int 0)]
                                          (.br (.o2 .lti (.v 13) (.o1 .len (.o1 (.proj 2) (.v 11))))
                                            (.req (.o2 .lei (.int 0) (.v 13)) (.req (.o2 .lti (.v 13) (.o1 .len (.o1 (.proj 2) (.v 11)))) (.req (.o2 .lei (.int 0) (.v 13)) (.req (.o2 .lti (.v 13) (.o1 .len (.o1 (.proj 2) (.v 12)))) (.call 1 [(.v 0), (.v 13), (.o2 .idx (.o1 (.proj 2) (.v 11)) (.v 13)), (.o1 .agg (.cons (.o1 (.proj 0) (.v 4)) (.cons (.o1 (.proj 1) (.v 4)) (.cons (.o1 (.proj 2) (.v 4)) .nil))))]
                                              (.call 1 [(.v 0), (.v 13), (.o2 .idx (.o1 (.proj 2) (.v 12)) (.v 13)), (.o1 .agg (.cons (.o1 (.proj 0) (.v 4)) (.cons (.o1 (.proj 1) (.v 4)) (.cons (.o1 (.proj 2) (.v 4)) .nil))))]
                                                (.br (.o1 .no (.o3 .ite (.o2 .eqi (.o1 (.proj 0) (.v 14)) (.o1 (.proj 0) (.v 15))) (.o3 .ite (.o2 .eqi (.o1 (.proj 1) (.v 14)) (.o1 (.proj 1) (.v 15))) (.o3 .ite (.o2 .eqi (.o1 (.proj 2) (.v 14)) (.o1 (.proj 2) (.v 15))) (.bool true) (.bool false)) (.bool false)) (.bool false)))
                                                  (.ret (.bool false))
                                                  (.back 1 [(.o2 (.add .i64) (.v 13) (.int 1))]))))))))
                                            (.call 2 []
                                              (.ret (.v 14)))))))))))
                            (.both
                              (.both
                                (.call 5 [(.o1 .agg (.cons (.o1 (.proj 0) (.v 1)) (.cons (.o1 (.proj 1) (.v 1)) (.cons (.o1 (.proj 2) (.v 1)) (.cons (.o1 (.proj 3) (.v 1)) (.cons (.o1 (.proj 4) (.v 1)) (.cons (.o1 (.proj 5) (.v 1)) (.cons (.o1 (.proj 6) (.v 1)) (.cons (.o1 (.proj 7) (.v 1)) (.cons (.o1 (.proj 8) (.v 1)) (.cons (.o1 (.proj 9) (.v 1)) (.cons (.o1 (.proj 10) (.v 1)) (.cons (.o1 (.proj 11) (.v 1)) (.cons (.o1 (.proj 12) (.v 1)) (.cons (.o1 (.proj 13) (.v 1)) (.cons (.o1 (.proj 14) (.v 1)) (.cons (.o1 (.proj 15) (.v 1)) (.cons (.o1 (.proj 16) (.v 1)) (.cons (.o1 (.proj 17) (.v 1)) (.cons (.o1 (.proj 18) (.v 1)) (.cons (.o1 (.proj 19) (.v 1)) (.cons (.o1 (.proj 20) (.v 1)) (.cons (.o1 (.proj 21) (.v 1)) (.cons (.o1 (.proj 22) (.v 1)) (.cons (.o1 (.proj 23) (.v 1)) (.cons (.o1 (.proj 24) (.v 1)) (.cons (.o1 (.proj 25) (.v 1)) (.cons (.o1 (.proj 26) (.v 1)) (.cons (.o1 (.proj 27) (.v 1)) (.cons (.o1 (.proj 28) (.v 1)) (.cons (.o1 (.proj 29) (.v 1)) (.cons (.o1 (.proj 30) (.v 1)) (.cons (.o1 (.proj 31) (.v 1)) (.cons (.o1 (.proj 32) (.v 1)) (.cons (.o1 (.proj 33) (.v 1)) (.cons (.o1 (.proj 34) (.v 1)) (.cons (.o1 (.proj 35) (.v 1)) (.cons (.o1 (.proj 36) (.v 1)) (.cons (.o1 (.proj 37) (.v 1)) (.cons (.o1 (.proj 38) (.v 1)) (.cons (.o1 (.proj 39) (.v 1)) (.cons (.o1 (.proj 40) (.v 1)) (.cons (.o1 (.proj 41) (.v 1)) .nil)))))))))))))))))))))))))))))))))))))))))))]
                                  (.both
                                    (.call 5 [(.o1 .agg (.cons (.o1 (.proj 0) (.v 1)) (.cons (.o1 (.proj 1) (.v 1)) (.cons (.v 10) (.cons (.o1 (.proj 3) (.v 1)) (.cons (.o1 (.proj 4) (.v 1)) (.cons (.o1 (.proj 5) (.v 1)) (.cons (.o1 (.proj 6) (.v 1)) (.cons (.o1 (.proj 7) (.v 1)) (.cons (.o1 (.proj 8) (.v 1)) (.cons (.o1 (.proj 9) (.v 1)) (.cons (.o1 (.proj 10) (.v 1)) (.cons (.o1 (.proj 11) (.v 1)) (.cons (.o1 (.proj 12) (.v 1)) (.cons (.o1 (.proj 13) (.v 1)) (.cons (.o1 (.proj 14) (.v 1)) (.cons (.o1 (.proj 15) (.v 1)) (.cons (.o1 (.proj 16) (.v 1)) (.cons (.o1 (.proj 17) (.v 1)) (.cons (.o1 (.proj 18) (.v 1)) (.cons (.o1 (.proj 19) (.v 1)) (.cons (.o1 (.proj 20) (.v 1)) (.cons (.o1 (.proj 21) (.v 1)) (.cons (.o1 (.proj 22) (.v 1)) (.cons (.o1 (.proj 23) (.v 1)) (.cons (.o1 (.proj 24) (.v 1)) (.cons (.o1 (.proj 25) (.v 1)) (.cons (.o1 (.proj 26) (.v 1)) (.cons (.o1 (.proj 27) (.v 1)) (.cons (.o1 (.proj 28) (.v 1)) (.cons (.o1 (.proj 29) (.v 1)) (.cons (.o1 (.proj 30) (.v 1)) (.cons (.o1 (.proj 31) (.v 1)) (.cons (.o1 (.proj 32) (.v 1)) (.cons (.o1 (.proj 33) (.v 1)) (.cons (.o1 (.proj 34) (.v 1)) (.cons (.o1 (.proj 35) (.v 1)) (.cons (.o1 (.proj 36) (.v 1)) (.cons (.o1 (.proj 37) (.v 1)) (.cons (.o1 (.proj 38) (.v 1)) (.cons (.o1 (.proj 39) (.v 1)) (.cons (.o1 (.proj 40) (.v 1)) (.cons (.o1 (.proj 41) (.v 1)) .nil)))))))))))))))))))))))))))))))))))))))))))]
                                      (.br (.o1 .no (.o2 .eqi (.o1 .len (.o1 (.proj 2) (.v 11))) (.o1 .len (.o1 (.proj 2) (.v 12)))))
                                        (.ret (.bool false))
                                        (.loop [(.int 0)]
                                          (.br (.o2 .lti (.v 13) (.o1 .len (.o1 (.proj 2) (.v 11))))
                                            (.req (.o2 .lei (.int 0) (.v 13)) (.req (.o2 .lti (.v 13) (.o1 .len (.o1 (.proj 2) (.v 11)))) (.req (.o2 .lei (.int 0) (.v 13)) (.req (.o2 .lti (.v 13) (.o1 .len (.o1 (.proj 2) (.v 12)))) (.call 1 [(.v 0), (.v 13), (.o2 .idx (.o1 (.proj 2) (.v 11)) (.v 13)), (.o1 .agg (.cons (.o1 (.proj 0) (.v 4)) (.cons (.o1 (.proj 1) (.v 4)) (.cons (.o1 (.proj 2) (.v 4)) .nil))))]
                                              (.call 1 [(.v 0), (.v 13), (.o2 .idx (.o1 (.proj 2) (.v 12)) (.v 13)), (.o1 .agg (.cons (.o1 (.proj 0) (.v 4)) (.cons (.o1 (.proj 1) (.v 4)) (.cons (.o1 (.proj 2) (.v 4)) .nil))))]
                                                (.br (.o1 .no (.o3 .ite (.o2 .eqi (.o1 (.proj 0) (.v 14)) (.o1 (.proj 0) (.v 15))) (.o3 .ite (.o2 .eqi (.o1 (.proj 1) (.v 14)) (.o1 (.proj 1) (.v 15))) (.o3 .ite (.o2 .eqi (.o1 (.proj 2) (.v 14)) (.o1 (.proj 2) (.v 15))) (.bool true) (.bool false)) (.bool false)) (.bool false)))
                                                  (.ret (.bool false))
                                                  (.back 1 [(.o2 (.add .i64) (.v 13) (.int 1))]))))))))
                                            (.call 2 []
                                              (.ret (.v 14)))))))
                                    (.call 5 [(.o1 .agg (.cons (.o1 (.proj 0) (.v 1)) (.cons (.o1 (.proj 1) (.v 1)) (.cons (.v 10) (.cons (.o1 (.proj 3) (.v 1)) (.cons (.o1 (.proj 4) (.v 1)) (.cons (.o1 (.proj 5) (.v 1)) (.cons (.o1 (.proj 6) (.v 1)) (.cons (.o1 (.proj 7) (.v 1)) (.cons (.o1 (.proj 8) (.v 1)) (.cons (.o1 (.proj 9) (.v 1)) (.cons (.o1 (.proj 10) (.v 1)) (.cons (.o1 (.proj 11) (.v 1)) (.cons (.o1 (.proj 12) (.v 1)) (.cons (.o1 (.proj 13) (.v 1)) (.cons (.o1 (.proj 14) (.v 1)) (.cons (.o1 (.proj 15) (.v 1)) (.cons (.o1 (.proj 16) (.v 1)) (.cons (.o1 (.proj 17) (.v 1)) (.cons (.o1 (.proj 18) (.v 1)) (.cons (.o1 (.proj 19) (.v 1)) (.cons (.o1 (.proj 20) (.v 1)) (.cons (.o1 (.proj 21) (.v 1)) (.cons (.o1 (.proj 22) (.v 1)) (.cons (.o1 (.proj 23) (.v 1)) (.cons (.o1 (.proj 24) (.v 1)) (.cons (.o1 (.proj 25) (.v 1)) (.cons (.o1 (.proj 26) (.v 1)) (.cons (.o1 (.proj 27) (.v 1)) (.cons (.o1 (.proj 28) (.v 1)) (.cons (.o1 (.proj 29) (.v 1)) (.cons (.o1 (.proj 30) (.v 1)) (.cons (.o1 (.proj 31) (.v 1)) (.cons (.o1 (.proj 32) (.v 1)) (.cons (.o1 (.proj 33) (.v 1)) (.cons (.o1 (.proj 34) (.v 1)) (.cons (.o1 (.proj 35) (.v 1)) (.cons (.o1 (.proj 36) (.v 1)) (.cons (.o1 (.proj 37) (.v 1)) (.cons (.o1 (.proj 38) (.v 1)) (.cons (.o1 (.proj 39) (.v 1)) (.cons (.o1 (.proj 40) (.v 1)) (.cons (.o1 (.proj 41) (.v 1)) .nil)))))))))))))))))))))))))))))))))))))))))))]
                                      (.br (.o1 .no (.o2 .eqi (.o1 .len (.o1 (.proj 2) (.v 11))) (.o1 .len (.o1 (.proj 2) (.v 12)))))
                                        (.ret (.bool false))
                                        (.loop [(.int 0)]
                                          (.br (.o2 .lti (.v 13) (.o1 .len (.o1 (.proj 2) (.v 11))))
                                            (.req (.o2 .lei (.int 0) (.v 13)) (.req (.o2 .lti (.v 13) (.o1 .len (.o1 (.proj 2) (.v 11)))) (.req (.o2 .lei (.int 0) (.v 13)) (.req (.o2 .lti (.v 13) (.o1 .len (.o1 (.proj 2) (.v 12)))) (.call 1 [(.v 0), (.v 13), (.o2 .idx (.o1 (.proj 2) (.v 11)) (.v 13)), (.o1 .agg (.cons (.o1 (.proj 0) (.v 4)) (.cons (.o1 (.proj 1) (.v 4)) (.cons (.o1 (.proj 2) (.v 4)) .nil))))]
                                              (.call 1 [(.v 0), (.v 13), (.o2 .idx (.o1 (.proj 2) (.v 12)) (.v 13)), (.o1 .agg (.cons (.o1 (.proj 0) (.v 4)) (.cons (.o1 (.proj 1) (.v 4)) (.cons (.o1 (.proj 2) (.v 4)) .nil))))]
                                                (.br (.o1 .no (.o3 .ite (.o2 .eqi (.o1 (.proj 0) (.v 14)) (.o1 (.proj 0) (.v 15))) (.o3 .ite (.o2 .eqi (.o1 (.proj 1) (.v 14)) (.o1 (.proj 1) (.v 15))) (.o3 .ite (.o2 .eqi (.o1 (.proj 2) (.v 14)) (.o1 (.proj 2) (.v 15))) (.bool true) (.bool false)) (.bool false)) (.bool false)))
                                                  (.ret (.bool false))
                                                  (.back 1 [(.o2 (.add .i64) (.v 13) (.int 1))]))))))))
                                            (.call 2 []
                                              (.ret (.v 14)))))))))
                                (.call 5 [(.o1 .agg (.cons (.o1 (.proj 0) (.v 1)) (.cons (.o1 (.proj 1) (.v 1)) (.cons (.o1 (.proj 2) (.v 1)) (.cons (.o1 (.proj 3) (.v 1)) (.cons (.o1 (.proj 4) (.v 1)) (.cons (.o1 (.proj 5) (.v 1)) (.cons (.o1 (.proj 6) (.v 1)) (.cons (.o1 (.proj 7) (.v 1)) (.cons (.o1 (.proj 8) (.v 1)) (.cons (.o1 (.proj 9) (.v 1)) (.cons (.o1 (.proj 10) (.v 1)) (.cons (.o1 (.proj 11) (.v 1)) (.cons (.o1 (.proj 12) (.v 1)) (.cons (.o1 (.proj 13) (.v 1)) (.cons (.o1 (.proj 14) (.v 1)) (.cons (.o1 (.proj 15) (.v 1)) (.cons (.o1 (.proj 16) (.v 1)) (.cons (.o1 (.proj 17) (.v 1)) (.cons (.o1 (.proj 18) (.v 1)) (.cons (.o1 (.proj 19) (.v 1)) (.cons (.o1 (.proj 20) (.v 1)) (.cons (.o1 (.proj 21) (.v 1)) (.cons (.o1 (.proj 22) (.v 1)) (.cons (.o1 (.proj 23) (.v 1)) (.cons (.o1 (.proj 24) (.v 1)) (.cons (.o1 (.proj 25) (.v 1)) (.cons (.o1 (.proj 26) (.v 1)) (.cons (.o1 (.proj 27) (.v 1)) (.cons (.o1 (.proj 28) (.v 1)) (.cons (.o1 (.proj 29) (.v 1)) (.cons (.o1 (.proj 30) (.v 1)) (.cons (.o1 (.proj 31) (.v 1)) (.cons (.o1 (.proj 32) (.v 1)) (.cons (.o1 (.proj 33) (.v 1)) (.cons (.o1 (.proj 34) (.v 1)) (.cons (.o1 (.proj 35) (.v 1)) (.cons (.o1 (.proj 36) (.v 1)) (.cons (.o1 (.proj 37) (.v 1)) (.cons (.o1 (.proj 38) (.v 1)) (.cons (.o1 (.proj 39) (.v 1)) (.cons (.o1 (.proj 40) (.v 1)) (.cons (.o1 (.proj 41) (.v 1)) .nil)))))))))))))))))))))))))))))))))))))))))))]
                                  (.call 5 [(.o1 .agg (.cons (.o1 (.proj 0) (.v 1)) (.cons (.o1 (.proj 1) (.v 1)) (.cons (.v 10) (.cons (.o1 (.proj 3) (.v 1)) (.cons (.o1 (.proj 4) (.v 1)) (.cons (.o1 (.proj 5) (.v 1)) (.cons (.o1 (.proj 6) (.v 1)) (.cons (.o1 (.proj 7) (.v 1)) (.cons (.o1 (.proj 8) (.v 1)) (.cons (.o1 (.proj 9) (.v 1)) (.cons (.o1 (.proj 10) (.v 1)) (.cons (.o1 (.proj 11) (.v 1)) (.cons (.o1 (.proj 12) (.v 1)) (.cons (.o1 (.proj 13) (.v 1)) (.cons (.o1 (.proj 14) (.v 1)) (.cons (.o1 (.proj 15) (.v 1)) (.cons (.o1 (.proj 16) (.v 1)) (.cons (.o1 (.proj 17) (.v 1)) (.cons (.o1 (.proj 18) (.v 1)) (.cons (.o1 (.proj 19) (.v 1)) (.cons (.o1 (.proj 20) (.v 1)) (.cons (.o1 (.proj 21) (.v 1)) (.cons (.o1 (.proj 22) (.v 1)) (.cons (.o1 (.proj 23) (.v 1)) (.cons (.o1 (.proj 24) (.v 1)) (.cons (.o1 (.proj 25) (.v 1)) (.cons (.o1 (.proj 26) (.v 1)) (.cons (.o1 (.proj 27) (.v 1)) (.cons (.o1 (.proj 28) (.v 1)) (.cons (.o1 (.proj 29) (.v 1)) (.cons (.o1 (.proj 30) (.v 1)) (.cons (.o1 (.proj 31) (.v 1)) (.cons (.o1 (.proj 32) (.v 1)) (.cons (.o1 (.proj 33) (.v 1)) (.cons (.o1 (.proj 34) (.v 1)) (.cons (.o1 (.proj 35) (.v 1)) (.cons (.o1 (.proj 36) (.v 1)) (.cons (.o1 (.proj 37) (.v 1)) (.cons (.o1 (.proj 38) (.v 1)) (.cons (.o1 (.proj 39) (.v 1)) (.cons (.o1 (.proj 40) (.v 1)) (.cons (.o1 (.proj 41) (.v 1)) .nil)))))))))))))))))))))))))))))))))))))))))))]
                                    (.br (.o1 .no (.o2 .eqi (.o1 .len (.o1 (.proj 2) (.v 11))) (.o1 .len (.o1 (.proj 2) (.v 12)))))
                                      (.ret (.bool false))
                                      (.loop [(.int 0)]
                                        (.br (.o2 .lti (.v 13) (.o1 .len (.o1 (.proj 2) (.v 11))))
                                          (.req (.o2 .lei (.int 0) (.v 13)) (.req (.o2 .lti (.v 13) (.o1 .len (.o1 (.proj 2) (.v 11)))) (.req (.o2 .lei (.int 0) (.v 13)) (.req (.o2 .lti (.v 13) (.o1 .len (.o1 (.proj 2) (.v 12)))) (.call 1 [(.v 0), (.v 13), (.o2 .idx (.o1 (.proj 2) (.v 11)) (.v 13)), (.o1 .agg (.cons (.o1 (.proj 0) (.v 4)) (.cons (.o1 (.proj 1) (.v 4)) (.cons (.o1 (.proj 2) (.v 4)) .nil))))]
                                            (.call 1 [(.v 0), (.v 13), (.o2 .idx (.o1 (.proj 2) (.v 12)) (.v 13)), (.o1 .agg (.cons (.o1 (.proj 0) (.v 4)) (.cons (.o1 (.proj 1) (.v 4)) (.cons (.o1 (.proj 2) (.v 4)) .nil))))]
                                              (.br (.o1 .no (.o3 .ite (.o2 .eqi (.o1 (.proj 0) (.v 14)) (.o1 (.proj 0) (.v 15))) (.o3 .ite (.o2 .eqi (.o1 (.proj 1) (.v 14)) (.o1 (.proj 1) (.v 15))) (.o3 .ite (.o2 .eqi (.o1 (.proj 2) (.v 14)) (.o1 (.proj 2) (.v 15))) (.bool true) (.bool false)) (.bool false)) (.bool false)))
                                                (.ret (.bool false))
                                                (.back 1 [(.o2 (.add .i64) (.v 13) (.int 1))]))))))))
                                          (.call 2 []
                                            (.ret (.v 14)))))))))
                              (.both
                                (.call 5 [(.o1 .agg (.cons (.o1 (.proj 0) (.v 1)) (.cons (.o1 (.proj 1) (.v 1)) (.cons (.o1 (.proj 2) (.v 1)) (.cons (.o1 (.proj 3) (.v 1)) (.cons (.o1 (.proj 4) (.v 1)) (.cons (.o1 (.proj 5) (.v 1)) (.cons (.o1 (.proj 6) (.v 1)) (.cons (.o1 (.proj 7) (.v 1)) (.cons (.o1 (.proj 8) (.v 1)) (.cons (.o1 (.proj 9) (.v 1)) (.cons (.o1 (.proj 10) (.v 1)) (.cons (.o1 (.proj 11) (.v 1)) (.cons (.o1 (.proj 12) (.v 1)) (.cons (.o1 (.proj 13) (.v 1)) (.cons (.o1 (.proj 14) (.v 1)) (.cons (.o1 (.proj 15) (.v 1)) (.cons (.o1 (.proj 16) (.v 1)) (.cons (.o1 (.proj 17) (.v 1)) (.cons (.o1 (.proj 18) (.v 1)) (.cons (.o1 (.proj 19) (.v 1)) (.cons (.o1 (.proj 20) (.v 1)) (.cons (.o1 (.proj 21) (.v 1)) (.cons (.o1 (.proj 22) (.v 1)) (.cons (.o1 (.proj 23) (.v 1)) (.cons (.o1 (.proj 24) (.v 1)) (.cons (.o1 (.proj 25) (.v 1)) (.cons (.o1 (.proj 26) (.v 1)) (.cons (.o1 (.proj 27) (.v 1)) (.cons (.o1 (.proj 28) (.v 1)) (.cons (.o1 (.proj 29) (.v 1)) (.cons (.o1 (.proj 30) (.v 1)) (.cons (.o1 (.proj 31) (.v 1)) (.cons (.o1 (.proj 32) (.v 1)) (.cons (.o1 (.proj 33) (.v 1)) (.cons (.o1 (.proj 34) (.v 1)) (.cons (.o1 (.proj 35) (.v 1)) (.cons (.o1 (.proj 36) (.v 1)) (.cons (.o1 (.proj 37) (.v 1)) (.cons (.o1 (.proj 38) (.v 1)) (.cons (.o1 (.proj 39) (.v 1)) (.cons (.o1 (.proj 40) (.v 1)) (.cons (.o1 (.proj 41) (.v 1)) .nil)))))))))))))))))))))))))))))))))))))))))))]
                                  (.both
                                    (.call 5 [(.o1 .agg (.cons (.o1 (.proj 0) (.v 1)) (.cons (.o1 (.proj 1) (.v 1)) (.cons (.v 10) (.cons (.o1 (.proj 3) (.v 1)) (.cons (.o1 (.proj 4) (.v 1)) (.cons (.o1 (.proj 5) (.v 1)) (.cons (.o1 (.proj 6) (.v 1)) (.cons (.o1 (.proj 7) (.v 1)) (.cons (.o1 (.proj 8) (.v 1)) (.cons (.o1 (.proj 9) (.v 1)) (.cons (.o1 (.proj 10) (.v 1)) (.cons (.o1 (.proj 11) (.v 1)) (.cons (.o1 (.proj 12) (.v 1)) (.cons (.o1 (.proj 13) (.v 1)) (.cons (.o1 (.proj 14) (.v 1)) (.cons (.o1 (.proj 15) (.v 1)) (.cons (.o1 (.proj 16) (.v 1)) (.cons (.o1 (.proj 17) (.v 1)) (.cons (.o1 (.proj 18) (.v 1)) (.cons (.o1 (.proj 19) (.v 1)) (.cons (.o1 (.proj 20) (.v 1)) (.cons (.o1 (.proj 21) (.v 1)) (.cons (.o1 (.proj 22) (.v 1)) (.cons (.o1 (.proj 23) (.v 1)) (.cons (.o1 (.proj 24) (.v 1)) (.cons (.o1 (.proj 25) (.v 1)) (.cons (.o1 (.proj 26) (.v 1)) (.cons (.o1 (.proj 27) (.v 1)) (.cons (.o1 (.proj 28) (.v 1)) (.cons (.o1 (.proj 29) (.v 1)) (.cons (.o1 (.proj 30) (.v 1)) (.cons (.o1 (.proj 31) (.v 1)) (.cons (.o1 (.proj 32) (.v 1)) (.cons (.o1 (.proj 33) (.v 1)) (.cons (.o1 (.proj 34) (.v 1)) (.cons (.o1 (.proj 35) (.v 1)) (.cons (.o1 (.proj 36) (.v 1)) (.cons (.o1 (.proj 37) (.v 1)) (.cons (.o1 (.proj 38) (.v 1)) (.cons (.o1 (.proj 39) (.v 1)) (.cons (.o1 (.proj 40) (.v 1)) (.cons (.o1 (.proj 41) (.v 1)) .nil)))))))))))))))))))))))))))))))))))))))))))]
                                      (.br (.o1 .no (.o2 .eqi (.o1 .len (.o1 (.proj 2) (.v 11))) (.o1 .len (.o1 (.proj 2) (.v 12)))))
                                        (.ret (.bool false))
                                        (.loop [(.int 0)]
                                          (.br (.o2 .lti (.v 13) (.o1 .len (.o1 (.proj 2) (.v 11))))
                                            (.req (.o2 .lei (.int 0) (.v 13)) (.req (.o2 .lti (.v 13) (.o1 .len (.o1 (.proj 2) (.v 11)))) (.req (.o2 .lei (.int 0) (.v 13)) (.req (.o2 .lti (.v 13) (.o1 .len (.o1 (.proj 2) (.v 12)))) (.call 1 [(.v 0), (.v 13), (.o2 .idx (.o1 (.proj 2) (.v 11)) (.v 13)), (.o1 .agg (.cons (.o1 (.proj 0) (.v 4)) (.cons (.o1 (.proj 1) (.v 4)) (.cons (.o1 (.proj 2) (.v 4)) .nil))))]
                                              (.call 1 [(.v 0), (.v 13), (.o2 .idx (.o1 (.proj 2) (.v 12)) (.v 13)), (.o1 .agg (.cons (.o1 (.proj 0) (.v 4)) (.cons (.o1 (.proj 1) (.v 4)) (.cons (.o1 (.proj 2) (.v 4)) .nil))))]
                                                (.br (.o1 .no (.o3 .ite (.o2 .eqi (.o1 (.proj 0) (.v 14)) (.o1 (.proj 0) (.v 15))) (.o3 .ite (.o2 .eqi (.o1 (.proj 1) (.v 14)) (.o1 (.proj 1) (.v 15))) (.o3 .ite (.o2 .eqi (.o1 (.proj 2) (.v 14)) (.o1 (.proj 2) (.v 15))) (.bool true) (.bool false)) (.bool false)) (.bool false)))
                                                  (.ret (.bool false))
                                                  (.back 1 [(.o2 (.add .i64) (.v 13) (.int 1))]))))))))
                                            (.call 2 []
                                              (.ret (.v 14)))))))
                                    (.call 5 [(.o1 .agg (.cons (.o1 (.proj 0) (.v 1)) (.cons (.o1 (.proj 1) (.v 1)) (.cons (.v 10) (.cons (.o1 (.proj 3) (.v 1)) (.cons (.o1 (.proj 4) (.v 1)) (.cons (.o1 (.proj 5) (.v 1)) (.cons (.o1 (.proj 6) (.v 1)) (.cons (.o1 (.proj 7) (.v 1)) (.cons (.o1 (.proj 8) (.v 1)) (.cons (.o1 (.proj 9) (.v 1)) (.cons (.o1 (.proj 10) (.v 1)) (.cons (.o1 (.proj 11) (.v 1)) (.cons (.o1 (.proj 12) (.v 1)) (.cons (.o1 (.proj 13) (.v 1)) (.cons (.o1 (.proj 14) (.v 1)) (.cons (.o1 (.proj 15) (.v 1)) (.cons (.o1 (.proj 16) (.v 1)) (.cons (.o1 (.proj 17) (.v 1)) (.cons (.o1 (.proj 18) (.v 1)) (.cons (.o1 (.proj 19) (.v 1)) (.cons (.o1 (.proj 20) (.v 1)) (.cons (.o1 (.proj 21) (.v 1)) (.cons (.o1 (.proj 22) (.v 1)) (.cons (.o1 (.proj 23) (.v 1)) (.cons (.o1 (.proj 24) (.v 1)) (.cons (.o1 (.proj 25) (.v 1)) (.cons (.o1 (.proj 26) (.v 1)) (.cons (.o1 (.proj 27) (.v 1)) (.cons (.o1 (.proj 28) (.v 1)) (.cons (.o1 (.proj 29) (.v 1)) (.cons (.o1 (.proj 30) (.v 1)) (.cons (.o1 (.proj 31) (.v 1)) (.cons (.o1 (.proj 32) (.v 1)) (.cons (.o1 (.proj 33) (.v 1)) (.cons (.o1 (.proj 34) (.v 1)) (.cons (.o1 (.proj 35) (.v 1)) (.cons (.o1 (.proj 36) (.v 1)) (.cons (.o1 (.proj 37) (.v 1)) (.cons (.o1 (.proj 38) (.v 1)) (.cons (.o1 (.proj 39) (.v 1)) (.cons (.o1 (.proj 40) (.v 1)) (.cons (.o1 (.proj 41) (.v 1)) .nil)))))))))))))))))))))))))))))))))))))))))))]
                                      (.br (.o1 .no (.o2 .eqi (.o1 .len (.o1 (.proj 2) (.v 11))) (.o1 .len (.o1 (.proj 2) (.v 12)))))
                                        (.ret (.bool false))
                                        (.loop [(.int 0)]
                                          (.br (.o2 .lti (.v 13) (.o1 .len (.o1 (.proj 2) (.v 11))))
                                            (.req (.o2 .lei (.int 0) (.v 13)) (.req (.o2 .lti (.v 13) (.o1 .len (.o1 (.proj 2) (.v 11)))) (.req (.o2 .lei (.int 0) (.v 13)) (.req (.o2 .lti (.v 13) (.o1 .len (.o1 (.proj 2) (.v 12)))) (.call 1 [(.v 0), (.v 13), (.o2 .idx (.o1 (.proj 2) (.v 11)) (.v 13)), (.o1 .agg (.cons (.o1 (.proj 0) (.v 4)) (.cons (.o1 (.proj 1) (.v 4)) (.cons (.o1 (.proj 2) (.v 4)) .nil))))]
                                              (.call 1 [(.v 0), (.v 13), (.o2 .idx (.o1 (.proj 2) (.v 12)) (.v 13)), (.o1 .agg (.cons (.o1 (.proj 0) (.v 4)) (.cons (.o1 (.proj 1) (.v 4)) (.cons (.o1 (.proj 2) (.v 4)) .nil))))]
                                                (.br (.o1 .no (.o3 .ite (.o2 .eqi (.o1 (.proj 0) (.v 14)) (.o1 (.proj 0) (.v 15))) (.o3 .ite (.o2 .eqi (.o1 (.proj 1) (.v 14)) (.o1 (.proj 1) (.v 15))) (.o3 .ite (.o2 .eqi (.o1 (.proj 2) (.v 14)) (.o1 (.proj 2) (.v 15))) (.bool true) (.bool false)) (.bool false)) (.bool false)))
                                                  (.ret (.bool false))
                                                  (.back 1 [(.o2 (.add .i64) (.v 13) (.int 1))]))))))))
                                            (.call 2 []
                                              (.ret (.v 14)))))))))
                                (.call 5 [(.o1 .agg (.cons (.o1 (.proj 0) (.v 1)) (.cons (.o1 (.proj 1) (.v 1)) (.cons (.o1 (.proj 2) (.v 1)) (.cons (.o1 (.proj 3) (.v 1)) (.cons (.o1 (.proj 4) (.v 1)) (.cons (.o1 (.proj 5) (.v 1)) (.cons (.o1 (.proj 6) (.v 1)) (.cons (.o1 (.proj 7) (.v 1)) (.cons (.o1 (.proj 8) (.v 1)) (.cons (.o1 (.proj 9) (.v 1)) (.cons (.o1 (.proj 10) (.v 1)) (.cons (.o1 (.proj 11) (.v 1)) (.cons (.o1 (.proj 12) (.v 1)) (.cons (.o1 (.proj 13) (.v 1)) (.cons (.o1 (.proj 14) (.v 1)) (.cons (.o1 (.proj 15) (.v 1)) (.cons (.o1 (.proj 16) (.v 1)) (.cons (.o1 (.proj 17) (.v 1)) (.cons (.o1 (.proj 18) (.v 1)) (.cons (.o1 (.proj 19) (.v 1)) (.cons (.o1 (.proj 20) (.v 1)) (.cons (.o1 (.proj 21) (.v 1)) (.cons (.o1 (.proj 22) (.v 1)) (.cons (.o1 (.proj 23) (.v 1)) (.cons (.o1 (.proj 24) (.v 1)) (.cons (.o1 (.proj 25) (.v 1)) (.cons (.o1 (.proj 26) (.v 1)) (.cons (.o1 (.proj 27) (.v 1)) (.cons (.o1 (.proj 28) (.v 1)) (.cons (.o1 (.proj 29) (.v 1)) (.cons (.o1 (.proj 30) (.v 1)) (.cons (.o1 (.proj 31) (.v 1)) (.cons (.o1 (.proj 32) (.v 1)) (.cons (.o1 (.proj 33) (.v 1)) (.cons (.o1 (.proj 34) (.v 1)) (.cons (.o1 (.proj 35) (.v 1)) (.cons (.o1 (.proj 36) (.v 1)) (.cons (.o1 (.proj 37) (.v 1)) (.cons (.o1 (.proj 38) (.v 1)) (.cons (.o1 (.proj 39) (.v 1)) (.cons (.o1 (.proj 40) (.v 1)) (.cons (.o1 (.proj 41) (.v 1)) .nil)))))))))))))))))))))))))))))))))))))))))))]
                                  (.call 5 [(.o1 .agg (.cons (.o1 (.proj 0) (.v 1)) (.cons (.o1 (.proj 1) (.v 1)) (.cons (.v 10) (.cons (.o1 (.proj 3) (.v 1)) (.cons (.o1 (.proj 4) (.v 1)) (.cons (.o1 (.proj 5) (.v 1)) (.cons (.o1 (.proj 6) (.v 1)) (.cons (.o1 (.proj 7) (.v 1)) (.cons (.o1 (.proj 8) (.v 1)) (.cons (.o1 (.proj 9) (.v 1)) (.cons (.o1 (.proj 10) (.v 1)) (.cons (.o1 (.proj 11) (.v 1)) (.cons (.o1 (.proj 12) (.v 1)) (.cons (.o1 (.proj 13) (.v 1)) (.cons (.o1 (.proj 14) (.v 1)) (.cons (.o1 (.proj 15) (.v 1)) (.cons (.o1 (.proj 16) (.v 1)) (.cons (.o1 (.proj 17) (.v 1)) (.cons (.o1 (.proj 18) (.v 1)) (.cons (.o1 (.proj 19) (.v 1)) (.cons (.o1 (.proj 20) (.v 1)) (.cons (.o1 (.proj 21) (.v 1)) (.cons (.o1 (.proj 22) (.v 1)) (.cons (.o1 (.proj 23) (.v 1)) (.cons (.o1 (.proj 24) (.v 1)) (.cons (.o1 (.proj 25) (.v 1)) (.cons (.o1 (.proj 26) (.v 1)) (.cons (.o1 (.proj 27) (.v 1)) (.cons (.o1 (.proj 28) (.v 1)) (.cons (.o1 (.proj 29) (.v 1)) (.cons (.o1 (.proj 30) (.v 1)) (.cons (.o1 (.proj 31) (.v 1)) (.cons (.o1 (.proj 32) (.v 1)) (.cons (.o1 (.proj 33) (.v 1)) (.cons (.o1 (.proj 34) (.v 1)) (.cons (.o1 (.proj 35) (.v 1)) (.cons (.o1 (.proj 36) (.v 1)) (.cons (.o1 (.proj 37) (.v 1)) (.cons (.o1 (.proj 38) (.v 1)) (.cons (.o1 (.proj 39) (.v 1)) (.cons (.o1 (.proj 40) (.v 1)) (.cons (.o1 (.proj 41) (.v 1)) .nil)))))))))))))))))))))))))))))))))))))))))))]
                                    (.br (.o1 .no (.o2 .eqi (.o1 .len (.o1 (.proj 2) (.v 11))) (.o1 .len (.o1 (.proj 2) (.v 12)))))
                                      (.ret (.bool false))
                                      (.loop [(.int 0)]
                                        (.br (.o2 .lti (.v 13) (.o1 .len (.o1 (.proj 2) (.v 11))))
                                          (.req (.o2 .lei (.int 0) (.v 13)) (.req (.o2 .lti (.v 13) (.o1 .len (.o1 (.proj 2) (.v 11)))) (.req (.o2 .lei (.int 0) (.v 13)) (.req (.o2 .lti (.v 13) (.o1 .len (.o1 (.proj 2) (.v 12)))) (.call 1 [(.v 0), (.v 13), (.o2 .idx (.o1 (.proj 2) (.v 11)) (.v 13)), (.o1 .agg (.cons (.o1 (.proj 0) (.v 4)) (.cons (.o1 (.proj 1) (.v 4)) (.cons (.o1 (.proj 2) (.v 4)) .nil))))]
                                            (.call 1 [(.v 0), (.v 13), (.o2 .idx (.o1 (.proj 2) (.v 12)) (.v 13)), (.o1 .agg (.cons (.o1 (.proj 0) (.v 4)) (.cons (.o1 (.proj 1) (.v 4)) (.cons (.o1 (.proj 2) (.v 4)) .nil))))]
                                              (.br (.o1 .no (.o3 .ite (.o2 .eqi (.o1 (.proj 0) (.v 14)) (.o1 (.proj 0) (.v 15))) (.o3 .ite (.o2 .eqi (.o1 (.proj 1) (.v 14)) (.o1 (.proj 1) (.v 15))) (.o3 .ite (.o2 .eqi (.o1 (.proj 2) (.v 14)) (.o1 (.proj 2) (.v 15))) (.bool true) (.bool false)) (.bool false)) (.bool false)))
                                                (.ret (.bool false))
                                                (.back 1 [(.o2 (.add .i64) (.v 13) (.int 1))]))))))))
                                          (.call 2 []
                                            (.ret (.v 14))))))))))))))))))))))))
set_option maxRecDepth 100000 in
theorem qn8 : za4 cx_narratortop_TopScriptConcealment 4 sg_narratortop_TopScriptConcealment Tryd.f4 (Tryd.f4.body.getD .skip) = tr_narratortop_TopScriptConcealment := by kernel_rfl
theorem qn9 {Γ : CEnv} (hg : ∀ n, Γ.glob n = globT n) (hs : ∀ s ∈ cx_narratortop_TopScriptConcealment.sigs, Contract Tryd.prog Γ gtabU s (Γ.pre s.no) (Γ.post s.no)) : CxOk cx_narratortop_TopScriptConcealment Γ := ⟨by kernel_rfl, hs, (fun x hx => by cases hx), (fun x hx => by cases hx)⟩
theorem qoy {Γ : CEnv} (hg : ∀ n, Γ.glob n = globT n) (hs : ∀ s ∈ cx_narratortop_TopScriptConcealment.sigs, Contract Tryd.prog Γ gtabU s (Γ.pre s.no) (Γ.post s.no)) (k : Nat) {pre : List TV → Prop} {post : List TV → TV → Prop} (h : ∀ ts, ts.length = 5 → pre ts → tr_narratortop_TopScriptConcealment.den Γ (post ts) ts []) : Contract Tryd.prog Γ gtabU (qob k) pre post :=
  Contract.renum (zas (qn9 hg hs) 4 sg_narratortop_TopScriptConcealment Tryd.func4 (by kernel_rfl) (by kernel_rfl) fun ts hl hp => by rw [qn8]; exact h ts hl hp) k
end Go.Proofs.YtlhagkbhojmjpaaDoor

/- Written by a program of ours (Gen): the trees of the symbolic runs of functions, and their contracts' frames. -/
import Derived.Test.YtlldpcmdmipggaaDoorR1
namespace Go.Proofs.YtlldpcmdmipggaaDoor
set_option linter.unusedVariables false
set_option linter.unusedSimpArgs false
def sg_strings_Join : Sig := ⟨28, 0, [(false, [(.slice false [.str])]), (false, [.str])], [(false, [(.str, none)])]⟩
def sn_strings_Join (k : Nat) : Sig := ⟨sg_strings_Join.f, k, sg_strings_Join.args, sg_strings_Join.res⟩

/-! narrator/narratorlaw52.awake -/
def sg_law52_awake : Sig := ⟨11, 0, [], [(false, [(.bool, none)])]⟩
def sn_law52_awake (k : Nat) : Sig := ⟨sg_law52_awake.f, k, sg_law52_awake.args, sg_law52_awake.res⟩
def hd_law52_awake : List (FuncId × Nat × Head) := []
def pl_law52_awake : List (FuncId × Nat × Nat × Plan) := []
noncomputable def cx_law52_awake : Cx := ⟨Tryd.prog, gtab, [sn_contraction_Translate 0, sn_contraction_Back 1, sn_ref52_SameInts 2], [], hd_law52_awake, pl_law52_awake, []⟩
def tr_law52_awake : Tree := (.call 0 [(.str [116, 104, 101])]
  (.call 0 [(.str [115, 116, 105, 110, 103])]
    (.call 0 [(.str [65, 99, 116, 105, 111, 110])]
      (.call 1 [(.cons (.int 176) .nil)]
        (.br (.o2 .eqs (.o1 .strOf (.o1 (.proj 0) (.v 0))) (.str [174]))
          (.br (.o2 .eqs (.o1 .strOf (.o1 (.proj 0) (.v 1))) (.str [140, 172]))
            (.call 2 [(.o1 (.proj 1) (.v 1)), (.cons (.int 0) (.cons (.int 2) .nil))]
              (.br (.v 4)
                (.br (.o2 .eqs (.o1 .strOf (.o1 (.proj 0) (.v 2))) (.str [65, 9, 176, 29]))
                  (.ret (.o2 .eqi (.o1 (.proj 1) (.v 3)) (.int 17)))
                  (.ret (.bool false)))
                (.ret (.bool false))))
            (.ret (.bool false)))
          (.ret (.bool false)))))))
set_option maxRecDepth 100000 in
theorem tree_law52_awake : fnTree cx_law52_awake 4 sg_law52_awake Tryd.f11 (Tryd.f11.body.getD .skip) = tr_law52_awake := by kernel_rfl
theorem cxok_law52_awake {Γ : CEnv} (hg : ∀ n, Γ.glob n = globT n) (hs : ∀ s ∈ cx_law52_awake.sigs, Contract Tryd.prog Γ gtab s (Γ.pre s.no) (Γ.post s.no)) : CxOk cx_law52_awake Γ := ⟨by kernel_rfl, hs, (fun x hx => by cases hx), (fun x hx => by cases hx)⟩
theorem contract_law52_awake {Γ : CEnv} (hg : ∀ n, Γ.glob n = globT n) (hs : ∀ s ∈ cx_law52_awake.sigs, Contract Tryd.prog Γ gtab s (Γ.pre s.no) (Γ.post s.no)) (k : Nat) {pre : List TV → Prop} {post : List TV → TV → Prop} (h : ∀ ts, ts.length = 0 → pre ts → tr_law52_awake.den Γ (post ts) ts []) : Contract Tryd.prog Γ gtab (sn_law52_awake k) pre post :=
  Contract.renum (contract_of (cxok_law52_awake hg hs) 4 sg_law52_awake Tryd.func11 (by kernel_rfl) (by kernel_rfl) fun ts hl hp => by rw [tree_law52_awake]; exact h ts hl hp) k

/-! narrator/narratorlaw52.divide -/
def sg_law52_divide : Sig := ⟨23, 0, [(false, [.str]), (false, [(.slice false [(.int .u8)])])], [(false, [((.slice false [(.int .u8)]), some 5)])]⟩
def sn_law52_divide (k : Nat) : Sig := ⟨sg_law52_divide.f, k, sg_law52_divide.args, sg_law52_divide.res⟩
def hd_law52_divide : List (FuncId × Nat × Head) := [(23, 5, ⟨[0, 1, 5, 6, 7, 8, 9], [.slot 5 true 9 false [.str], .slot 6 true 9 false [.str], .slot 7 true 5 false [(.int .u8)]], [9, 0], [2], [], []⟩), (23, 9, ⟨[0, 1, 5, 6, 7, 8, 9, 10, 11, 30, 31], [.slot 5 true 9 false [.str], .slot 6 true 9 false [.str], .slot 7 true 5 false [(.int .u8)]], [11, 31, 10], [3], [], [11]⟩)]
def pl_law52_divide : List (FuncId × Nat × Nat × Plan) := [(23, 12, 12, (.op true 0 (.op true 1 (.op true 2 (.op true 3 (.op true 4 (.op true 5 (.op true 6 (.op true 7 (.op true 8 (.op true 10 (.op false 9 (.op false 11 .nil)))))))))))))]
noncomputable def cx_law52_divide : Cx := ⟨Tryd.prog, gtab, [sn_computerbraille_Cells 0, sn_strings_HasPrefix 1, sn_contraction_Table 2], [], hd_law52_divide, pl_law52_divide, []⟩
def tr_law52_divide : Tree := (.call 2 []
  (.loop [(.v 0), (.int 0), .nil]
    (.br (.o1 .no (.o2 .eqs (.v 3) (.str [])))
      (.req (.o2 .lei (.int 1) (.o1 .slen (.v 3))) (.call 0 [(.o3 .ssub (.v 3) (.int 0) (.int 1))]
        (.loop [(.int 1), (.v 6), (.int 0)]
          (.br (.o2 .lti (.v 9) (.o2 .min (.o1 .len (.o1 (.proj 0) (.v 2))) (.o1 .len (.o1 (.proj 1) (.v 2)))))
            (.req (.o2 .lei (.int 0) (.v 9)) (.req (.o2 .lti (.v 9) (.o1 .len (.o1 (.proj 0) (.v 2)))) (.br (.o1 .no (.o2 .eqs (.o2 .idx (.o1 (.proj 0) (.v 2)) (.v 9)) (.str [])))
              (.req (.o2 .lei (.int 0) (.v 9)) (.req (.o2 .lti (.v 9) (.o1 .len (.o1 (.proj 0) (.v 2)))) (.call 1 [(.v 3), (.o2 .idx (.o1 (.proj 0) (.v 2)) (.v 9))]
                (.br (.v 10)
                  (.br (.o2 .lti (.int 0) (.o1 .len (.v 1)))
                    (.req (.o1 .no (.o2 .eqi (.o1 .len (.v 1)) (.int 0))) (.req (.o2 .lei (.int 0) (.o2 .rem (.o2 (.add .i64) (.v 4) (.v 9)) (.o1 .len (.v 1)))) (.req (.o2 .lti (.o2 .rem (.o2 (.add .i64) (.v 4) (.v 9)) (.o1 .len (.v 1))) (.o1 .len (.v 1))) (.br (.o2 .eqi (.o2 .rem (.o2 .idx (.v 1) (.o2 .rem (.o2 (.add .i64) (.v 4) (.v 9)) (.o1 .len (.v 1)))) (.int 2)) (.int 1))
                      (.req (.o2 .lei (.int 0) (.v 9)) (.req (.o2 .lti (.v 9) (.o1 .len (.o1 (.proj 0) (.v 2)))) (.req (.o2 .lei (.int 0) (.v 9)) (.req (.o2 .lti (.v 9) (.o1 .len (.o1 (.proj 1) (.v 2)))) (.req (.o2 .lei (.o1 .slen (.o2 .idx (.o1 (.proj 1) (.v 2)) (.v 9))) (.int 1099511627776)) (.back 1 [(.o1 .slen (.o2 .idx (.o1 (.proj 0) (.v 2)) (.v 9))), (.o1 .bytesOf (.o2 .idx (.o1 (.proj 1) (.v 2)) (.v 9))), (.o2 (.add .i64) (.v 9) (.int 1))]))))))
                      (.back 1 [(.v 7), (.v 8), (.o2 (.add .i64) (.v 9) (.int 1))])))))
                    (.back 1 [(.v 7), (.v 8), (.o2 (.add .i64) (.v 9) (.int 1))]))
                  (.back 1 [(.v 7), (.v 8), (.o2 (.add .i64) (.v 9) (.int 1))])))))
              (.back 1 [(.v 7), (.v 8), (.o2 (.add .i64) (.v 9) (.int 1))]))))
            (.req (.o2 .lei (.o1 .len (.o2 .app (.v 5) (.v 8))) (.int 1099511627776)) (.req (.o2 .lei (.int 0) (.v 7)) (.req (.o2 .lei (.v 7) (.o1 .slen (.v 3))) (.back 0 [(.o3 .ssub (.v 3) (.v 7) (.o1 .slen (.v 3))), (.o2 (.add .i64) (.v 4) (.int 1)), (.o2 .app (.v 5) (.v 8))]))))))))
      (.ret (.v 5)))))
set_option maxRecDepth 100000 in
theorem tree_law52_divide : fnTree cx_law52_divide 4 sg_law52_divide Tryd.f23 (Tryd.f23.body.getD .skip) = tr_law52_divide := by kernel_rfl
theorem cxok_law52_divide {Γ : CEnv} (hg : ∀ n, Γ.glob n = globT n) (hs : ∀ s ∈ cx_law52_divide.sigs, Contract Tryd.prog Γ gtab s (Γ.pre s.no) (Γ.post s.no)) : CxOk cx_law52_divide Γ := ⟨by kernel_rfl, hs, (fun x hx => by cases hx), (fun x hx => by cases hx)⟩
theorem contract_law52_divide {Γ : CEnv} (hg : ∀ n, Γ.glob n = globT n) (hs : ∀ s ∈ cx_law52_divide.sigs, Contract Tryd.prog Γ gtab s (Γ.pre s.no) (Γ.post s.no)) (k : Nat) {pre : List TV → Prop} {post : List TV → TV → Prop} (h : ∀ ts, ts.length = 2 → pre ts → tr_law52_divide.den Γ (post ts) ts []) : Contract Tryd.prog Γ gtab (sn_law52_divide k) pre post :=
  Contract.renum (contract_of (cxok_law52_divide hg hs) 4 sg_law52_divide Tryd.func23 (by kernel_rfl) (by kernel_rfl) fun ts hl hp => by rw [tree_law52_divide]; exact h ts hl hp) k

/-! narrator/narratorlaw52.plain -/
def sg_law52_plain : Sig := ⟨20, 0, [(false, [(.slice false [(.int .u8)])])], [(false, [(.str, none)])]⟩
def sn_law52_plain (k : Nat) : Sig := ⟨sg_law52_plain.f, k, sg_law52_plain.args, sg_law52_plain.res⟩
def hd_law52_plain : List (FuncId × Nat × Head) := [(20, 3, ⟨[3, 7, 8, 9], [.slot 3 true 5 false [(.int .u8)]], [9], [0], [], []⟩)]
def pl_law52_plain : List (FuncId × Nat × Nat × Plan) := []
noncomputable def cx_law52_plain : Cx := ⟨Tryd.prog, gtab, [], [], hd_law52_plain, pl_law52_plain, []⟩
def tr_law52_plain : Tree := (.loop [(.int 0), .nil]
  (.br (.o2 .lti (.v 1) (.o1 .len (.v 0)))
    (.req (.o2 .lei (.int 0) (.v 1)) (.req (.o2 .lti (.v 1) (.o1 .len (.v 0))) (.req (.o2 .lei (.int 0) (.o2 .rem (.o1 (.wrap .i64) (.o2 .idx (.v 0) (.v 1))) (.int 21))) (.req (.o2 .lti (.o2 .rem (.o1 (.wrap .i64) (.o2 .idx (.v 0) (.v 1))) (.int 21)) (.int 21)) (.req (.o2 .lei (.o1 .len (.o2 .app (.v 2) (.cons (.o2 .sidx (.str [101, 116, 97, 111, 105, 110, 115, 104, 114, 100, 108, 117, 99, 109, 119, 102, 103, 121, 112, 98, 32]) (.o2 .rem (.o1 (.wrap .i64) (.o2 .idx (.v 0) (.v 1))) (.int 21))) .nil))) (.int 1099511627776)) (.back 0 [(.o2 (.add .i64) (.v 1) (.int 1)), (.o2 .app (.v 2) (.cons (.o2 .sidx (.str [101, 116, 97, 111, 105, 110, 115, 104, 114, 100, 108, 117, 99, 109, 119, 102, 103, 121, 112, 98, 32]) (.o2 .rem (.o1 (.wrap .i64) (.o2 .idx (.v 0) (.v 1))) (.int 21))) .nil))]))))))
    (.ret (.o1 .strOf (.v 2)))))
set_option maxRecDepth 100000 in
theorem tree_law52_plain : fnTree cx_law52_plain 4 sg_law52_plain Tryd.f20 (Tryd.f20.body.getD .skip) = tr_law52_plain := by kernel_rfl
theorem cxok_law52_plain {Γ : CEnv} (hg : ∀ n, Γ.glob n = globT n) (hs : ∀ s ∈ cx_law52_plain.sigs, Contract Tryd.prog Γ gtab s (Γ.pre s.no) (Γ.post s.no)) : CxOk cx_law52_plain Γ := ⟨by kernel_rfl, hs, (fun x hx => by cases hx), (fun x hx => by cases hx)⟩
theorem contract_law52_plain {Γ : CEnv} (hg : ∀ n, Γ.glob n = globT n) (hs : ∀ s ∈ cx_law52_plain.sigs, Contract Tryd.prog Γ gtab s (Γ.pre s.no) (Γ.post s.no)) (k : Nat) {pre : List TV → Prop} {post : List TV → TV → Prop} (h : ∀ ts, ts.length = 1 → pre ts → tr_law52_plain.den Γ (post ts) ts []) : Contract Tryd.prog Γ gtab (sn_law52_plain k) pre post :=
  Contract.renum (contract_of (cxok_law52_plain hg hs) 4 sg_law52_plain Tryd.func20 (by kernel_rfl) (by kernel_rfl) fun ts hl hp => by rw [tree_law52_plain]; exact h ts hl hp) k

/-! narrator/narratorlaw52.ContractionBack -/
def sg_law52_ContractionBack : Sig := ⟨3, 0, [(false, [(.slice false [(.int .u8)])])], [(false, [(.bool, none)])]⟩
def sn_law52_ContractionBack (k : Nat) : Sig := ⟨sg_law52_ContractionBack.f, k, sg_law52_ContractionBack.args, sg_law52_ContractionBack.res⟩
def hd_law52_ContractionBack : List (FuncId × Nat × Head) := []
def pl_law52_ContractionBack : List (FuncId × Nat × Nat × Plan) := []
noncomputable def cx_law52_ContractionBack : Cx := ⟨Tryd.prog, gtab, [sn_contraction_Back 0, sn_ref52_Back 1, sn_law52_awake 2], [], hd_law52_ContractionBack, pl_law52_ContractionBack, []⟩
def tr_law52_ContractionBack : Tree := (.br (.o2 .lti (.int 150) (.o1 .len (.v 0)))
  (.call 2 []
    (.ret (.v 1)))
  (.call 0 [(.v 0)]
    (.call 1 [(.v 0)]
      (.br (.o2 .eqs (.o1 (.proj 0) (.v 1)) (.o1 (.proj 0) (.v 2)))
        (.br (.o2 .eqi (.o1 (.proj 1) (.v 1)) (.o1 (.proj 1) (.v 2)))
          (.call 2 []
            (.ret (.v 3)))
          (.ret (.bool false)))
        (.ret (.bool false))))))
set_option maxRecDepth 100000 in
theorem tree_law52_ContractionBack : fnTree cx_law52_ContractionBack 4 sg_law52_ContractionBack Tryd.f3 (Tryd.f3.body.getD .skip) = tr_law52_ContractionBack := by kernel_rfl
theorem cxok_law52_ContractionBack {Γ : CEnv} (hg : ∀ n, Γ.glob n = globT n) (hs : ∀ s ∈ cx_law52_ContractionBack.sigs, Contract Tryd.prog Γ gtab s (Γ.pre s.no) (Γ.post s.no)) : CxOk cx_law52_ContractionBack Γ := ⟨by kernel_rfl, hs, (fun x hx => by cases hx), (fun x hx => by cases hx)⟩
theorem contract_law52_ContractionBack {Γ : CEnv} (hg : ∀ n, Γ.glob n = globT n) (hs : ∀ s ∈ cx_law52_ContractionBack.sigs, Contract Tryd.prog Γ gtab s (Γ.pre s.no) (Γ.post s.no)) (k : Nat) {pre : List TV → Prop} {post : List TV → TV → Prop} (h : ∀ ts, ts.length = 1 → pre ts → tr_law52_ContractionBack.den Γ (post ts) ts []) : Contract Tryd.prog Γ gtab (sn_law52_ContractionBack k) pre post :=
  Contract.renum (contract_of (cxok_law52_ContractionBack hg hs) 4 sg_law52_ContractionBack Tryd.func3 (by kernel_rfl) (by kernel_rfl) fun ts hl hp => by rw [tree_law52_ContractionBack]; exact h ts hl hp) k

/-! narrator/narratorlaw52.ContractionRoundTrip -/
def sg_law52_ContractionRoundTrip : Sig := ⟨4, 0, [(false, [.str])], [(false, [(.bool, none)])]⟩
def sn_law52_ContractionRoundTrip (k : Nat) : Sig := ⟨sg_law52_ContractionRoundTrip.f, k, sg_law52_ContractionRoundTrip.args, sg_law52_ContractionRoundTrip.res⟩
def hd_law52_ContractionRoundTrip : List (FuncId × Nat × Head) := []
def pl_law52_ContractionRoundTrip : List (FuncId × Nat × Nat × Plan) := []
noncomputable def cx_law52_ContractionRoundTrip : Cx := ⟨Tryd.prog, gtab, [sn_utf8stream_Decode 0, sn_utf8stream_Finish 1, sn_utf8stream_Encode 2, sn_computerbraille_Cells 3, sn_contraction_Translate 4, sn_contraction_Back 5, sn_contraction_Length 6, sn_law52_awake 7], [], hd_law52_ContractionRoundTrip, pl_law52_ContractionRoundTrip, []⟩
def tr_law52_ContractionRoundTrip : Tree := (.br (.o2 .lti (.int 100) (.o1 .slen (.v 0)))
  (.call 7 []
    (.ret (.v 1)))
  (.call 4 [(.v 0)]
    (.call 5 [(.o1 (.proj 0) (.v 1))]
      (.call 0 [(.str []), (.v 0)]
        (.call 1 [(.o1 (.proj 1) (.v 3))]
          (.req (.o2 .lei (.o1 .len (.o2 .app (.o1 (.proj 0) (.v 3)) (.v 4))) (.int 1099511627776)) (.br (.o2 .eqi (.o1 (.proj 1) (.v 2)) (.int 0))
            (.call 2 [(.o2 .app (.o1 (.proj 0) (.v 3)) (.v 4))]
              (.br (.o2 .eqs (.o1 (.proj 0) (.v 2)) (.v 5))
                (.call 6 [(.v 0)]
                  (.br (.o2 .eqi (.o1 .len (.o1 (.proj 0) (.v 1))) (.v 6))
                    (.call 3 [(.v 0)]
                      (.br (.o2 .lei (.o1 .len (.o1 (.proj 0) (.v 1))) (.o1 .len (.v 7)))
                        (.call 7 []
                          (.ret (.v 8)))
                        (.ret (.bool false))))
                    (.ret (.bool false))))
                (.ret (.bool false))))
            (.ret (.bool false)))))))))
set_option maxRecDepth 100000 in
theorem tree_law52_ContractionRoundTrip : fnTree cx_law52_ContractionRoundTrip 4 sg_law52_ContractionRoundTrip Tryd.f4 (Tryd.f4.body.getD .skip) = tr_law52_ContractionRoundTrip := by kernel_rfl
theorem cxok_law52_ContractionRoundTrip {Γ : CEnv} (hg : ∀ n, Γ.glob n = globT n) (hs : ∀ s ∈ cx_law52_ContractionRoundTrip.sigs, Contract Tryd.prog Γ gtab s (Γ.pre s.no) (Γ.post s.no)) : CxOk cx_law52_ContractionRoundTrip Γ := ⟨by kernel_rfl, hs, (fun x hx => by cases hx), (fun x hx => by cases hx)⟩
theorem contract_law52_ContractionRoundTrip {Γ : CEnv} (hg : ∀ n, Γ.glob n = globT n) (hs : ∀ s ∈ cx_law52_ContractionRoundTrip.sigs, Contract Tryd.prog Γ gtab s (Γ.pre s.no) (Γ.post s.no)) (k : Nat) {pre : List TV → Prop} {post : List TV → TV → Prop} (h : ∀ ts, ts.length = 1 → pre ts → tr_law52_ContractionRoundTrip.den Γ (post ts) ts []) : Contract Tryd.prog Γ gtab (sn_law52_ContractionRoundTrip k) pre post :=
  Contract.renum (contract_of (cxok_law52_ContractionRoundTrip hg hs) 4 sg_law52_ContractionRoundTrip Tryd.func4 (by kernel_rfl) (by kernel_rfl) fun ts hl hp => by rw [tree_law52_ContractionRoundTrip]; exact h ts hl hp) k

/-! narrator/narratorlaw52.ContractionOther -/
def sg_law52_ContractionOther : Sig := ⟨5, 0, [(false, [(.slice false [(.int .u8)])]), (false, [(.slice false [(.int .u8)])]), (false, [(.int .i32)])], [(false, [(.bool, none)])]⟩
def sn_law52_ContractionOther (k : Nat) : Sig := ⟨sg_law52_ContractionOther.f, k, sg_law52_ContractionOther.args, sg_law52_ContractionOther.res⟩
def hd_law52_ContractionOther : List (FuncId × Nat × Head) := []
def pl_law52_ContractionOther : List (FuncId × Nat × Nat × Plan) := []
noncomputable def cx_law52_ContractionOther : Cx := ⟨Tryd.prog, gtab, [sn_utf8stream_Encode 0, sn_computerbraille_Cells 1, sn_contraction_Length 2, sn_law52_awake 3, sn_law52_plain 4], [], hd_law52_ContractionOther, pl_law52_ContractionOther, []⟩
def tr_law52_ContractionOther : Tree := (.br (.o2 .lti (.int 30) (.o1 .len (.v 0)))
  (.call 3 []
    (.ret (.v 3)))
  (.br (.o2 .lti (.int 30) (.o1 .len (.v 1)))
    (.call 3 []
      (.ret (.v 3)))
    (.br (.o2 .lei (.int 97) (.v 2))
      (.br (.o2 .lei (.v 2) (.int 122))
        (.call 3 []
          (.ret (.v 3)))
        (.call 4 [(.v 0)]
          (.call 4 [(.v 1)]
            (.call 0 [(.cons (.v 2) .nil)]
              (.req (.o2 .lei (.o1 .slen (.o2 .cat (.v 3) (.v 5))) (.int 9223372036854775807)) (.req (.o2 .lei (.o1 .slen (.o2 .cat (.o2 .cat (.v 3) (.v 5)) (.v 4))) (.int 9223372036854775807)) (.call 2 [(.o2 .cat (.o2 .cat (.v 3) (.v 5)) (.v 4))]
                (.call 2 [(.v 3)]
                  (.call 1 [(.v 5)]
                    (.call 2 [(.v 4)]
                      (.br (.o2 .eqi (.v 6) (.o2 (.add .i64) (.o2 (.add .i64) (.v 7) (.o1 .len (.v 8))) (.v 9)))
                        (.call 3 []
                          (.ret (.v 10)))
                        (.ret (.bool false)))))))))))))
      (.call 4 [(.v 0)]
        (.call 4 [(.v 1)]
          (.call 0 [(.cons (.v 2) .nil)]
            (.req (.o2 .lei (.o1 .slen (.o2 .cat (.v 3) (.v 5))) (.int 9223372036854775807)) (.req (.o2 .lei (.o1 .slen (.o2 .cat (.o2 .cat (.v 3) (.v 5)) (.v 4))) (.int 9223372036854775807)) (.call 2 [(.o2 .cat (.o2 .cat (.v 3) (.v 5)) (.v 4))]
              (.call 2 [(.v 3)]
                (.call 1 [(.v 5)]
                  (.call 2 [(.v 4)]
                    (.br (.o2 .eqi (.v 6) (.o2 (.add .i64) (.o2 (.add .i64) (.v 7) (.o1 .len (.v 8))) (.v 9)))
                      (.call 3 []
                        (.ret (.v 10)))
                      (.ret (.bool false)))))))))))))))
set_option maxRecDepth 100000 in
theorem tree_law52_ContractionOther : fnTree cx_law52_ContractionOther 4 sg_law52_ContractionOther Tryd.f5 (Tryd.f5.body.getD .skip) = tr_law52_ContractionOther := by kernel_rfl
theorem cxok_law52_ContractionOther {Γ : CEnv} (hg : ∀ n, Γ.glob n = globT n) (hs : ∀ s ∈ cx_law52_ContractionOther.sigs, Contract Tryd.prog Γ gtab s (Γ.pre s.no) (Γ.post s.no)) : CxOk cx_law52_ContractionOther Γ := ⟨by kernel_rfl, hs, (fun x hx => by cases hx), (fun x hx => by cases hx)⟩
theorem contract_law52_ContractionOther {Γ : CEnv} (hg : ∀ n, Γ.glob n = globT n) (hs : ∀ s ∈ cx_law52_ContractionOther.sigs, Contract Tryd.prog Γ gtab s (Γ.pre s.no) (Γ.post s.no)) (k : Nat) {pre : List TV → Prop} {post : List TV → TV → Prop} (h : ∀ ts, ts.length = 3 → pre ts → tr_law52_ContractionOther.den Γ (post ts) ts []) : Contract Tryd.prog Γ gtab (sn_law52_ContractionOther k) pre post :=
  Contract.renum (contract_of (cxok_law52_ContractionOther hg hs) 4 sg_law52_ContractionOther Tryd.func5 (by kernel_rfl) (by kernel_rfl) fun ts hl hp => by rw [tree_law52_ContractionOther]; exact h ts hl hp) k

/-! narrator/narratorlaw52.ContractionPrefix -/
def sg_law52_ContractionPrefix : Sig := ⟨6, 0, [(false, [(.int .u8)]), (false, [(.int .u8)]), (false, [(.int .i32)])], [(false, [(.bool, none)])]⟩
def sn_law52_ContractionPrefix (k : Nat) : Sig := ⟨sg_law52_ContractionPrefix.f, k, sg_law52_ContractionPrefix.args, sg_law52_ContractionPrefix.res⟩
def hd_law52_ContractionPrefix : List (FuncId × Nat × Head) := []
def pl_law52_ContractionPrefix : List (FuncId × Nat × Nat × Plan) := [(6, 6, 25, (.op true 0 (.op true 1 (.op true 2 (.op true 3 (.op true 4 (.op true 5 (.op true 6 (.op true 7 (.op true 8 (.op true 9 (.op true 10 (.op true 11 (.op false 12 (.op false 13 (.op true 14 (.op true 15 (.op true 16 (.op true 17 (.op true 18 (.op true 19 (.op true 20 (.op true 21 (.op true 22 (.op false 23 (.op false 24 .nil)))))))))))))))))))))))))), (6, 8, 40, (.op true 0 (.op true 1 (.op true 2 (.op true 3 (.op true 4 (.op true 5 (.op true 6 (.op true 7 (.op true 8 (.op true 9 (.op true 10 (.op false 11 (.op false 12 (.op false 13 (.op false 14 (.op true 15 (.op true 16 (.op true 17 (.op true 18 (.op true 19 (.op false 20 (.op false 21 (.op false 22 (.op false 23 (.op true 24 (.op true 25 (.op true 26 (.op true 27 (.op true 28 (.op true 29 (.op true 30 (.op true 31 (.op true 32 (.op true 33 (.op true 34 (.op false 35 (.op false 36 (.op false 37 (.op false 38 (.op false 39 .nil)))))))))))))))))))))))))))))))))))))))))]
noncomputable def cx_law52_ContractionPrefix : Cx := ⟨Tryd.prog, gtab, [sn_utf8stream_Encode 0, sn_computerbraille_Cells 1, sn_strings_HasPrefix 2, sn_contraction_Table 3, sn_law52_awake 4], [], hd_law52_ContractionPrefix, pl_law52_ContractionPrefix, []⟩
def tr_law52_ContractionPrefix : Tree := (.call 3 []
  (.br (.o1 .no (.o2 .eqi (.o1 .len (.o1 (.proj 0) (.v 3))) (.int 36)))
    (.ret (.bool false))
    (.br (.o1 .no (.o2 .eqi (.o1 .len (.o1 (.proj 1) (.v 3))) (.int 36)))
      (.ret (.bool false))
      (.call 0 [(.cons (.v 2) .nil)]
        (.call 1 [(.v 4)]
          (.br (.o1 .no (.o2 .eqi (.o2 .rem (.o1 (.wrap .i64) (.v 0)) (.int 36)) (.o2 .rem (.o1 (.wrap .i64) (.v 1)) (.int 36))))
            (.req (.o2 .lei (.int 0) (.o2 .rem (.o1 (.wrap .i64) (.v 0)) (.int 36))) (.req (.o2 .lti (.o2 .rem (.o1 (.wrap .i64) (.v 0)) (.int 36)) (.o1 .len (.o1 (.proj 1) (.v 3)))) (.req (.o2 .lei (.int 0) (.o2 .rem (.o1 (.wrap .i64) (.v 1)) (.int 36))) (.req (.o2 .lti (.o2 .rem (.o1 (.wrap .i64) (.v 1)) (.int 36)) (.o1 .len (.o1 (.proj 1) (.v 3)))) (.call 2 [(.o2 .idx (.o1 (.proj 1) (.v 3)) (.o2 .rem (.o1 (.wrap .i64) (.v 0)) (.int 36))), (.o2 .idx (.o1 (.proj 1) (.v 3)) (.o2 .rem (.o1 (.wrap .i64) (.v 1)) (.int 36)))]
              (.br (.v 6)
                (.ret (.bool false))
                (.req (.o2 .lei (.int 0) (.o2 .rem (.o1 (.wrap .i64) (.v 0)) (.int 36))) (.req (.o2 .lti (.o2 .rem (.o1 (.wrap .i64) (.v 0)) (.int 36)) (.o1 .len (.o1 (.proj 0) (.v 3)))) (.req (.o2 .lei (.int 0) (.o2 .rem (.o1 (.wrap .i64) (.v 1)) (.int 36))) (.req (.o2 .lti (.o2 .rem (.o1 (.wrap .i64) (.v 1)) (.int 36)) (.o1 .len (.o1 (.proj 0) (.v 3)))) (.br (.o2 .eqs (.o2 .idx (.o1 (.proj 0) (.v 3)) (.o2 .rem (.o1 (.wrap .i64) (.v 0)) (.int 36))) (.o2 .idx (.o1 (.proj 0) (.v 3)) (.o2 .rem (.o1 (.wrap .i64) (.v 1)) (.int 36))))
                  (.ret (.bool false))
                  (.req (.o2 .lei (.int 0) (.o2 .rem (.o1 (.wrap .i64) (.v 0)) (.int 36))) (.req (.o2 .lti (.o2 .rem (.o1 (.wrap .i64) (.v 0)) (.int 36)) (.o1 .len (.o1 (.proj 1) (.v 3)))) (.br (.o1 .no (.o2 .eqs (.o2 .idx (.o1 (.proj 1) (.v 3)) (.o2 .rem (.o1 (.wrap .i64) (.v 0)) (.int 36))) (.str [])))
                    (.req (.o2 .lei (.int 0) (.o2 .rem (.o1 (.wrap .i64) (.v 0)) (.int 36))) (.req (.o2 .lti (.o2 .rem (.o1 (.wrap .i64) (.v 0)) (.int 36)) (.o1 .len (.o1 (.proj 1) (.v 3)))) (.call 2 [(.o1 .strOf (.v 5)), (.o2 .idx (.o1 (.proj 1) (.v 3)) (.o2 .rem (.o1 (.wrap .i64) (.v 0)) (.int 36)))]
                      (.br (.o1 .no (.v 7))
                        (.req (.o2 .lei (.int 0) (.o2 .rem (.o1 (.wrap .i64) (.v 0)) (.int 36))) (.req (.o2 .lti (.o2 .rem (.o1 (.wrap .i64) (.v 0)) (.int 36)) (.o1 .len (.o1 (.proj 1) (.v 3)))) (.call 2 [(.o2 .idx (.o1 (.proj 1) (.v 3)) (.o2 .rem (.o1 (.wrap .i64) (.v 0)) (.int 36))), (.o1 .strOf (.v 5))]
                          (.br (.o1 .no (.v 8))
                            (.req (.o2 .lei (.int 0) (.o2 .rem (.o1 (.wrap .i64) (.v 0)) (.int 36))) (.req (.o2 .lti (.o2 .rem (.o1 (.wrap .i64) (.v 0)) (.int 36)) (.o1 .len (.o1 (.proj 1) (.v 3)))) (.req (.o2 .lei (.int 0) (.o2 .rem (.o1 (.wrap .i64) (.v 0)) (.int 36))) (.req (.o2 .lti (.o2 .rem (.o1 (.wrap .i64) (.v 0)) (.int 36)) (.o1 .len (.o1 (.proj 0) (.v 3)))) (.br (.o2 .lti (.o1 .slen (.o2 .idx (.o1 (.proj 1) (.v 3)) (.o2 .rem (.o1 (.wrap .i64) (.v 0)) (.int 36)))) (.o1 .slen (.o2 .idx (.o1 (.proj 0) (.v 3)) (.o2 .rem (.o1 (.wrap .i64) (.v 0)) (.int 36)))))
                              (.call 4 []
                                (.ret (.v 9)))
                              (.ret (.bool false)))))))
                            (.ret (.bool false))))))
                        (.ret (.bool false))))))
                    (.ret (.bool false))))))))))))))))
            (.req (.o2 .lei (.int 0) (.o2 .rem (.o1 (.wrap .i64) (.v 0)) (.int 36))) (.req (.o2 .lti (.o2 .rem (.o1 (.wrap .i64) (.v 0)) (.int 36)) (.o1 .len (.o1 (.proj 1) (.v 3)))) (.br (.o1 .no (.o2 .eqs (.o2 .idx (.o1 (.proj 1) (.v 3)) (.o2 .rem (.o1 (.wrap .i64) (.v 0)) (.int 36))) (.str [])))
              (.req (.o2 .lei (.int 0) (.o2 .rem (.o1 (.wrap .i64) (.v 0)) (.int 36))) (.req (.o2 .lti (.o2 .rem (.o1 (.wrap .i64) (.v 0)) (.int 36)) (.o1 .len (.o1 (.proj 1) (.v 3)))) (.call 2 [(.o1 .strOf (.v 5)), (.o2 .idx (.o1 (.proj 1) (.v 3)) (.o2 .rem (.o1 (.wrap .i64) (.v 0)) (.int 36)))]
                (.br (.o1 .no (.v 6))
                  (.req (.o2 .lei (.int 0) (.o2 .rem (.o1 (.wrap .i64) (.v 0)) (.int 36))) (.req (.o2 .lti (.o2 .rem (.o1 (.wrap .i64) (.v 0)) (.int 36)) (.o1 .len (.o1 (.proj 1) (.v 3)))) (.call 2 [(.o2 .idx (.o1 (.proj 1) (.v 3)) (.o2 .rem (.o1 (.wrap .i64) (.v 0)) (.int 36))), (.o1 .strOf (.v 5))]
                    (.br (.o1 .no (.v 7))
                      (.req (.o2 .lei (.int 0) (.o2 .rem (.o1 (.wrap .i64) (.v 0)) (.int 36))) (.req (.o2 .lti (.o2 .rem (.o1 (.wrap .i64) (.v 0)) (.int 36)) (.o1 .len (.o1 (.proj 1) (.v 3)))) (.req (.o2 .lei (.int 0) (.o2 .rem (.o1 (.wrap .i64) (.v 0)) (.int 36))) (.req (.o2 .lti (.o2 .rem (.o1 (.wrap .i64) (.v 0)) (.int 36)) (.o1 .len (.o1 (.proj 0) (.v 3)))) (.br (.o2 .lti (.o1 .slen (.o2 .idx (.o1 (.proj 1) (.v 3)) (.o2 .rem (.o1 (.wrap .i64) (.v 0)) (.int 36)))) (.o1 .slen (.o2 .idx (.o1 (.proj 0) (.v 3)) (.o2 .rem (.o1 (.wrap .i64) (.v 0)) (.int 36)))))
                        (.call 4 []
                          (.ret (.v 8)))
                        (.ret (.bool false)))))))
                      (.ret (.bool false))))))
                  (.ret (.bool false))))))
              (.ret (.bool false)))))))))))
set_option maxRecDepth 100000 in
theorem tree_law52_ContractionPrefix : fnTree cx_law52_ContractionPrefix 4 sg_law52_ContractionPrefix Tryd.f6 (Tryd.f6.body.getD .skip) = tr_law52_ContractionPrefix := by kernel_rfl
theorem cxok_law52_ContractionPrefix {Γ : CEnv} (hg : ∀ n, Γ.glob n = globT n) (hs : ∀ s ∈ cx_law52_ContractionPrefix.sigs, Contract Tryd.prog Γ gtab s (Γ.pre s.no) (Γ.post s.no)) : CxOk cx_law52_ContractionPrefix Γ := ⟨by kernel_rfl, hs, (fun x hx => by cases hx), (fun x hx => by cases hx)⟩
theorem contract_law52_ContractionPrefix {Γ : CEnv} (hg : ∀ n, Γ.glob n = globT n) (hs : ∀ s ∈ cx_law52_ContractionPrefix.sigs, Contract Tryd.prog Γ gtab s (Γ.pre s.no) (Γ.post s.no)) (k : Nat) {pre : List TV → Prop} {post : List TV → TV → Prop} (h : ∀ ts, ts.length = 3 → pre ts → tr_law52_ContractionPrefix.den Γ (post ts) ts []) : Contract Tryd.prog Γ gtab (sn_law52_ContractionPrefix k) pre post :=
  Contract.renum (contract_of (cxok_law52_ContractionPrefix hg hs) 4 sg_law52_ContractionPrefix Tryd.func6 (by kernel_rfl) (by kernel_rfl) fun ts hl hp => by rw [tree_law52_ContractionPrefix]; exact h ts hl hp) k

/-! narrator/narratorlaw52.ContractionLeast -/
def sg_law52_ContractionLeast : Sig := ⟨7, 0, [(false, [(.slice false [(.int .u8)])]), (false, [(.slice false [(.int .u8)])])], [(false, [(.bool, none)])]⟩
def sn_law52_ContractionLeast (k : Nat) : Sig := ⟨sg_law52_ContractionLeast.f, k, sg_law52_ContractionLeast.args, sg_law52_ContractionLeast.res⟩
def hd_law52_ContractionLeast : List (FuncId × Nat × Head) := []
def pl_law52_ContractionLeast : List (FuncId × Nat × Nat × Plan) := []
noncomputable def cx_law52_ContractionLeast : Cx := ⟨Tryd.prog, gtab, [sn_contraction_Back 0, sn_contraction_Length 1, sn_law52_awake 2, sn_law52_divide 3, sn_law52_plain 4], [], hd_law52_ContractionLeast, pl_law52_ContractionLeast, []⟩
def tr_law52_ContractionLeast : Tree := (.br (.o2 .lti (.int 60) (.o1 .len (.v 0)))
  (.call 2 []
    (.ret (.v 2)))
  (.br (.o2 .lti (.int 60) (.o1 .len (.v 1)))
    (.call 2 []
      (.ret (.v 2)))
    (.call 4 [(.v 0)]
      (.call 3 [(.v 2), (.v 1)]
        (.call 0 [(.v 3)]
          (.br (.o2 .eqi (.o1 (.proj 1) (.v 4)) (.int 0))
            (.br (.o2 .eqs (.o1 (.proj 0) (.v 4)) (.v 2))
              (.call 1 [(.v 2)]
                (.br (.o2 .lei (.v 5) (.o1 .len (.v 3)))
                  (.call 2 []
                    (.ret (.v 6)))
                  (.ret (.bool false))))
              (.ret (.bool false)))
            (.ret (.bool false))))))))
set_option maxRecDepth 100000 in
theorem tree_law52_ContractionLeast : fnTree cx_law52_ContractionLeast 4 sg_law52_ContractionLeast Tryd.f7 (Tryd.f7.body.getD .skip) = tr_law52_ContractionLeast := by kernel_rfl
theorem cxok_law52_ContractionLeast {Γ : CEnv} (hg : ∀ n, Γ.glob n = globT n) (hs : ∀ s ∈ cx_law52_ContractionLeast.sigs, Contract Tryd.prog Γ gtab s (Γ.pre s.no) (Γ.post s.no)) : CxOk cx_law52_ContractionLeast Γ := ⟨by kernel_rfl, hs, (fun x hx => by cases hx), (fun x hx => by cases hx)⟩
theorem contract_law52_ContractionLeast {Γ : CEnv} (hg : ∀ n, Γ.glob n = globT n) (hs : ∀ s ∈ cx_law52_ContractionLeast.sigs, Contract Tryd.prog Γ gtab s (Γ.pre s.no) (Γ.post s.no)) (k : Nat) {pre : List TV → Prop} {post : List TV → TV → Prop} (h : ∀ ts, ts.length = 2 → pre ts → tr_law52_ContractionLeast.den Γ (post ts) ts []) : Contract Tryd.prog Γ gtab (sn_law52_ContractionLeast k) pre post :=
  Contract.renum (contract_of (cxok_law52_ContractionLeast hg hs) 4 sg_law52_ContractionLeast Tryd.func7 (by kernel_rfl) (by kernel_rfl) fun ts hl hp => by rw [tree_law52_ContractionLeast]; exact h ts hl hp) k

/-! narrator/narratorlaw52.ContractionTranslate -/
def sg_law52_ContractionTranslate : Sig := ⟨10, 0, [(false, [.str])], [(false, [(.bool, none)])]⟩
def sn_law52_ContractionTranslate (k : Nat) : Sig := ⟨sg_law52_ContractionTranslate.f, k, sg_law52_ContractionTranslate.args, sg_law52_ContractionTranslate.res⟩
def hd_law52_ContractionTranslate : List (FuncId × Nat × Head) := []
def pl_law52_ContractionTranslate : List (FuncId × Nat × Nat × Plan) := []
noncomputable def cx_law52_ContractionTranslate : Cx := ⟨Tryd.prog, gtab, [sn_strings_Join 0, sn_ref51_Same 1, sn_contraction_Translate 2, sn_contraction_Table 3, sn_contraction_Length 4, sn_ref52_Texts 5, sn_ref52_Signs 6, sn_ref52_Translate 7, sn_ref52_SameInts 8, sn_law52_awake 9], [], hd_law52_ContractionTranslate, pl_law52_ContractionTranslate, []⟩
def tr_law52_ContractionTranslate : Tree := (.br (.o2 .lti (.int 100) (.o1 .slen (.v 0)))
  (.call 9 []
    (.ret (.v 1)))
  (.call 2 [(.v 0)]
    (.call 7 [(.v 0)]
      (.call 3 []
        (.call 1 [(.o1 (.proj 0) (.v 1)), (.o1 (.proj 0) (.v 2))]
          (.br (.v 4)
            (.call 8 [(.o1 (.proj 1) (.v 1)), (.o1 (.proj 1) (.v 2))]
              (.br (.v 5)
                (.call 4 [(.v 0)]
                  (.br (.o2 .eqi (.v 6) (.o1 .len (.o1 (.proj 0) (.v 2))))
                    (.call 0 [(.o1 (.proj 0) (.v 3)), (.str [32])]
                      (.call 5 []
                        (.call 0 [(.v 8), (.str [32])]
                          (.br (.o2 .eqs (.v 7) (.v 9))
                            (.call 0 [(.o1 (.proj 1) (.v 3)), (.str [])]
                              (.call 6 []
                                (.call 0 [(.v 11), (.str [])]
                                  (.br (.o2 .eqs (.v 10) (.v 12))
                                    (.br (.o2 .eqi (.o1 .len (.o1 (.proj 1) (.v 3))) (.int 36))
                                      (.call 9 []
                                        (.ret (.v 13)))
                                      (.ret (.bool false)))
                                    (.ret (.bool false))))))
                            (.ret (.bool false))))))
                    (.ret (.bool false))))
                (.ret (.bool false))))
            (.ret (.bool false))))))))
set_option maxRecDepth 100000 in
theorem tree_law52_ContractionTranslate : fnTree cx_law52_ContractionTranslate 4 sg_law52_ContractionTranslate Tryd.f10 (Tryd.f10.body.getD .skip) = tr_law52_ContractionTranslate := by kernel_rfl
theorem cxok_law52_ContractionTranslate {Γ : CEnv} (hg : ∀ n, Γ.glob n = globT n) (hs : ∀ s ∈ cx_law52_ContractionTranslate.sigs, Contract Tryd.prog Γ gtab s (Γ.pre s.no) (Γ.post s.no)) : CxOk cx_law52_ContractionTranslate Γ := ⟨by kernel_rfl, hs, (fun x hx => by cases hx), (fun x hx => by cases hx)⟩
theorem contract_law52_ContractionTranslate {Γ : CEnv} (hg : ∀ n, Γ.glob n = globT n) (hs : ∀ s ∈ cx_law52_ContractionTranslate.sigs, Contract Tryd.prog Γ gtab s (Γ.pre s.no) (Γ.post s.no)) (k : Nat) {pre : List TV → Prop} {post : List TV → TV → Prop} (h : ∀ ts, ts.length = 1 → pre ts → tr_law52_ContractionTranslate.den Γ (post ts) ts []) : Contract Tryd.prog Γ gtab (sn_law52_ContractionTranslate k) pre post :=
  Contract.renum (contract_of (cxok_law52_ContractionTranslate hg hs) 4 sg_law52_ContractionTranslate Tryd.func10 (by kernel_rfl) (by kernel_rfl) fun ts hl hp => by rw [tree_law52_ContractionTranslate]; exact h ts hl hp) k
end Go.Proofs.YtlldpcmdmipggaaDoor

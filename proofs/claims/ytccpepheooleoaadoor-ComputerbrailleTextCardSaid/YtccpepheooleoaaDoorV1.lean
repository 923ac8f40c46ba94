/- Written by a program of ours (Gen): the trees of the symbolic runs of functions, and their contracts' frames. -/
import Derived.Test.YtccpepheooleoaaDoorD1
namespace Go.Proofs.YtccpepheooleoaaDoor
set_option linter.unusedVariables false
set_option linter.unusedSimpArgs false

/-! narrator/utf8stream.Valid -/
def sg_utf8stream_Valid : Sig := ⟨20, 0, [(false, [.str])], [(false, [(.bool, none)])]⟩
def sn_utf8stream_Valid (k : Nat) : Sig := ⟨sg_utf8stream_Valid.f, k, sg_utf8stream_Valid.args, sg_utf8stream_Valid.res⟩
def hd_utf8stream_Valid : List (FuncId × Nat × Head) := []
def pl_utf8stream_Valid : List (FuncId × Nat × Nat × List (Bool × Nat)) := []
noncomputable def cx_utf8stream_Valid : Cx := ⟨Tryd.prog, gtabU, [sn_unicode_utf8_ValidString 0], [], hd_utf8stream_Valid, pl_utf8stream_Valid⟩
def tr_utf8stream_Valid : Tree := (.call 0 [(.v 0)]
  (.ret (.v 1)))
set_option maxRecDepth 100000 in
theorem tree_utf8stream_Valid : fnTree cx_utf8stream_Valid 4 sg_utf8stream_Valid Tryd.f20 (Tryd.f20.body.getD .skip) = tr_utf8stream_Valid := by kernel_rfl
theorem cxok_utf8stream_Valid {Γ : CEnv} (hg : ∀ n, Γ.glob n = globT n) (hs : ∀ s ∈ cx_utf8stream_Valid.sigs, Contract Tryd.prog Γ gtabU s (Γ.pre s.no) (Γ.post s.no)) : CxOk cx_utf8stream_Valid Γ := ⟨by kernel_rfl, hs, fun x hx => by cases hx⟩
theorem contract_utf8stream_Valid {Γ : CEnv} (hg : ∀ n, Γ.glob n = globT n) (hs : ∀ s ∈ cx_utf8stream_Valid.sigs, Contract Tryd.prog Γ gtabU s (Γ.pre s.no) (Γ.post s.no)) (k : Nat) {pre : List TV → Prop} {post : List TV → TV → Prop} (h : ∀ ts, ts.length = 1 → pre ts → tr_utf8stream_Valid.den Γ (post ts) ts []) : Contract Tryd.prog Γ gtabU (sn_utf8stream_Valid k) pre post :=
  Contract.renum (contract_of (cxok_utf8stream_Valid hg hs) 4 sg_utf8stream_Valid Tryd.func20 (by kernel_rfl) (by kernel_rfl) fun ts hl hp => by rw [tree_utf8stream_Valid]; exact h ts hl hp) k

/-! narrator/narratorlaw51.ComputerbrailleConcatenation -/
def sg_law51_ComputerbrailleConcatenation : Sig := ⟨7, 0, [(false, [.str]), (false, [.str])], [(false, [(.bool, none)])]⟩
def sn_law51_ComputerbrailleConcatenation (k : Nat) : Sig := ⟨sg_law51_ComputerbrailleConcatenation.f, k, sg_law51_ComputerbrailleConcatenation.args, sg_law51_ComputerbrailleConcatenation.res⟩
def hd_law51_ComputerbrailleConcatenation : List (FuncId × Nat × Head) := []
def pl_law51_ComputerbrailleConcatenation : List (FuncId × Nat × Nat × List (Bool × Nat)) := []
noncomputable def cx_law51_ComputerbrailleConcatenation : Cx := ⟨Tryd.prog, gtabU, [sn_computerbraille_Cells 0, sn_ref51_Same 1, sn_law51_awake 2, sn_utf8stream_Valid 3], [], hd_law51_ComputerbrailleConcatenation, pl_law51_ComputerbrailleConcatenation⟩
def tr_law51_ComputerbrailleConcatenation : Tree := (.br (.o2 .lti (.int 100) (.o1 .slen (.v 0)))
  (.call 2 []
    (.ret (.v 2)))
  (.br (.o2 .lti (.int 100) (.o1 .slen (.v 1)))
    (.call 2 []
      (.ret (.v 2)))
    (.call 3 [(.v 0)]
      (.br (.o1 .no (.v 2))
        (.call 2 []
          (.ret (.v 3)))
        (.call 3 [(.v 1)]
          (.br (.o1 .no (.v 3))
            (.call 2 []
              (.ret (.v 4)))
            (.call 0 [(.v 0)]
              (.req (.o2 .lei (.o1 .len (.o2 .app .nil (.v 4))) (.int 1099511627776)) (.call 0 [(.v 1)]
                (.req (.o2 .lei (.o1 .len (.o2 .app (.o2 .app .nil (.v 4)) (.v 5))) (.int 1099511627776)) (.req (.o2 .lei (.o1 .slen (.o2 .cat (.v 0) (.v 1))) (.int 9223372036854775807)) (.call 0 [(.o2 .cat (.v 0) (.v 1))]
                  (.call 1 [(.v 6), (.o2 .app (.o2 .app .nil (.v 4)) (.v 5))]
                    (.br (.v 7)
                      (.call 2 []
                        (.ret (.v 8)))
                      (.ret (.bool false))))))))))))))))
set_option maxRecDepth 100000 in
theorem tree_law51_ComputerbrailleConcatenation : fnTree cx_law51_ComputerbrailleConcatenation 4 sg_law51_ComputerbrailleConcatenation Tryd.f7 (Tryd.f7.body.getD .skip) = tr_law51_ComputerbrailleConcatenation := by kernel_rfl
theorem cxok_law51_ComputerbrailleConcatenation {Γ : CEnv} (hg : ∀ n, Γ.glob n = globT n) (hs : ∀ s ∈ cx_law51_ComputerbrailleConcatenation.sigs, Contract Tryd.prog Γ gtabU s (Γ.pre s.no) (Γ.post s.no)) : CxOk cx_law51_ComputerbrailleConcatenation Γ := ⟨by kernel_rfl, hs, fun x hx => by cases hx⟩
theorem contract_law51_ComputerbrailleConcatenation {Γ : CEnv} (hg : ∀ n, Γ.glob n = globT n) (hs : ∀ s ∈ cx_law51_ComputerbrailleConcatenation.sigs, Contract Tryd.prog Γ gtabU s (Γ.pre s.no) (Γ.post s.no)) (k : Nat) {pre : List TV → Prop} {post : List TV → TV → Prop} (h : ∀ ts, ts.length = 2 → pre ts → tr_law51_ComputerbrailleConcatenation.den Γ (post ts) ts []) : Contract Tryd.prog Γ gtabU (sn_law51_ComputerbrailleConcatenation k) pre post :=
  Contract.renum (contract_of (cxok_law51_ComputerbrailleConcatenation hg hs) 4 sg_law51_ComputerbrailleConcatenation Tryd.func7 (by kernel_rfl) (by kernel_rfl) fun ts hl hp => by rw [tree_law51_ComputerbrailleConcatenation]; exact h ts hl hp) k

/-! narrator/narratorlaw51.ComputerbrailleRoundTrip -/
def sg_law51_ComputerbrailleRoundTrip : Sig := ⟨10, 0, [(false, [.str])], [(false, [(.bool, none)])]⟩
def sn_law51_ComputerbrailleRoundTrip (k : Nat) : Sig := ⟨sg_law51_ComputerbrailleRoundTrip.f, k, sg_law51_ComputerbrailleRoundTrip.args, sg_law51_ComputerbrailleRoundTrip.res⟩
def hd_law51_ComputerbrailleRoundTrip : List (FuncId × Nat × Head) := []
def pl_law51_ComputerbrailleRoundTrip : List (FuncId × Nat × Nat × List (Bool × Nat)) := []
noncomputable def cx_law51_ComputerbrailleRoundTrip : Cx := ⟨Tryd.prog, gtabU, [sn_utf8stream_Decode 0, sn_utf8stream_Finish 1, sn_utf8stream_Encode 2, sn_computerbraille_Cells 3, sn_law51_awake 4, sn_computerbraille_Text 5, sn_utf8stream_Valid 6], [], hd_law51_ComputerbrailleRoundTrip, pl_law51_ComputerbrailleRoundTrip⟩
def tr_law51_ComputerbrailleRoundTrip : Tree := (.br (.o2 .lti (.int 200) (.o1 .slen (.v 0)))
  (.call 4 []
    (.ret (.v 1)))
  (.call 0 [(.str []), (.v 0)]
    (.call 1 [(.o1 (.proj 1) (.v 1))]
      (.req (.o2 .lei (.o1 .len (.o2 .app (.o1 (.proj 0) (.v 1)) (.v 2))) (.int 1099511627776)) (.call 2 [(.o2 .app (.o1 (.proj 0) (.v 1)) (.v 2))]
        (.call 6 [(.v 0)]
          (.br (.v 4)
            (.call 3 [(.v 0)]
              (.call 5 [(.v 5)]
                (.br (.o2 .eqs (.o1 (.proj 0) (.v 6)) (.v 0))
                  (.br (.o2 .eqi (.o1 (.proj 1) (.v 6)) (.int 0))
                    (.call 4 []
                      (.ret (.v 7)))
                    (.ret (.bool false)))
                  (.ret (.bool false)))))
            (.call 3 [(.v 0)]
              (.call 5 [(.v 5)]
                (.br (.o2 .eqs (.o1 (.proj 0) (.v 6)) (.v 3))
                  (.br (.o2 .eqi (.o1 (.proj 1) (.v 6)) (.int 0))
                    (.call 4 []
                      (.ret (.v 7)))
                    (.ret (.bool false)))
                  (.ret (.bool false))))))))))))
set_option maxRecDepth 100000 in
theorem tree_law51_ComputerbrailleRoundTrip : fnTree cx_law51_ComputerbrailleRoundTrip 4 sg_law51_ComputerbrailleRoundTrip Tryd.f10 (Tryd.f10.body.getD .skip) = tr_law51_ComputerbrailleRoundTrip := by kernel_rfl
theorem cxok_law51_ComputerbrailleRoundTrip {Γ : CEnv} (hg : ∀ n, Γ.glob n = globT n) (hs : ∀ s ∈ cx_law51_ComputerbrailleRoundTrip.sigs, Contract Tryd.prog Γ gtabU s (Γ.pre s.no) (Γ.post s.no)) : CxOk cx_law51_ComputerbrailleRoundTrip Γ := ⟨by kernel_rfl, hs, fun x hx => by cases hx⟩
theorem contract_law51_ComputerbrailleRoundTrip {Γ : CEnv} (hg : ∀ n, Γ.glob n = globT n) (hs : ∀ s ∈ cx_law51_ComputerbrailleRoundTrip.sigs, Contract Tryd.prog Γ gtabU s (Γ.pre s.no) (Γ.post s.no)) (k : Nat) {pre : List TV → Prop} {post : List TV → TV → Prop} (h : ∀ ts, ts.length = 1 → pre ts → tr_law51_ComputerbrailleRoundTrip.den Γ (post ts) ts []) : Contract Tryd.prog Γ gtabU (sn_law51_ComputerbrailleRoundTrip k) pre post :=
  Contract.renum (contract_of (cxok_law51_ComputerbrailleRoundTrip hg hs) 4 sg_law51_ComputerbrailleRoundTrip Tryd.func10 (by kernel_rfl) (by kernel_rfl) fun ts hl hp => by rw [tree_law51_ComputerbrailleRoundTrip]; exact h ts hl hp) k

/-! narrator/narratorlaw51.ComputerbrailleCanonical -/
def sg_law51_ComputerbrailleCanonical : Sig := ⟨11, 0, [(false, [(.slice false [(.int .u8)])])], [(false, [(.bool, none)])]⟩
def sn_law51_ComputerbrailleCanonical (k : Nat) : Sig := ⟨sg_law51_ComputerbrailleCanonical.f, k, sg_law51_ComputerbrailleCanonical.args, sg_law51_ComputerbrailleCanonical.res⟩
def hd_law51_ComputerbrailleCanonical : List (FuncId × Nat × Head) := []
def pl_law51_ComputerbrailleCanonical : List (FuncId × Nat × Nat × List (Bool × Nat)) := []
noncomputable def cx_law51_ComputerbrailleCanonical : Cx := ⟨Tryd.prog, gtabU, [sn_computerbraille_Cells 0, sn_ref51_Same 1, sn_law51_awake 2, sn_computerbraille_Text 3, sn_utf8stream_Valid 4], [], hd_law51_ComputerbrailleCanonical, pl_law51_ComputerbrailleCanonical⟩
def tr_law51_ComputerbrailleCanonical : Tree := (.br (.o2 .lti (.int 300) (.o1 .len (.v 0)))
  (.call 2 []
    (.ret (.v 1)))
  (.call 3 [(.v 0)]
    (.br (.o1 .no (.o2 .eqi (.o1 (.proj 1) (.v 1)) (.int 0)))
      (.br (.o2 .eqs (.o1 (.proj 0) (.v 1)) (.str []))
        (.br (.o2 .eqi (.o1 (.proj 1) (.v 1)) (.int 17))
          (.call 2 []
            (.ret (.v 2)))
          (.ret (.bool false)))
        (.ret (.bool false)))
      (.call 4 [(.o1 (.proj 0) (.v 1))]
        (.br (.v 2)
          (.call 0 [(.o1 (.proj 0) (.v 1))]
            (.call 1 [(.v 3), (.v 0)]
              (.br (.v 4)
                (.call 2 []
                  (.ret (.v 5)))
                (.ret (.bool false)))))
          (.ret (.bool false)))))))
set_option maxRecDepth 100000 in
theorem tree_law51_ComputerbrailleCanonical : fnTree cx_law51_ComputerbrailleCanonical 4 sg_law51_ComputerbrailleCanonical Tryd.f11 (Tryd.f11.body.getD .skip) = tr_law51_ComputerbrailleCanonical := by kernel_rfl
theorem cxok_law51_ComputerbrailleCanonical {Γ : CEnv} (hg : ∀ n, Γ.glob n = globT n) (hs : ∀ s ∈ cx_law51_ComputerbrailleCanonical.sigs, Contract Tryd.prog Γ gtabU s (Γ.pre s.no) (Γ.post s.no)) : CxOk cx_law51_ComputerbrailleCanonical Γ := ⟨by kernel_rfl, hs, fun x hx => by cases hx⟩
theorem contract_law51_ComputerbrailleCanonical {Γ : CEnv} (hg : ∀ n, Γ.glob n = globT n) (hs : ∀ s ∈ cx_law51_ComputerbrailleCanonical.sigs, Contract Tryd.prog Γ gtabU s (Γ.pre s.no) (Γ.post s.no)) (k : Nat) {pre : List TV → Prop} {post : List TV → TV → Prop} (h : ∀ ts, ts.length = 1 → pre ts → tr_law51_ComputerbrailleCanonical.den Γ (post ts) ts []) : Contract Tryd.prog Γ gtabU (sn_law51_ComputerbrailleCanonical k) pre post :=
  Contract.renum (contract_of (cxok_law51_ComputerbrailleCanonical hg hs) 4 sg_law51_ComputerbrailleCanonical Tryd.func11 (by kernel_rfl) (by kernel_rfl) fun ts hl hp => by rw [tree_law51_ComputerbrailleCanonical]; exact h ts hl hp) k
end Go.Proofs.YtccpepheooleoaaDoor

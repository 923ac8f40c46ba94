/- Written by a program of ours (Gen): the trees of the symbolic runs of functions, and their contracts' frames. -/
import Derived.Test.YtccpepheooleoaaDoorC1
namespace Go.Proofs.YtccpepheooleoaaDoor
set_option linter.unusedVariables false
set_option linter.unusedSimpArgs false
def sg_strings_IndexByte : Sig := ⟨38, 0, [(false, [.str]), (false, [(.int .u8)])], [(false, [((.int .i64), none)])]⟩
def sn_strings_IndexByte (k : Nat) : Sig := ⟨sg_strings_IndexByte.f, k, sg_strings_IndexByte.args, sg_strings_IndexByte.res⟩

/-! narrator/computerbraille.number -/
def sg_computerbraille_number : Sig := ⟨30, 0, [(false, [(.slice false [(.int .u8)])])], [(false, [((.int .i32), none)])]⟩
def sn_computerbraille_number (k : Nat) : Sig := ⟨sg_computerbraille_number.f, k, sg_computerbraille_number.args, sg_computerbraille_number.res⟩
def hd_computerbraille_number : List (FuncId × Nat × Head) := [(30, 3, ⟨[3, 8, 9, 10], [], [10, 3], [], []⟩)]
def pl_computerbraille_number : List (FuncId × Nat × Nat × List (Bool × Nat)) := []
noncomputable def cx_computerbraille_number : Cx := ⟨Tryd.prog, gtab, [sn_strings_IndexByte 0, sn_computerbraille_Rune 1], [], hd_computerbraille_number, pl_computerbraille_number⟩
def tr_computerbraille_number : Tree := (.loop [(.int 0), (.int 0)]
  (.br (.o2 .lti (.v 2) (.o1 .len (.v 0)))
    (.req (.o2 .lei (.int 0) (.v 2)) (.req (.o2 .lti (.v 2) (.o1 .len (.v 0))) (.call 1 [(.o2 .idx (.v 0) (.v 2))]
      (.br (.o2 .lti (.v 3) (.int 128))
        (.call 0 [(.str [48, 49, 50, 51, 52, 53, 54, 55, 56, 57, 97, 98, 99, 100, 101, 102]), (.o1 (.wrap .u8) (.v 3))]
          (.br (.o2 .lti (.v 4) (.int 0))
            (.ret (.int (-1)))
            (.back 0 [(.o2 (.or .i32) (.o2 (.shl .i32) (.v 1) (.int 4)) (.o1 (.wrap .i32) (.v 4))), (.o2 (.add .i64) (.v 2) (.int 1))])))
        (.ret (.int (-1)))))))
    (.br (.o2 .lei (.int 32) (.v 1))
      (.br (.o2 .lei (.v 1) (.int 126))
        (.ret (.int (-1)))
        (.br (.o2 .lti (.int 1114111) (.v 1))
          (.ret (.int (-1)))
          (.br (.o2 .lei (.int 55296) (.v 1))
            (.br (.o2 .lei (.v 1) (.int 57343))
              (.ret (.int (-1)))
              (.ret (.v 1)))
            (.ret (.v 1)))))
      (.br (.o2 .lti (.int 1114111) (.v 1))
        (.ret (.int (-1)))
        (.br (.o2 .lei (.int 55296) (.v 1))
          (.br (.o2 .lei (.v 1) (.int 57343))
            (.ret (.int (-1)))
            (.ret (.v 1)))
          (.ret (.v 1)))))))
set_option maxRecDepth 100000 in
theorem tree_computerbraille_number : fnTree cx_computerbraille_number 4 sg_computerbraille_number Tryd.f30 (Tryd.f30.body.getD .skip) = tr_computerbraille_number := by kernel_rfl
theorem cxok_computerbraille_number {Γ : CEnv} (hg : ∀ n, Γ.glob n = globT n) (hs : ∀ s ∈ cx_computerbraille_number.sigs, Contract Tryd.prog Γ gtab s (Γ.pre s.no) (Γ.post s.no)) : CxOk cx_computerbraille_number Γ := ⟨by kernel_rfl, hs, fun x hx => by cases hx⟩
theorem contract_computerbraille_number {Γ : CEnv} (hg : ∀ n, Γ.glob n = globT n) (hs : ∀ s ∈ cx_computerbraille_number.sigs, Contract Tryd.prog Γ gtab s (Γ.pre s.no) (Γ.post s.no)) (k : Nat) {pre : List TV → Prop} {post : List TV → TV → Prop} (h : ∀ ts, ts.length = 1 → pre ts → tr_computerbraille_number.den Γ (post ts) ts []) : Contract Tryd.prog Γ gtab (sn_computerbraille_number k) pre post :=
  Contract.renum (contract_of (cxok_computerbraille_number hg hs) 4 sg_computerbraille_number Tryd.func30 (by kernel_rfl) (by kernel_rfl) fun ts hl hp => by rw [tree_computerbraille_number]; exact h ts hl hp) k

/-! narrator/computerbraille.Text -/
def sg_computerbraille_Text : Sig := ⟨21, 0, [(false, [(.slice false [(.int .u8)])])], [(false, [(.str, none)]), (false, [((.int .i64), none)])]⟩
def sn_computerbraille_Text (k : Nat) : Sig := ⟨sg_computerbraille_Text.f, k, sg_computerbraille_Text.args, sg_computerbraille_Text.res⟩
def hd_computerbraille_Text : List (FuncId × Nat × Head) := [(21, 2, ⟨[0, 4], [.slot 4 true 21 false [(.int .i32)]], [0], [0], []⟩)]
def pl_computerbraille_Text : List (FuncId × Nat × Nat × List (Bool × Nat)) := []
noncomputable def cx_computerbraille_Text : Cx := ⟨Tryd.prog, gtab, [sn_utf8stream_Encode 0, sn_computerbraille_Rune 1, sn_computerbraille_number 2], [], hd_computerbraille_Text, pl_computerbraille_Text⟩
def tr_computerbraille_Text : Tree := (.loop [(.v 0), .nil]
  (.br (.o2 .lti (.int 0) (.o1 .len (.v 1)))
    (.req (.o2 .lti (.int 0) (.o1 .len (.v 1))) (.call 1 [(.o2 .idx (.v 1) (.int 0))]
      (.req (.o2 .lti (.int 0) (.o1 .len (.v 1))) (.br (.o2 .eqi (.o2 .idx (.v 1) (.int 0)) (.int 255))
        (.br (.o2 .lti (.o1 .len (.v 1)) (.int 7))
          (.ret (.o1 .agg (.cons (.str []) (.cons (.int 17) .nil))))
          (.req (.o2 .lei (.int 7) (.o1 .len (.v 1))) (.call 2 [(.o3 .sub (.v 1) (.int 1) (.int 7))]
            (.br (.o2 .lti (.v 4) (.int 0))
              (.ret (.o1 .agg (.cons (.str []) (.cons (.int 17) .nil))))
              (.req (.o2 .lei (.o1 .len (.o2 .app (.v 2) (.cons (.v 4) .nil))) (.int 1099511627776)) (.req (.o2 .lei (.int 7) (.o1 .len (.v 1))) (.back 0 [(.o3 .sub (.v 1) (.int 7) (.o1 .len (.v 1))), (.o2 .app (.v 2) (.cons (.v 4) .nil))])))))))
        (.br (.o2 .eqi (.v 3) (.int 65533))
          (.ret (.o1 .agg (.cons (.str []) (.cons (.int 17) .nil))))
          (.req (.o2 .lei (.o1 .len (.o2 .app (.v 2) (.cons (.v 3) .nil))) (.int 1099511627776)) (.req (.o2 .lei (.int 1) (.o1 .len (.v 1))) (.back 0 [(.o3 .sub (.v 1) (.int 1) (.o1 .len (.v 1))), (.o2 .app (.v 2) (.cons (.v 3) .nil))]))))))))
    (.call 0 [(.v 2)]
      (.ret (.o1 .agg (.cons (.v 3) (.cons (.int 0) .nil)))))))
set_option maxRecDepth 100000 in
theorem tree_computerbraille_Text : fnTree cx_computerbraille_Text 4 sg_computerbraille_Text Tryd.f21 (Tryd.f21.body.getD .skip) = tr_computerbraille_Text := by kernel_rfl
theorem cxok_computerbraille_Text {Γ : CEnv} (hg : ∀ n, Γ.glob n = globT n) (hs : ∀ s ∈ cx_computerbraille_Text.sigs, Contract Tryd.prog Γ gtab s (Γ.pre s.no) (Γ.post s.no)) : CxOk cx_computerbraille_Text Γ := ⟨by kernel_rfl, hs, fun x hx => by cases hx⟩
theorem contract_computerbraille_Text {Γ : CEnv} (hg : ∀ n, Γ.glob n = globT n) (hs : ∀ s ∈ cx_computerbraille_Text.sigs, Contract Tryd.prog Γ gtab s (Γ.pre s.no) (Γ.post s.no)) (k : Nat) {pre : List TV → Prop} {post : List TV → TV → Prop} (h : ∀ ts, ts.length = 1 → pre ts → tr_computerbraille_Text.den Γ (post ts) ts []) : Contract Tryd.prog Γ gtab (sn_computerbraille_Text k) pre post :=
  Contract.renum (contract_of (cxok_computerbraille_Text hg hs) 4 sg_computerbraille_Text Tryd.func21 (by kernel_rfl) (by kernel_rfl) fun ts hl hp => by rw [tree_computerbraille_Text]; exact h ts hl hp) k

/-! narrator/narratorlaw51.ComputerbrailleText -/
def sg_law51_ComputerbrailleText : Sig := ⟨8, 0, [(false, [(.slice false [(.int .u8)])])], [(false, [(.bool, none)])]⟩
def sn_law51_ComputerbrailleText (k : Nat) : Sig := ⟨sg_law51_ComputerbrailleText.f, k, sg_law51_ComputerbrailleText.args, sg_law51_ComputerbrailleText.res⟩
def hd_law51_ComputerbrailleText : List (FuncId × Nat × Head) := []
def pl_law51_ComputerbrailleText : List (FuncId × Nat × Nat × List (Bool × Nat)) := []
noncomputable def cx_law51_ComputerbrailleText : Cx := ⟨Tryd.prog, gtab, [sn_law51_awake 0, sn_computerbraille_Text 1, sn_ref51_Text 2], [], hd_law51_ComputerbrailleText, pl_law51_ComputerbrailleText⟩
def tr_law51_ComputerbrailleText : Tree := (.br (.o2 .lti (.int 300) (.o1 .len (.v 0)))
  (.call 0 []
    (.ret (.v 1)))
  (.call 1 [(.v 0)]
    (.call 2 [(.v 0)]
      (.br (.o2 .eqs (.o1 (.proj 0) (.v 1)) (.o1 (.proj 0) (.v 2)))
        (.br (.o2 .eqi (.o1 (.proj 1) (.v 1)) (.o1 (.proj 1) (.v 2)))
          (.call 0 []
            (.ret (.v 3)))
          (.ret (.bool false)))
        (.ret (.bool false))))))
set_option maxRecDepth 100000 in
theorem tree_law51_ComputerbrailleText : fnTree cx_law51_ComputerbrailleText 4 sg_law51_ComputerbrailleText Tryd.f8 (Tryd.f8.body.getD .skip) = tr_law51_ComputerbrailleText := by kernel_rfl
theorem cxok_law51_ComputerbrailleText {Γ : CEnv} (hg : ∀ n, Γ.glob n = globT n) (hs : ∀ s ∈ cx_law51_ComputerbrailleText.sigs, Contract Tryd.prog Γ gtab s (Γ.pre s.no) (Γ.post s.no)) : CxOk cx_law51_ComputerbrailleText Γ := ⟨by kernel_rfl, hs, fun x hx => by cases hx⟩
theorem contract_law51_ComputerbrailleText {Γ : CEnv} (hg : ∀ n, Γ.glob n = globT n) (hs : ∀ s ∈ cx_law51_ComputerbrailleText.sigs, Contract Tryd.prog Γ gtab s (Γ.pre s.no) (Γ.post s.no)) (k : Nat) {pre : List TV → Prop} {post : List TV → TV → Prop} (h : ∀ ts, ts.length = 1 → pre ts → tr_law51_ComputerbrailleText.den Γ (post ts) ts []) : Contract Tryd.prog Γ gtab (sn_law51_ComputerbrailleText k) pre post :=
  Contract.renum (contract_of (cxok_law51_ComputerbrailleText hg hs) 4 sg_law51_ComputerbrailleText Tryd.func8 (by kernel_rfl) (by kernel_rfl) fun ts hl hp => by rw [tree_law51_ComputerbrailleText]; exact h ts hl hp) k

/-! narrator/narratorlaw51.ComputerbraillePrefix -/
def sg_law51_ComputerbraillePrefix : Sig := ⟨9, 0, [(false, [(.int .i32)])], [(false, [(.bool, none)])]⟩
def sn_law51_ComputerbraillePrefix (k : Nat) : Sig := ⟨sg_law51_ComputerbraillePrefix.f, k, sg_law51_ComputerbraillePrefix.args, sg_law51_ComputerbraillePrefix.res⟩
def hd_law51_ComputerbraillePrefix : List (FuncId × Nat × Head) := [(9, 3, ⟨[3, 4], [.slot 3 true 5 false [(.int .u8)]], [4], [], []⟩)]
def pl_law51_ComputerbraillePrefix : List (FuncId × Nat × Nat × List (Bool × Nat)) := []
noncomputable def cx_law51_ComputerbraillePrefix : Cx := ⟨Tryd.prog, gtab, [sn_utf8stream_Encode 0, sn_computerbraille_Cells 1, sn_law51_awake 2, sn_computerbraille_Text 3], [], hd_law51_ComputerbraillePrefix, pl_law51_ComputerbraillePrefix⟩
def tr_law51_ComputerbraillePrefix : Tree := (.call 0 [(.cons (.v 0) .nil)]
  (.call 1 [(.v 1)]
    (.loop [(.int 1)]
      (.br (.o2 .lti (.v 3) (.o1 .len (.v 2)))
        (.req (.o2 .lei (.int 0) (.v 3)) (.req (.o2 .lei (.v 3) (.o1 .len (.v 2))) (.call 3 [(.o3 .sub (.v 2) (.int 0) (.v 3))]
          (.br (.o1 .no (.o2 .eqi (.o1 (.proj 1) (.v 4)) (.int 17)))
            (.ret (.bool false))
            (.br (.o1 .no (.o2 .eqs (.o1 (.proj 0) (.v 4)) (.str [])))
              (.ret (.bool false))
              (.back 0 [(.o2 (.add .i64) (.v 3) (.int 1))]))))))
        (.br (.o2 .eqi (.o1 .len (.v 2)) (.int 1))
          (.call 2 []
            (.ret (.v 4)))
          (.br (.o2 .eqi (.o1 .len (.v 2)) (.int 7))
            (.req (.o2 .lti (.int 0) (.o1 .len (.v 2))) (.br (.o2 .eqi (.o2 .idx (.v 2) (.int 0)) (.int 255))
              (.call 2 []
                (.ret (.v 4)))
              (.ret (.bool false))))
            (.ret (.bool false))))))))
set_option maxRecDepth 100000 in
theorem tree_law51_ComputerbraillePrefix : fnTree cx_law51_ComputerbraillePrefix 4 sg_law51_ComputerbraillePrefix Tryd.f9 (Tryd.f9.body.getD .skip) = tr_law51_ComputerbraillePrefix := by kernel_rfl
theorem cxok_law51_ComputerbraillePrefix {Γ : CEnv} (hg : ∀ n, Γ.glob n = globT n) (hs : ∀ s ∈ cx_law51_ComputerbraillePrefix.sigs, Contract Tryd.prog Γ gtab s (Γ.pre s.no) (Γ.post s.no)) : CxOk cx_law51_ComputerbraillePrefix Γ := ⟨by kernel_rfl, hs, fun x hx => by cases hx⟩
theorem contract_law51_ComputerbraillePrefix {Γ : CEnv} (hg : ∀ n, Γ.glob n = globT n) (hs : ∀ s ∈ cx_law51_ComputerbraillePrefix.sigs, Contract Tryd.prog Γ gtab s (Γ.pre s.no) (Γ.post s.no)) (k : Nat) {pre : List TV → Prop} {post : List TV → TV → Prop} (h : ∀ ts, ts.length = 1 → pre ts → tr_law51_ComputerbraillePrefix.den Γ (post ts) ts []) : Contract Tryd.prog Γ gtab (sn_law51_ComputerbraillePrefix k) pre post :=
  Contract.renum (contract_of (cxok_law51_ComputerbraillePrefix hg hs) 4 sg_law51_ComputerbraillePrefix Tryd.func9 (by kernel_rfl) (by kernel_rfl) fun ts hl hp => by rw [tree_law51_ComputerbraillePrefix]; exact h ts hl hp) k
end Go.Proofs.YtccpepheooleoaaDoor

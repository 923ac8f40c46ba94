/- Written by a program of ours (Gen): the trees of the symbolic runs of functions, and their contracts' frames. -/
import Derived.Test.YtccpepheooleoaaDoorU1
namespace Go.Proofs.YtccpepheooleoaaDoor
set_option linter.unusedVariables false
set_option linter.unusedSimpArgs false

/-! narrator/computerbraille.Cell -/
def sg_computerbraille_Cell : Sig := ⟨16, 0, [(false, [(.int .i32)])], [(false, [((.int .u8), none)]), (false, [(.bool, none)])]⟩
def sn_computerbraille_Cell (k : Nat) : Sig := ⟨sg_computerbraille_Cell.f, k, sg_computerbraille_Cell.args, sg_computerbraille_Cell.res⟩
def hd_computerbraille_Cell : List (FuncId × Nat × Head) := []
def pl_computerbraille_Cell : List (FuncId × Nat × Nat × List (Bool × Nat)) := []
noncomputable def cx_computerbraille_Cell : Cx := ⟨Tryd.prog, gtab, [], [], hd_computerbraille_Cell, pl_computerbraille_Cell⟩
def tr_computerbraille_Cell : Tree := (.br (.o2 .lti (.v 0) (.int 32))
  (.ret (.o1 .agg (.cons (.int 0) (.cons (.bool false) .nil))))
  (.br (.o2 .lti (.int 126) (.v 0))
    (.ret (.o1 .agg (.cons (.int 0) (.cons (.bool false) .nil))))
    (.req (.o2 .lei (.int 95) (.o1 .len (.glob 0))) (.req (.o2 .lei (.int 0) (.o2 (.sub .i32) (.v 0) (.int 32))) (.req (.o2 .lti (.o2 (.sub .i32) (.v 0) (.int 32)) (.int 95)) (.ret (.o1 .agg (.cons (.o2 .idx (.glob 0) (.o2 (.sub .i32) (.v 0) (.int 32))) (.cons (.bool true) .nil)))))))))
set_option maxRecDepth 100000 in
theorem tree_computerbraille_Cell : fnTree cx_computerbraille_Cell 4 sg_computerbraille_Cell Tryd.f16 (Tryd.f16.body.getD .skip) = tr_computerbraille_Cell := by kernel_rfl
theorem cxok_computerbraille_Cell {Γ : CEnv} (hg : ∀ n, Γ.glob n = globT n) (hs : ∀ s ∈ cx_computerbraille_Cell.sigs, Contract Tryd.prog Γ gtab s (Γ.pre s.no) (Γ.post s.no)) : CxOk cx_computerbraille_Cell Γ := ⟨by kernel_rfl, hs, fun x hx => by cases hx⟩
theorem contract_computerbraille_Cell {Γ : CEnv} (hg : ∀ n, Γ.glob n = globT n) (hs : ∀ s ∈ cx_computerbraille_Cell.sigs, Contract Tryd.prog Γ gtab s (Γ.pre s.no) (Γ.post s.no)) (k : Nat) {pre : List TV → Prop} {post : List TV → TV → Prop} (h : ∀ ts, ts.length = 1 → pre ts → tr_computerbraille_Cell.den Γ (post ts) ts []) : Contract Tryd.prog Γ gtab (sn_computerbraille_Cell k) pre post :=
  Contract.renum (contract_of (cxok_computerbraille_Cell hg hs) 4 sg_computerbraille_Cell Tryd.func16 (by kernel_rfl) (by kernel_rfl) fun ts hl hp => by rw [tree_computerbraille_Cell]; exact h ts hl hp) k

/-! narrator/computerbraille.Rune -/
def sg_computerbraille_Rune : Sig := ⟨18, 0, [(false, [(.int .u8)])], [(false, [((.int .i32), none)])]⟩
def sn_computerbraille_Rune (k : Nat) : Sig := ⟨sg_computerbraille_Rune.f, k, sg_computerbraille_Rune.args, sg_computerbraille_Rune.res⟩
def hd_computerbraille_Rune : List (FuncId × Nat × Head) := [(18, 2, ⟨[0, 4], [], [4], [], []⟩)]
def pl_computerbraille_Rune : List (FuncId × Nat × Nat × List (Bool × Nat)) := []
noncomputable def cx_computerbraille_Rune : Cx := ⟨Tryd.prog, gtab, [], [], hd_computerbraille_Rune, pl_computerbraille_Rune⟩
def tr_computerbraille_Rune : Tree := (.loop [(.int 0)]
  (.br (.o2 .lti (.v 1) (.int 95))
    (.req (.o2 .lei (.int 95) (.o1 .len (.glob 0))) (.req (.o2 .lei (.int 0) (.v 1)) (.req (.o2 .lti (.v 1) (.int 95)) (.br (.o2 .eqi (.o2 .idx (.glob 0) (.v 1)) (.v 0))
      (.ret (.o2 (.add .i32) (.int 32) (.o1 (.wrap .i32) (.v 1))))
      (.back 0 [(.o2 (.add .i64) (.v 1) (.int 1))])))))
    (.ret (.int 65533))))
set_option maxRecDepth 100000 in
theorem tree_computerbraille_Rune : fnTree cx_computerbraille_Rune 4 sg_computerbraille_Rune Tryd.f18 (Tryd.f18.body.getD .skip) = tr_computerbraille_Rune := by kernel_rfl
theorem cxok_computerbraille_Rune {Γ : CEnv} (hg : ∀ n, Γ.glob n = globT n) (hs : ∀ s ∈ cx_computerbraille_Rune.sigs, Contract Tryd.prog Γ gtab s (Γ.pre s.no) (Γ.post s.no)) : CxOk cx_computerbraille_Rune Γ := ⟨by kernel_rfl, hs, fun x hx => by cases hx⟩
theorem contract_computerbraille_Rune {Γ : CEnv} (hg : ∀ n, Γ.glob n = globT n) (hs : ∀ s ∈ cx_computerbraille_Rune.sigs, Contract Tryd.prog Γ gtab s (Γ.pre s.no) (Γ.post s.no)) (k : Nat) {pre : List TV → Prop} {post : List TV → TV → Prop} (h : ∀ ts, ts.length = 1 → pre ts → tr_computerbraille_Rune.den Γ (post ts) ts []) : Contract Tryd.prog Γ gtab (sn_computerbraille_Rune k) pre post :=
  Contract.renum (contract_of (cxok_computerbraille_Rune hg hs) 4 sg_computerbraille_Rune Tryd.func18 (by kernel_rfl) (by kernel_rfl) fun ts hl hp => by rw [tree_computerbraille_Rune]; exact h ts hl hp) k

/-! narrator/computerbraille.Cells -/
def sg_computerbraille_Cells : Sig := ⟨14, 0, [(false, [.str])], [(false, [((.slice false [(.int .u8)]), some 5)])]⟩
def sn_computerbraille_Cells (k : Nat) : Sig := ⟨sg_computerbraille_Cells.f, k, sg_computerbraille_Cells.args, sg_computerbraille_Cells.res⟩
def hd_computerbraille_Cells : List (FuncId × Nat × Head) := [(14, 5, ⟨[3, 22, 23, 24], [.slot 22 true 21 false [(.int .i32)], .slot 3 true 5 false [(.int .u8)]], [24], [1], []⟩), (14, 12, ⟨[3, 7, 22, 23, 24, 41], [.slot 3 true 5 false [(.int .u8)], .slot 22 true 21 false [(.int .i32)]], [41], [0], []⟩)]
def pl_computerbraille_Cells : List (FuncId × Nat × Nat × List (Bool × Nat)) := []
noncomputable def cx_computerbraille_Cells : Cx := ⟨Tryd.prog, gtab, [sn_utf8stream_Decode 0, sn_utf8stream_Finish 1, sn_computerbraille_Cell 2], [], hd_computerbraille_Cells, pl_computerbraille_Cells⟩
def tr_computerbraille_Cells : Tree := (.call 0 [(.str []), (.v 0)]
  (.call 1 [(.o1 (.proj 1) (.v 1))]
    (.req (.o2 .lei (.o1 .len (.o2 .app (.o1 (.proj 0) (.v 1)) (.v 2))) (.int 1099511627776)) (.loop [(.int 0), .nil]
      (.br (.o2 .lti (.v 3) (.o1 .len (.o2 .app (.o1 (.proj 0) (.v 1)) (.v 2))))
        (.req (.o2 .lei (.int 0) (.v 3)) (.req (.o2 .lti (.v 3) (.o1 .len (.o2 .app (.o1 (.proj 0) (.v 1)) (.v 2)))) (.call 2 [(.o2 .idx (.o2 .app (.o1 (.proj 0) (.v 1)) (.v 2)) (.v 3))]
          (.br (.o1 (.proj 1) (.v 5))
            (.req (.o2 .lei (.o1 .len (.o2 .app (.v 4) (.cons (.o1 (.proj 0) (.v 5)) .nil))) (.int 1099511627776)) (.back 0 [(.o2 (.add .i64) (.v 3) (.int 1)), (.o2 .app (.v 4) (.cons (.o1 (.proj 0) (.v 5)) .nil))]))
            (.req (.o2 .lei (.o1 .len (.o2 .app (.v 4) (.cons (.int 255) .nil))) (.int 1099511627776)) (.loop [(.int 0), (.o2 .app (.v 4) (.cons (.int 255) .nil))]
              (.br (.o2 .lti (.v 6) (.int 6))
                (.req (.o2 .lei (.int 0) (.o2 (.sub .i64) (.int 20) (.o2 (.mul .i64) (.int 4) (.v 6)))) (.req (.o2 .lei (.int 0) (.o2 (.and .i32) (.o2 (.shr .i32) (.o2 .idx (.o2 .app (.o1 (.proj 0) (.v 1)) (.v 2)) (.v 3)) (.o2 (.sub .i64) (.int 20) (.o2 (.mul .i64) (.int 4) (.v 6)))) (.int 15))) (.req (.o2 .lti (.o2 (.and .i32) (.o2 (.shr .i32) (.o2 .idx (.o2 .app (.o1 (.proj 0) (.v 1)) (.v 2)) (.v 3)) (.o2 (.sub .i64) (.int 20) (.o2 (.mul .i64) (.int 4) (.v 6)))) (.int 15)) (.int 16)) (.call 2 [(.o1 (.wrap .i32) (.o2 .sidx (.str [48, 49, 50, 51, 52, 53, 54, 55, 56, 57, 97, 98, 99, 100, 101, 102]) (.o2 (.and .i32) (.o2 (.shr .i32) (.o2 .idx (.o2 .app (.o1 (.proj 0) (.v 1)) (.v 2)) (.v 3)) (.o2 (.sub .i64) (.int 20) (.o2 (.mul .i64) (.int 4) (.v 6)))) (.int 15))))]
                  (.req (.o2 .lei (.o1 .len (.o2 .app (.v 7) (.cons (.o1 (.proj 0) (.v 8)) .nil))) (.int 1099511627776)) (.back 1 [(.o2 (.add .i64) (.v 6) (.int 1)), (.o2 .app (.v 7) (.cons (.o1 (.proj 0) (.v 8)) .nil))]))))))
                (.back 0 [(.o2 (.add .i64) (.v 3) (.int 1)), (.v 7)]))))))))
        (.ret (.v 4)))))))
set_option maxRecDepth 100000 in
theorem tree_computerbraille_Cells : fnTree cx_computerbraille_Cells 4 sg_computerbraille_Cells Tryd.f14 (Tryd.f14.body.getD .skip) = tr_computerbraille_Cells := by kernel_rfl
theorem cxok_computerbraille_Cells {Γ : CEnv} (hg : ∀ n, Γ.glob n = globT n) (hs : ∀ s ∈ cx_computerbraille_Cells.sigs, Contract Tryd.prog Γ gtab s (Γ.pre s.no) (Γ.post s.no)) : CxOk cx_computerbraille_Cells Γ := ⟨by kernel_rfl, hs, fun x hx => by cases hx⟩
theorem contract_computerbraille_Cells {Γ : CEnv} (hg : ∀ n, Γ.glob n = globT n) (hs : ∀ s ∈ cx_computerbraille_Cells.sigs, Contract Tryd.prog Γ gtab s (Γ.pre s.no) (Γ.post s.no)) (k : Nat) {pre : List TV → Prop} {post : List TV → TV → Prop} (h : ∀ ts, ts.length = 1 → pre ts → tr_computerbraille_Cells.den Γ (post ts) ts []) : Contract Tryd.prog Γ gtab (sn_computerbraille_Cells k) pre post :=
  Contract.renum (contract_of (cxok_computerbraille_Cells hg hs) 4 sg_computerbraille_Cells Tryd.func14 (by kernel_rfl) (by kernel_rfl) fun ts hl hp => by rw [tree_computerbraille_Cells]; exact h ts hl hp) k

/-! narrator/narratorref51.Table -/
def sg_ref51_Table : Sig := ⟨28, 0, [], [(false, [((.slice false [(.int .u8)]), some 5)])]⟩
def sn_ref51_Table (k : Nat) : Sig := ⟨sg_ref51_Table.f, k, sg_ref51_Table.args, sg_ref51_Table.res⟩
def hd_ref51_Table : List (FuncId × Nat × Head) := []
def pl_ref51_Table : List (FuncId × Nat × Nat × List (Bool × Nat)) := []
noncomputable def cx_ref51_Table : Cx := ⟨Tryd.prog, gtab, [], [], hd_ref51_Table, pl_ref51_Table⟩
def tr_ref51_Table : Tree := (.ret (.cons (.int 0) (.cons (.int 46) (.cons (.int 16) (.cons (.int 60) (.cons (.int 43) (.cons (.int 41) (.cons (.int 47) (.cons (.int 4) (.cons (.int 55) (.cons (.int 62) (.cons (.int 33) (.cons (.int 44) (.cons (.int 32) (.cons (.int 36) (.cons (.int 40) (.cons (.int 12) (.cons (.int 52) (.cons (.int 2) (.cons (.int 6) (.cons (.int 18) (.cons (.int 50) (.cons (.int 34) (.cons (.int 22) (.cons (.int 54) (.cons (.int 38) (.cons (.int 20) (.cons (.int 49) (.cons (.int 48) (.cons (.int 35) (.cons (.int 63) (.cons (.int 28) (.cons (.int 57) (.cons (.int 72) (.cons (.int 65) (.cons (.int 67) (.cons (.int 73) (.cons (.int 89) (.cons (.int 81) (.cons (.int 75) (.cons (.int 91) (.cons (.int 83) (.cons (.int 74) (.cons (.int 90) (.cons (.int 69) (.cons (.int 71) (.cons (.int 77) (.cons (.int 93) (.cons (.int 85) (.cons (.int 79) (.cons (.int 95) (.cons (.int 87) (.cons (.int 78) (.cons (.int 94) (.cons (.int 101) (.cons (.int 103) (.cons (.int 122) (.cons (.int 109) (.cons (.int 125) (.cons (.int 117) (.cons (.int 106) (.cons (.int 115) (.cons (.int 123) (.cons (.int 88) (.cons (.int 56) (.cons (.int 8) (.cons (.int 1) (.cons (.int 3) (.cons (.int 9) (.cons (.int 25) (.cons (.int 17) (.cons (.int 11) (.cons (.int 27) (.cons (.int 19) (.cons (.int 10) (.cons (.int 26) (.cons (.int 5) (.cons (.int 7) (.cons (.int 13) (.cons (.int 29) (.cons (.int 21) (.cons (.int 15) (.cons (.int 31) (.cons (.int 23) (.cons (.int 14) (.cons (.int 30) (.cons (.int 37) (.cons (.int 39) (.cons (.int 58) (.cons (.int 45) (.cons (.int 61) (.cons (.int 53) (.cons (.int 42) (.cons (.int 51) (.cons (.int 59) (.cons (.int 24) .nil))))))))))))))))))))))))))))))))))))))))))))))))))))))))))))))))))))))))))))))))))))))))))))))))
set_option maxRecDepth 100000 in
theorem tree_ref51_Table : fnTree cx_ref51_Table 4 sg_ref51_Table Tryd.f28 (Tryd.f28.body.getD .skip) = tr_ref51_Table := by kernel_rfl
theorem cxok_ref51_Table {Γ : CEnv} (hg : ∀ n, Γ.glob n = globT n) (hs : ∀ s ∈ cx_ref51_Table.sigs, Contract Tryd.prog Γ gtab s (Γ.pre s.no) (Γ.post s.no)) : CxOk cx_ref51_Table Γ := ⟨by kernel_rfl, hs, fun x hx => by cases hx⟩
theorem contract_ref51_Table {Γ : CEnv} (hg : ∀ n, Γ.glob n = globT n) (hs : ∀ s ∈ cx_ref51_Table.sigs, Contract Tryd.prog Γ gtab s (Γ.pre s.no) (Γ.post s.no)) (k : Nat) {pre : List TV → Prop} {post : List TV → TV → Prop} (h : ∀ ts, ts.length = 0 → pre ts → tr_ref51_Table.den Γ (post ts) ts []) : Contract Tryd.prog Γ gtab (sn_ref51_Table k) pre post :=
  Contract.renum (contract_of (cxok_ref51_Table hg hs) 4 sg_ref51_Table Tryd.func28 (by kernel_rfl) (by kernel_rfl) fun ts hl hp => by rw [tree_ref51_Table]; exact h ts hl hp) k

/-! narrator/narratorref51.Cell -/
def sg_ref51_Cell : Sig := ⟨17, 0, [(false, [(.int .i32)])], [(false, [((.int .u8), none)]), (false, [(.bool, none)])]⟩
def sn_ref51_Cell (k : Nat) : Sig := ⟨sg_ref51_Cell.f, k, sg_ref51_Cell.args, sg_ref51_Cell.res⟩
def hd_ref51_Cell : List (FuncId × Nat × Head) := []
def pl_ref51_Cell : List (FuncId × Nat × Nat × List (Bool × Nat)) := []
noncomputable def cx_ref51_Cell : Cx := ⟨Tryd.prog, gtab, [sn_ref51_Table 0], [], hd_ref51_Cell, pl_ref51_Cell⟩
def tr_ref51_Cell : Tree := (.br (.o2 .lti (.v 0) (.int 32))
  (.ret (.o1 .agg (.cons (.int 0) (.cons (.bool false) .nil))))
  (.br (.o2 .lti (.int 126) (.v 0))
    (.ret (.o1 .agg (.cons (.int 0) (.cons (.bool false) .nil))))
    (.call 0 []
      (.req (.o2 .lei (.int 0) (.o2 (.sub .i32) (.v 0) (.int 32))) (.req (.o2 .lti (.o2 (.sub .i32) (.v 0) (.int 32)) (.o1 .len (.v 1))) (.ret (.o1 .agg (.cons (.o2 .idx (.v 1) (.o2 (.sub .i32) (.v 0) (.int 32))) (.cons (.bool true) .nil)))))))))
set_option maxRecDepth 100000 in
theorem tree_ref51_Cell : fnTree cx_ref51_Cell 4 sg_ref51_Cell Tryd.f17 (Tryd.f17.body.getD .skip) = tr_ref51_Cell := by kernel_rfl
theorem cxok_ref51_Cell {Γ : CEnv} (hg : ∀ n, Γ.glob n = globT n) (hs : ∀ s ∈ cx_ref51_Cell.sigs, Contract Tryd.prog Γ gtab s (Γ.pre s.no) (Γ.post s.no)) : CxOk cx_ref51_Cell Γ := ⟨by kernel_rfl, hs, fun x hx => by cases hx⟩
theorem contract_ref51_Cell {Γ : CEnv} (hg : ∀ n, Γ.glob n = globT n) (hs : ∀ s ∈ cx_ref51_Cell.sigs, Contract Tryd.prog Γ gtab s (Γ.pre s.no) (Γ.post s.no)) (k : Nat) {pre : List TV → Prop} {post : List TV → TV → Prop} (h : ∀ ts, ts.length = 1 → pre ts → tr_ref51_Cell.den Γ (post ts) ts []) : Contract Tryd.prog Γ gtab (sn_ref51_Cell k) pre post :=
  Contract.renum (contract_of (cxok_ref51_Cell hg hs) 4 sg_ref51_Cell Tryd.func17 (by kernel_rfl) (by kernel_rfl) fun ts hl hp => by rw [tree_ref51_Cell]; exact h ts hl hp) k

/-! narrator/narratorref51.Rune -/
def sg_ref51_Rune : Sig := ⟨19, 0, [(false, [(.int .u8)])], [(false, [((.int .i32), none)])]⟩
def sn_ref51_Rune (k : Nat) : Sig := ⟨sg_ref51_Rune.f, k, sg_ref51_Rune.args, sg_ref51_Rune.res⟩
def hd_ref51_Rune : List (FuncId × Nat × Head) := [(19, 3, ⟨[0, 3, 4], [.slot 3 true 5 false [(.int .u8)]], [4], [], []⟩)]
def pl_ref51_Rune : List (FuncId × Nat × Nat × List (Bool × Nat)) := []
noncomputable def cx_ref51_Rune : Cx := ⟨Tryd.prog, gtab, [sn_ref51_Table 0], [], hd_ref51_Rune, pl_ref51_Rune⟩
def tr_ref51_Rune : Tree := (.call 0 []
  (.loop [(.int 0)]
    (.br (.o2 .lti (.v 2) (.o1 .len (.v 1)))
      (.req (.o2 .lei (.int 0) (.v 2)) (.req (.o2 .lti (.v 2) (.o1 .len (.v 1))) (.br (.o2 .eqi (.o2 .idx (.v 1) (.v 2)) (.v 0))
        (.ret (.o1 (.wrap .i32) (.o2 (.add .i64) (.int 32) (.v 2))))
        (.back 0 [(.o2 (.add .i64) (.v 2) (.int 1))]))))
      (.ret (.int 65533)))))
set_option maxRecDepth 100000 in
theorem tree_ref51_Rune : fnTree cx_ref51_Rune 4 sg_ref51_Rune Tryd.f19 (Tryd.f19.body.getD .skip) = tr_ref51_Rune := by kernel_rfl
theorem cxok_ref51_Rune {Γ : CEnv} (hg : ∀ n, Γ.glob n = globT n) (hs : ∀ s ∈ cx_ref51_Rune.sigs, Contract Tryd.prog Γ gtab s (Γ.pre s.no) (Γ.post s.no)) : CxOk cx_ref51_Rune Γ := ⟨by kernel_rfl, hs, fun x hx => by cases hx⟩
theorem contract_ref51_Rune {Γ : CEnv} (hg : ∀ n, Γ.glob n = globT n) (hs : ∀ s ∈ cx_ref51_Rune.sigs, Contract Tryd.prog Γ gtab s (Γ.pre s.no) (Γ.post s.no)) (k : Nat) {pre : List TV → Prop} {post : List TV → TV → Prop} (h : ∀ ts, ts.length = 1 → pre ts → tr_ref51_Rune.den Γ (post ts) ts []) : Contract Tryd.prog Γ gtab (sn_ref51_Rune k) pre post :=
  Contract.renum (contract_of (cxok_ref51_Rune hg hs) 4 sg_ref51_Rune Tryd.func19 (by kernel_rfl) (by kernel_rfl) fun ts hl hp => by rw [tree_ref51_Rune]; exact h ts hl hp) k

/-! narrator/narratorref51.Characters -/
def sg_ref51_Characters : Sig := ⟨26, 0, [(false, [.str])], [(false, [((.slice false [(.int .i32)]), some 21)])]⟩
def sn_ref51_Characters (k : Nat) : Sig := ⟨sg_ref51_Characters.f, k, sg_ref51_Characters.args, sg_ref51_Characters.res⟩
def hd_ref51_Characters : List (FuncId × Nat × Head) := []
def pl_ref51_Characters : List (FuncId × Nat × Nat × List (Bool × Nat)) := []
noncomputable def cx_ref51_Characters : Cx := ⟨Tryd.prog, gtab, [sn_ref01_Decode 0, sn_ref01_Finish 1], [], hd_ref51_Characters, pl_ref51_Characters⟩
def tr_ref51_Characters : Tree := (.call 0 [(.str []), (.v 0)]
  (.call 1 [(.o1 (.proj 1) (.v 1))]
    (.req (.o2 .lei (.o1 .len (.o2 .app (.o1 (.proj 0) (.v 1)) (.v 2))) (.int 1099511627776)) (.ret (.o2 .app (.o1 (.proj 0) (.v 1)) (.v 2))))))
set_option maxRecDepth 100000 in
theorem tree_ref51_Characters : fnTree cx_ref51_Characters 4 sg_ref51_Characters Tryd.f26 (Tryd.f26.body.getD .skip) = tr_ref51_Characters := by kernel_rfl
theorem cxok_ref51_Characters {Γ : CEnv} (hg : ∀ n, Γ.glob n = globT n) (hs : ∀ s ∈ cx_ref51_Characters.sigs, Contract Tryd.prog Γ gtab s (Γ.pre s.no) (Γ.post s.no)) : CxOk cx_ref51_Characters Γ := ⟨by kernel_rfl, hs, fun x hx => by cases hx⟩
theorem contract_ref51_Characters {Γ : CEnv} (hg : ∀ n, Γ.glob n = globT n) (hs : ∀ s ∈ cx_ref51_Characters.sigs, Contract Tryd.prog Γ gtab s (Γ.pre s.no) (Γ.post s.no)) (k : Nat) {pre : List TV → Prop} {post : List TV → TV → Prop} (h : ∀ ts, ts.length = 1 → pre ts → tr_ref51_Characters.den Γ (post ts) ts []) : Contract Tryd.prog Γ gtab (sn_ref51_Characters k) pre post :=
  Contract.renum (contract_of (cxok_ref51_Characters hg hs) 4 sg_ref51_Characters Tryd.func26 (by kernel_rfl) (by kernel_rfl) fun ts hl hp => by rw [tree_ref51_Characters]; exact h ts hl hp) k

/-! narrator/narratorref51.one -/
def sg_ref51_one : Sig := ⟨27, 0, [(false, [(.int .i32)])], [(false, [((.slice false [(.int .u8)]), some 5)])]⟩
def sn_ref51_one (k : Nat) : Sig := ⟨sg_ref51_one.f, k, sg_ref51_one.args, sg_ref51_one.res⟩
def hd_ref51_one : List (FuncId × Nat × Head) := [(27, 7, ⟨[0, 5, 6, 7], [.slot 6 true 5 false [(.int .u8)]], [7], [0], []⟩)]
def pl_ref51_one : List (FuncId × Nat × Nat × List (Bool × Nat)) := []
noncomputable def cx_ref51_one : Cx := ⟨Tryd.prog, gtab, [sn_ref51_Cell 0], [], hd_ref51_one, pl_ref51_one⟩
def tr_ref51_one : Tree := (.call 0 [(.v 0)]
  (.br (.o1 (.proj 1) (.v 1))
    (.ret (.cons (.o1 (.proj 0) (.v 1)) .nil))
    (.loop [(.int 1048576), (.cons (.int 255) .nil)]
      (.br (.o2 .lti (.int 0) (.v 2))
        (.req (.o1 .no (.o2 .eqi (.v 2) (.int 0))) (.req (.o2 .lei (.int 0) (.o2 .rem (.o2 (.quo .i32) (.v 0) (.v 2)) (.int 16))) (.req (.o2 .lti (.o2 .rem (.o2 (.quo .i32) (.v 0) (.v 2)) (.int 16)) (.int 16)) (.call 0 [(.o1 (.wrap .i32) (.o2 .sidx (.str [48, 49, 50, 51, 52, 53, 54, 55, 56, 57, 97, 98, 99, 100, 101, 102]) (.o2 .rem (.o2 (.quo .i32) (.v 0) (.v 2)) (.int 16))))]
          (.req (.o2 .lei (.o1 .len (.o2 .app (.v 3) (.cons (.o1 (.proj 0) (.v 4)) .nil))) (.int 1099511627776)) (.back 0 [(.o2 (.quo .i32) (.v 2) (.int 16)), (.o2 .app (.v 3) (.cons (.o1 (.proj 0) (.v 4)) .nil))]))))))
        (.ret (.v 3))))))
set_option maxRecDepth 100000 in
theorem tree_ref51_one : fnTree cx_ref51_one 4 sg_ref51_one Tryd.f27 (Tryd.f27.body.getD .skip) = tr_ref51_one := by kernel_rfl
theorem cxok_ref51_one {Γ : CEnv} (hg : ∀ n, Γ.glob n = globT n) (hs : ∀ s ∈ cx_ref51_one.sigs, Contract Tryd.prog Γ gtab s (Γ.pre s.no) (Γ.post s.no)) : CxOk cx_ref51_one Γ := ⟨by kernel_rfl, hs, fun x hx => by cases hx⟩
theorem contract_ref51_one {Γ : CEnv} (hg : ∀ n, Γ.glob n = globT n) (hs : ∀ s ∈ cx_ref51_one.sigs, Contract Tryd.prog Γ gtab s (Γ.pre s.no) (Γ.post s.no)) (k : Nat) {pre : List TV → Prop} {post : List TV → TV → Prop} (h : ∀ ts, ts.length = 1 → pre ts → tr_ref51_one.den Γ (post ts) ts []) : Contract Tryd.prog Γ gtab (sn_ref51_one k) pre post :=
  Contract.renum (contract_of (cxok_ref51_one hg hs) 4 sg_ref51_one Tryd.func27 (by kernel_rfl) (by kernel_rfl) fun ts hl hp => by rw [tree_ref51_one]; exact h ts hl hp) k

/-! narrator/narratorref51.Cells -/
def sg_ref51_Cells : Sig := ⟨15, 0, [(false, [.str])], [(false, [((.slice false [(.int .u8)]), some 5)])]⟩
def sn_ref51_Cells (k : Nat) : Sig := ⟨sg_ref51_Cells.f, k, sg_ref51_Cells.args, sg_ref51_Cells.res⟩
def hd_ref51_Cells : List (FuncId × Nat × Head) := [(15, 4, ⟨[3, 4, 5], [.slot 4 true 21 false [(.int .i32)], .slot 3 true 5 false [(.int .u8)]], [5], [1], []⟩)]
def pl_ref51_Cells : List (FuncId × Nat × Nat × List (Bool × Nat)) := []
noncomputable def cx_ref51_Cells : Cx := ⟨Tryd.prog, gtab, [sn_ref51_Characters 0, sn_ref51_one 1], [], hd_ref51_Cells, pl_ref51_Cells⟩
def tr_ref51_Cells : Tree := (.call 0 [(.v 0)]
  (.loop [(.int 0), .nil]
    (.br (.o2 .lti (.v 2) (.o1 .len (.v 1)))
      (.req (.o2 .lei (.int 0) (.v 2)) (.req (.o2 .lti (.v 2) (.o1 .len (.v 1))) (.call 1 [(.o2 .idx (.v 1) (.v 2))]
        (.req (.o2 .lei (.o1 .len (.o2 .app (.v 3) (.v 4))) (.int 1099511627776)) (.back 0 [(.o2 (.add .i64) (.v 2) (.int 1)), (.o2 .app (.v 3) (.v 4))])))))
      (.ret (.v 3)))))
set_option maxRecDepth 100000 in
theorem tree_ref51_Cells : fnTree cx_ref51_Cells 4 sg_ref51_Cells Tryd.f15 (Tryd.f15.body.getD .skip) = tr_ref51_Cells := by kernel_rfl
theorem cxok_ref51_Cells {Γ : CEnv} (hg : ∀ n, Γ.glob n = globT n) (hs : ∀ s ∈ cx_ref51_Cells.sigs, Contract Tryd.prog Γ gtab s (Γ.pre s.no) (Γ.post s.no)) : CxOk cx_ref51_Cells Γ := ⟨by kernel_rfl, hs, fun x hx => by cases hx⟩
theorem contract_ref51_Cells {Γ : CEnv} (hg : ∀ n, Γ.glob n = globT n) (hs : ∀ s ∈ cx_ref51_Cells.sigs, Contract Tryd.prog Γ gtab s (Γ.pre s.no) (Γ.post s.no)) (k : Nat) {pre : List TV → Prop} {post : List TV → TV → Prop} (h : ∀ ts, ts.length = 1 → pre ts → tr_ref51_Cells.den Γ (post ts) ts []) : Contract Tryd.prog Γ gtab (sn_ref51_Cells k) pre post :=
  Contract.renum (contract_of (cxok_ref51_Cells hg hs) 4 sg_ref51_Cells Tryd.func15 (by kernel_rfl) (by kernel_rfl) fun ts hl hp => by rw [tree_ref51_Cells]; exact h ts hl hp) k

/-! narrator/narratorref51.digit -/
def sg_ref51_digit : Sig := ⟨31, 0, [(false, [(.int .u8)])], [(false, [((.int .i32), none)])]⟩
def sn_ref51_digit (k : Nat) : Sig := ⟨sg_ref51_digit.f, k, sg_ref51_digit.args, sg_ref51_digit.res⟩
def hd_ref51_digit : List (FuncId × Nat × Head) := []
def pl_ref51_digit : List (FuncId × Nat × Nat × List (Bool × Nat)) := []
noncomputable def cx_ref51_digit : Cx := ⟨Tryd.prog, gtab, [sn_ref51_Rune 0], [], hd_ref51_digit, pl_ref51_digit⟩
def tr_ref51_digit : Tree := (.call 0 [(.v 0)]
  (.br (.o2 .lei (.int 48) (.v 1))
    (.br (.o2 .lei (.v 1) (.int 57))
      (.ret (.o2 (.sub .i32) (.v 1) (.int 48)))
      (.br (.o2 .lei (.int 97) (.v 1))
        (.br (.o2 .lei (.v 1) (.int 102))
          (.ret (.o2 (.add .i32) (.o2 (.sub .i32) (.v 1) (.int 97)) (.int 10)))
          (.ret (.int (-1))))
        (.ret (.int (-1)))))
    (.br (.o2 .lei (.int 97) (.v 1))
      (.br (.o2 .lei (.v 1) (.int 102))
        (.ret (.o2 (.add .i32) (.o2 (.sub .i32) (.v 1) (.int 97)) (.int 10)))
        (.ret (.int (-1))))
      (.ret (.int (-1))))))
set_option maxRecDepth 100000 in
theorem tree_ref51_digit : fnTree cx_ref51_digit 4 sg_ref51_digit Tryd.f31 (Tryd.f31.body.getD .skip) = tr_ref51_digit := by kernel_rfl
theorem cxok_ref51_digit {Γ : CEnv} (hg : ∀ n, Γ.glob n = globT n) (hs : ∀ s ∈ cx_ref51_digit.sigs, Contract Tryd.prog Γ gtab s (Γ.pre s.no) (Γ.post s.no)) : CxOk cx_ref51_digit Γ := ⟨by kernel_rfl, hs, fun x hx => by cases hx⟩
theorem contract_ref51_digit {Γ : CEnv} (hg : ∀ n, Γ.glob n = globT n) (hs : ∀ s ∈ cx_ref51_digit.sigs, Contract Tryd.prog Γ gtab s (Γ.pre s.no) (Γ.post s.no)) (k : Nat) {pre : List TV → Prop} {post : List TV → TV → Prop} (h : ∀ ts, ts.length = 1 → pre ts → tr_ref51_digit.den Γ (post ts) ts []) : Contract Tryd.prog Γ gtab (sn_ref51_digit k) pre post :=
  Contract.renum (contract_of (cxok_ref51_digit hg hs) 4 sg_ref51_digit Tryd.func31 (by kernel_rfl) (by kernel_rfl) fun ts hl hp => by rw [tree_ref51_digit]; exact h ts hl hp) k

/-! narrator/narratorref51.Text -/
def sg_ref51_Text : Sig := ⟨22, 0, [(false, [(.slice false [(.int .u8)])])], [(false, [(.str, none)]), (false, [((.int .i64), none)])]⟩
def sn_ref51_Text (k : Nat) : Sig := ⟨sg_ref51_Text.f, k, sg_ref51_Text.args, sg_ref51_Text.res⟩
def hd_ref51_Text : List (FuncId × Nat × Head) := [(22, 3, ⟨[0, 4, 5], [.slot 4 true 21 false [(.int .i32)]], [5], [0], []⟩), (22, 14, ⟨[0, 4, 5, 7, 8], [.slot 4 true 21 false [(.int .i32)]], [8, 7], [], []⟩)]
def pl_ref51_Text : List (FuncId × Nat × Nat × List (Bool × Nat)) := []
noncomputable def cx_ref51_Text : Cx := ⟨Tryd.prog, gtab, [sn_ref01_Encode 0, sn_ref51_Cell 1, sn_ref51_Rune 2, sn_ref51_digit 3], [], hd_ref51_Text, pl_ref51_Text⟩
def tr_ref51_Text : Tree := (.loop [(.int 0), .nil]
  (.br (.o2 .lti (.v 1) (.o1 .len (.v 0)))
    (.req (.o2 .lei (.int 0) (.v 1)) (.req (.o2 .lti (.v 1) (.o1 .len (.v 0))) (.br (.o1 .no (.o2 .eqi (.o2 .idx (.v 0) (.v 1)) (.int 255)))
      (.req (.o2 .lei (.int 0) (.v 1)) (.req (.o2 .lti (.v 1) (.o1 .len (.v 0))) (.call 2 [(.o2 .idx (.v 0) (.v 1))]
        (.br (.o2 .eqi (.v 3) (.int 65533))
          (.ret (.o1 .agg (.cons (.str []) (.cons (.int 17) .nil))))
          (.req (.o2 .lei (.o1 .len (.o2 .app (.v 2) (.cons (.v 3) .nil))) (.int 1099511627776)) (.back 0 [(.o2 (.add .i64) (.v 1) (.int 1)), (.o2 .app (.v 2) (.cons (.v 3) .nil))]))))))
      (.br (.o2 .lei (.o1 .len (.v 0)) (.o2 (.add .i64) (.v 1) (.int 6)))
        (.ret (.o1 .agg (.cons (.str []) (.cons (.int 17) .nil))))
        (.loop [(.int 0), (.int 1)]
          (.br (.o2 .lti (.v 4) (.int 7))
            (.req (.o2 .lei (.int 0) (.o2 (.add .i64) (.v 1) (.v 4))) (.req (.o2 .lti (.o2 (.add .i64) (.v 1) (.v 4)) (.o1 .len (.v 0))) (.call 3 [(.o2 .idx (.v 0) (.o2 (.add .i64) (.v 1) (.v 4)))]
              (.br (.o2 .lti (.v 5) (.int 0))
                (.ret (.o1 .agg (.cons (.str []) (.cons (.int 17) .nil))))
                (.back 1 [(.o2 (.add .i32) (.o2 (.mul .i32) (.int 16) (.v 3)) (.v 5)), (.o2 (.add .i64) (.v 4) (.int 1))])))))
            (.call 1 [(.v 3)]
              (.br (.o1 (.proj 1) (.v 5))
                (.ret (.o1 .agg (.cons (.str []) (.cons (.int 17) .nil))))
                (.br (.o2 .lti (.int 1114111) (.v 3))
                  (.ret (.o1 .agg (.cons (.str []) (.cons (.int 17) .nil))))
                  (.br (.o2 .lei (.int 55296) (.v 3))
                    (.br (.o2 .lei (.v 3) (.int 57343))
                      (.ret (.o1 .agg (.cons (.str []) (.cons (.int 17) .nil))))
                      (.req (.o2 .lei (.o1 .len (.o2 .app (.v 2) (.cons (.v 3) .nil))) (.int 1099511627776)) (.back 0 [(.o2 (.add .i64) (.o2 (.add .i64) (.v 1) (.int 6)) (.int 1)), (.o2 .app (.v 2) (.cons (.v 3) .nil))])))
                    (.req (.o2 .lei (.o1 .len (.o2 .app (.v 2) (.cons (.v 3) .nil))) (.int 1099511627776)) (.back 0 [(.o2 (.add .i64) (.o2 (.add .i64) (.v 1) (.int 6)) (.int 1)), (.o2 .app (.v 2) (.cons (.v 3) .nil))]))))))))))))
    (.call 0 [(.v 2)]
      (.ret (.o1 .agg (.cons (.v 3) (.cons (.int 0) .nil)))))))
set_option maxRecDepth 100000 in
theorem tree_ref51_Text : fnTree cx_ref51_Text 4 sg_ref51_Text Tryd.f22 (Tryd.f22.body.getD .skip) = tr_ref51_Text := by kernel_rfl
theorem cxok_ref51_Text {Γ : CEnv} (hg : ∀ n, Γ.glob n = globT n) (hs : ∀ s ∈ cx_ref51_Text.sigs, Contract Tryd.prog Γ gtab s (Γ.pre s.no) (Γ.post s.no)) : CxOk cx_ref51_Text Γ := ⟨by kernel_rfl, hs, fun x hx => by cases hx⟩
theorem contract_ref51_Text {Γ : CEnv} (hg : ∀ n, Γ.glob n = globT n) (hs : ∀ s ∈ cx_ref51_Text.sigs, Contract Tryd.prog Γ gtab s (Γ.pre s.no) (Γ.post s.no)) (k : Nat) {pre : List TV → Prop} {post : List TV → TV → Prop} (h : ∀ ts, ts.length = 1 → pre ts → tr_ref51_Text.den Γ (post ts) ts []) : Contract Tryd.prog Γ gtab (sn_ref51_Text k) pre post :=
  Contract.renum (contract_of (cxok_ref51_Text hg hs) 4 sg_ref51_Text Tryd.func22 (by kernel_rfl) (by kernel_rfl) fun ts hl hp => by rw [tree_ref51_Text]; exact h ts hl hp) k

/-! narrator/narratorref51.Same -/
def sg_ref51_Same : Sig := ⟨13, 0, [(false, [(.slice false [(.int .u8)])]), (false, [(.slice false [(.int .u8)])])], [(false, [(.bool, none)])]⟩
def sn_ref51_Same (k : Nat) : Sig := ⟨sg_ref51_Same.f, k, sg_ref51_Same.args, sg_ref51_Same.res⟩
def hd_ref51_Same : List (FuncId × Nat × Head) := [(13, 4, ⟨[0, 1, 5], [], [5], [], []⟩)]
def pl_ref51_Same : List (FuncId × Nat × Nat × List (Bool × Nat)) := [(13, (6, (9, [(true, 0), (true, 1), (true, 2), (true, 3), (true, 4), (true, 5), (true, 6), (true, 7), (true, 8)])))]
noncomputable def cx_ref51_Same : Cx := ⟨Tryd.prog, gtab, [], [], hd_ref51_Same, pl_ref51_Same⟩
def tr_ref51_Same : Tree := (.br (.o1 .no (.o2 .eqi (.o1 .len (.v 0)) (.o1 .len (.v 1))))
  (.ret (.bool false))
  (.loop [(.int 0)]
    (.br (.o2 .lti (.v 2) (.o1 .len (.v 0)))
      (.req (.o2 .lei (.int 0) (.v 2)) (.req (.o2 .lti (.v 2) (.o1 .len (.v 0))) (.req (.o2 .lei (.int 0) (.v 2)) (.req (.o2 .lti (.v 2) (.o1 .len (.v 1))) (.br (.o1 .no (.o2 .eqi (.o2 .idx (.v 0) (.v 2)) (.o2 .idx (.v 1) (.v 2))))
        (.ret (.bool false))
        (.back 0 [(.o2 (.add .i64) (.v 2) (.int 1))]))))))
      (.ret (.bool true)))))
set_option maxRecDepth 100000 in
theorem tree_ref51_Same : fnTree cx_ref51_Same 4 sg_ref51_Same Tryd.f13 (Tryd.f13.body.getD .skip) = tr_ref51_Same := by kernel_rfl
theorem cxok_ref51_Same {Γ : CEnv} (hg : ∀ n, Γ.glob n = globT n) (hs : ∀ s ∈ cx_ref51_Same.sigs, Contract Tryd.prog Γ gtab s (Γ.pre s.no) (Γ.post s.no)) : CxOk cx_ref51_Same Γ := ⟨by kernel_rfl, hs, fun x hx => by cases hx⟩
theorem contract_ref51_Same {Γ : CEnv} (hg : ∀ n, Γ.glob n = globT n) (hs : ∀ s ∈ cx_ref51_Same.sigs, Contract Tryd.prog Γ gtab s (Γ.pre s.no) (Γ.post s.no)) (k : Nat) {pre : List TV → Prop} {post : List TV → TV → Prop} (h : ∀ ts, ts.length = 2 → pre ts → tr_ref51_Same.den Γ (post ts) ts []) : Contract Tryd.prog Γ gtab (sn_ref51_Same k) pre post :=
  Contract.renum (contract_of (cxok_ref51_Same hg hs) 4 sg_ref51_Same Tryd.func13 (by kernel_rfl) (by kernel_rfl) fun ts hl hp => by rw [tree_ref51_Same]; exact h ts hl hp) k

/-! narrator/narratorlaw51.awake -/
def sg_law51_awake : Sig := ⟨12, 0, [], [(false, [(.bool, none)])]⟩
def sn_law51_awake (k : Nat) : Sig := ⟨sg_law51_awake.f, k, sg_law51_awake.args, sg_law51_awake.res⟩
def hd_law51_awake : List (FuncId × Nat × Head) := []
def pl_law51_awake : List (FuncId × Nat × Nat × List (Bool × Nat)) := []
noncomputable def cx_law51_awake : Cx := ⟨Tryd.prog, gtab, [sn_computerbraille_Cells 0, sn_ref51_Same 1], [], hd_law51_awake, pl_law51_awake⟩
def tr_law51_awake : Tree := (.call 0 [(.str [97, 49, 66])]
  (.call 1 [(.v 0), (.cons (.int 1) (.cons (.int 2) (.cons (.int 67) .nil)))]
    (.br (.v 1)
      (.call 0 [(.str [195, 169])]
        (.call 1 [(.v 2), (.cons (.int 255) (.cons (.int 52) (.cons (.int 52) (.cons (.int 52) (.cons (.int 52) (.cons (.int 17) (.cons (.int 20) .nil)))))))]
          (.ret (.v 3))))
      (.ret (.bool false)))))
set_option maxRecDepth 100000 in
theorem tree_law51_awake : fnTree cx_law51_awake 4 sg_law51_awake Tryd.f12 (Tryd.f12.body.getD .skip) = tr_law51_awake := by kernel_rfl
theorem cxok_law51_awake {Γ : CEnv} (hg : ∀ n, Γ.glob n = globT n) (hs : ∀ s ∈ cx_law51_awake.sigs, Contract Tryd.prog Γ gtab s (Γ.pre s.no) (Γ.post s.no)) : CxOk cx_law51_awake Γ := ⟨by kernel_rfl, hs, fun x hx => by cases hx⟩
theorem contract_law51_awake {Γ : CEnv} (hg : ∀ n, Γ.glob n = globT n) (hs : ∀ s ∈ cx_law51_awake.sigs, Contract Tryd.prog Γ gtab s (Γ.pre s.no) (Γ.post s.no)) (k : Nat) {pre : List TV → Prop} {post : List TV → TV → Prop} (h : ∀ ts, ts.length = 0 → pre ts → tr_law51_awake.den Γ (post ts) ts []) : Contract Tryd.prog Γ gtab (sn_law51_awake k) pre post :=
  Contract.renum (contract_of (cxok_law51_awake hg hs) 4 sg_law51_awake Tryd.func12 (by kernel_rfl) (by kernel_rfl) fun ts hl hp => by rw [tree_law51_awake]; exact h ts hl hp) k

/-! narrator/narratorlaw51.ComputerbrailleTable -/
def sg_law51_ComputerbrailleTable : Sig := ⟨5, 0, [(false, [(.int .i32)]), (false, [(.int .u8)])], [(false, [(.bool, none)])]⟩
def sn_law51_ComputerbrailleTable (k : Nat) : Sig := ⟨sg_law51_ComputerbrailleTable.f, k, sg_law51_ComputerbrailleTable.args, sg_law51_ComputerbrailleTable.res⟩
def hd_law51_ComputerbrailleTable : List (FuncId × Nat × Head) := []
def pl_law51_ComputerbrailleTable : List (FuncId × Nat × Nat × List (Bool × Nat)) := []
noncomputable def cx_law51_ComputerbrailleTable : Cx := ⟨Tryd.prog, gtab, [sn_computerbraille_Cell 0, sn_computerbraille_Rune 1, sn_ref51_Cell 2, sn_ref51_Rune 3, sn_law51_awake 4], [], hd_law51_ComputerbrailleTable, pl_law51_ComputerbrailleTable⟩
def tr_law51_ComputerbrailleTable : Tree := (.call 0 [(.v 0)]
  (.call 2 [(.v 0)]
    (.br (.o2 .eqi (.o1 (.proj 0) (.v 2)) (.o1 (.proj 0) (.v 3)))
      (.br (.o2 .eqb (.o1 (.proj 1) (.v 2)) (.o1 (.proj 1) (.v 3)))
        (.call 1 [(.v 1)]
          (.call 3 [(.v 1)]
            (.br (.o2 .eqi (.v 4) (.v 5))
              (.call 4 []
                (.ret (.v 6)))
              (.ret (.bool false)))))
        (.ret (.bool false)))
      (.ret (.bool false)))))
set_option maxRecDepth 100000 in
theorem tree_law51_ComputerbrailleTable : fnTree cx_law51_ComputerbrailleTable 4 sg_law51_ComputerbrailleTable Tryd.f5 (Tryd.f5.body.getD .skip) = tr_law51_ComputerbrailleTable := by kernel_rfl
theorem cxok_law51_ComputerbrailleTable {Γ : CEnv} (hg : ∀ n, Γ.glob n = globT n) (hs : ∀ s ∈ cx_law51_ComputerbrailleTable.sigs, Contract Tryd.prog Γ gtab s (Γ.pre s.no) (Γ.post s.no)) : CxOk cx_law51_ComputerbrailleTable Γ := ⟨by kernel_rfl, hs, fun x hx => by cases hx⟩
theorem contract_law51_ComputerbrailleTable {Γ : CEnv} (hg : ∀ n, Γ.glob n = globT n) (hs : ∀ s ∈ cx_law51_ComputerbrailleTable.sigs, Contract Tryd.prog Γ gtab s (Γ.pre s.no) (Γ.post s.no)) (k : Nat) {pre : List TV → Prop} {post : List TV → TV → Prop} (h : ∀ ts, ts.length = 2 → pre ts → tr_law51_ComputerbrailleTable.den Γ (post ts) ts []) : Contract Tryd.prog Γ gtab (sn_law51_ComputerbrailleTable k) pre post :=
  Contract.renum (contract_of (cxok_law51_ComputerbrailleTable hg hs) 4 sg_law51_ComputerbrailleTable Tryd.func5 (by kernel_rfl) (by kernel_rfl) fun ts hl hp => by rw [tree_law51_ComputerbrailleTable]; exact h ts hl hp) k

/-! narrator/narratorlaw51.ComputerbrailleCells -/
def sg_law51_ComputerbrailleCells : Sig := ⟨3, 0, [(false, [.str])], [(false, [(.bool, none)])]⟩
def sn_law51_ComputerbrailleCells (k : Nat) : Sig := ⟨sg_law51_ComputerbrailleCells.f, k, sg_law51_ComputerbrailleCells.args, sg_law51_ComputerbrailleCells.res⟩
def hd_law51_ComputerbrailleCells : List (FuncId × Nat × Head) := []
def pl_law51_ComputerbrailleCells : List (FuncId × Nat × Nat × List (Bool × Nat)) := []
noncomputable def cx_law51_ComputerbrailleCells : Cx := ⟨Tryd.prog, gtab, [sn_computerbraille_Cells 0, sn_ref51_Cells 1, sn_ref51_Same 2, sn_law51_awake 3], [], hd_law51_ComputerbrailleCells, pl_law51_ComputerbrailleCells⟩
def tr_law51_ComputerbrailleCells : Tree := (.br (.o2 .lti (.int 200) (.o1 .slen (.v 0)))
  (.call 3 []
    (.ret (.v 1)))
  (.call 0 [(.v 0)]
    (.call 1 [(.v 0)]
      (.call 2 [(.v 1), (.v 2)]
        (.br (.v 3)
          (.call 3 []
            (.ret (.v 4)))
          (.ret (.bool false)))))))
set_option maxRecDepth 100000 in
theorem tree_law51_ComputerbrailleCells : fnTree cx_law51_ComputerbrailleCells 4 sg_law51_ComputerbrailleCells Tryd.f3 (Tryd.f3.body.getD .skip) = tr_law51_ComputerbrailleCells := by kernel_rfl
theorem cxok_law51_ComputerbrailleCells {Γ : CEnv} (hg : ∀ n, Γ.glob n = globT n) (hs : ∀ s ∈ cx_law51_ComputerbrailleCells.sigs, Contract Tryd.prog Γ gtab s (Γ.pre s.no) (Γ.post s.no)) : CxOk cx_law51_ComputerbrailleCells Γ := ⟨by kernel_rfl, hs, fun x hx => by cases hx⟩
theorem contract_law51_ComputerbrailleCells {Γ : CEnv} (hg : ∀ n, Γ.glob n = globT n) (hs : ∀ s ∈ cx_law51_ComputerbrailleCells.sigs, Contract Tryd.prog Γ gtab s (Γ.pre s.no) (Γ.post s.no)) (k : Nat) {pre : List TV → Prop} {post : List TV → TV → Prop} (h : ∀ ts, ts.length = 1 → pre ts → tr_law51_ComputerbrailleCells.den Γ (post ts) ts []) : Contract Tryd.prog Γ gtab (sn_law51_ComputerbrailleCells k) pre post :=
  Contract.renum (contract_of (cxok_law51_ComputerbrailleCells hg hs) 4 sg_law51_ComputerbrailleCells Tryd.func3 (by kernel_rfl) (by kernel_rfl) fun ts hl hp => by rw [tree_law51_ComputerbrailleCells]; exact h ts hl hp) k

/-! narrator/narratorlaw51.ComputerbrailleBijection -/
def sg_law51_ComputerbrailleBijection : Sig := ⟨6, 0, [(false, [(.int .i32)]), (false, [(.int .i32)]), (false, [(.int .u8)])], [(false, [(.bool, none)])]⟩
def sn_law51_ComputerbrailleBijection (k : Nat) : Sig := ⟨sg_law51_ComputerbrailleBijection.f, k, sg_law51_ComputerbrailleBijection.args, sg_law51_ComputerbrailleBijection.res⟩
def hd_law51_ComputerbrailleBijection : List (FuncId × Nat × Head) := []
def pl_law51_ComputerbrailleBijection : List (FuncId × Nat × Nat × List (Bool × Nat)) := []
noncomputable def cx_law51_ComputerbrailleBijection : Cx := ⟨Tryd.prog, gtab, [sn_computerbraille_Cell 0, sn_computerbraille_Rune 1, sn_law51_awake 2], [], hd_law51_ComputerbrailleBijection, pl_law51_ComputerbrailleBijection⟩
def tr_law51_ComputerbrailleBijection : Tree := (.call 0 [(.v 0)]
  (.call 0 [(.v 1)]
    (.br (.o2 .lei (.int 32) (.v 0))
      (.br (.o1 .no (.o2 .eqb (.o1 (.proj 1) (.v 3)) (.o2 .lei (.v 0) (.int 126))))
        (.ret (.bool false))
        (.br (.o1 (.proj 1) (.v 3))
          (.br (.o2 .eqi (.o1 (.proj 0) (.v 3)) (.int 255))
            (.ret (.bool false))
            (.call 1 [(.o1 (.proj 0) (.v 3))]
              (.br (.o1 .no (.o2 .eqi (.v 5) (.v 0)))
                (.ret (.bool false))
                (.br (.o1 (.proj 1) (.v 3))
                  (.br (.o1 (.proj 1) (.v 4))
                    (.br (.o1 .no (.o2 .eqb (.o2 .eqi (.o1 (.proj 0) (.v 3)) (.o1 (.proj 0) (.v 4))) (.o2 .eqi (.v 0) (.v 1))))
                      (.ret (.bool false))
                      (.call 1 [(.v 2)]
                        (.br (.o2 .eqi (.v 6) (.int 65533))
                          (.call 2 []
                            (.ret (.v 7)))
                          (.call 0 [(.v 6)]
                            (.br (.o1 (.proj 1) (.v 7))
                              (.br (.o2 .eqi (.o1 (.proj 0) (.v 7)) (.v 2))
                                (.call 2 []
                                  (.ret (.v 8)))
                                (.ret (.bool false)))
                              (.ret (.bool false)))))))
                    (.call 1 [(.v 2)]
                      (.br (.o2 .eqi (.v 6) (.int 65533))
                        (.call 2 []
                          (.ret (.v 7)))
                        (.call 0 [(.v 6)]
                          (.br (.o1 (.proj 1) (.v 7))
                            (.br (.o2 .eqi (.o1 (.proj 0) (.v 7)) (.v 2))
                              (.call 2 []
                                (.ret (.v 8)))
                              (.ret (.bool false)))
                            (.ret (.bool false)))))))
                  (.call 1 [(.v 2)]
                    (.br (.o2 .eqi (.v 6) (.int 65533))
                      (.call 2 []
                        (.ret (.v 7)))
                      (.call 0 [(.v 6)]
                        (.br (.o1 (.proj 1) (.v 7))
                          (.br (.o2 .eqi (.o1 (.proj 0) (.v 7)) (.v 2))
                            (.call 2 []
                              (.ret (.v 8)))
                            (.ret (.bool false)))
                          (.ret (.bool false))))))))))
          (.br (.o1 (.proj 1) (.v 3))
            (.br (.o1 (.proj 1) (.v 4))
              (.br (.o1 .no (.o2 .eqb (.o2 .eqi (.o1 (.proj 0) (.v 3)) (.o1 (.proj 0) (.v 4))) (.o2 .eqi (.v 0) (.v 1))))
                (.ret (.bool false))
                (.call 1 [(.v 2)]
                  (.br (.o2 .eqi (.v 5) (.int 65533))
                    (.call 2 []
                      (.ret (.v 6)))
                    (.call 0 [(.v 5)]
                      (.br (.o1 (.proj 1) (.v 6))
                        (.br (.o2 .eqi (.o1 (.proj 0) (.v 6)) (.v 2))
                          (.call 2 []
                            (.ret (.v 7)))
                          (.ret (.bool false)))
                        (.ret (.bool false)))))))
              (.call 1 [(.v 2)]
                (.br (.o2 .eqi (.v 5) (.int 65533))
                  (.call 2 []
                    (.ret (.v 6)))
                  (.call 0 [(.v 5)]
                    (.br (.o1 (.proj 1) (.v 6))
                      (.br (.o2 .eqi (.o1 (.proj 0) (.v 6)) (.v 2))
                        (.call 2 []
                          (.ret (.v 7)))
                        (.ret (.bool false)))
                      (.ret (.bool false)))))))
            (.call 1 [(.v 2)]
              (.br (.o2 .eqi (.v 5) (.int 65533))
                (.call 2 []
                  (.ret (.v 6)))
                (.call 0 [(.v 5)]
                  (.br (.o1 (.proj 1) (.v 6))
                    (.br (.o2 .eqi (.o1 (.proj 0) (.v 6)) (.v 2))
                      (.call 2 []
                        (.ret (.v 7)))
                      (.ret (.bool false)))
                    (.ret (.bool false)))))))))
      (.br (.o1 .no (.o2 .eqb (.o1 (.proj 1) (.v 3)) (.bool false)))
        (.ret (.bool false))
        (.br (.o1 (.proj 1) (.v 3))
          (.br (.o2 .eqi (.o1 (.proj 0) (.v 3)) (.int 255))
            (.ret (.bool false))
            (.call 1 [(.o1 (.proj 0) (.v 3))]
              (.br (.o1 .no (.o2 .eqi (.v 5) (.v 0)))
                (.ret (.bool false))
                (.br (.o1 (.proj 1) (.v 3))
                  (.br (.o1 (.proj 1) (.v 4))
                    (.br (.o1 .no (.o2 .eqb (.o2 .eqi (.o1 (.proj 0) (.v 3)) (.o1 (.proj 0) (.v 4))) (.o2 .eqi (.v 0) (.v 1))))
                      (.ret (.bool false))
                      (.call 1 [(.v 2)]
                        (.br (.o2 .eqi (.v 6) (.int 65533))
                          (.call 2 []
                            (.ret (.v 7)))
                          (.call 0 [(.v 6)]
                            (.br (.o1 (.proj 1) (.v 7))
                              (.br (.o2 .eqi (.o1 (.proj 0) (.v 7)) (.v 2))
                                (.call 2 []
                                  (.ret (.v 8)))
                                (.ret (.bool false)))
                              (.ret (.bool false)))))))
                    (.call 1 [(.v 2)]
                      (.br (.o2 .eqi (.v 6) (.int 65533))
                        (.call 2 []
                          (.ret (.v 7)))
                        (.call 0 [(.v 6)]
                          (.br (.o1 (.proj 1) (.v 7))
                            (.br (.o2 .eqi (.o1 (.proj 0) (.v 7)) (.v 2))
                              (.call 2 []
                                (.ret (.v 8)))
                              (.ret (.bool false)))
                            (.ret (.bool false)))))))
                  (.call 1 [(.v 2)]
                    (.br (.o2 .eqi (.v 6) (.int 65533))
                      (.call 2 []
                        (.ret (.v 7)))
                      (.call 0 [(.v 6)]
                        (.br (.o1 (.proj 1) (.v 7))
                          (.br (.o2 .eqi (.o1 (.proj 0) (.v 7)) (.v 2))
                            (.call 2 []
                              (.ret (.v 8)))
                            (.ret (.bool false)))
                          (.ret (.bool false))))))))))
          (.br (.o1 (.proj 1) (.v 3))
            (.br (.o1 (.proj 1) (.v 4))
              (.br (.o1 .no (.o2 .eqb (.o2 .eqi (.o1 (.proj 0) (.v 3)) (.o1 (.proj 0) (.v 4))) (.o2 .eqi (.v 0) (.v 1))))
                (.ret (.bool false))
                (.call 1 [(.v 2)]
                  (.br (.o2 .eqi (.v 5) (.int 65533))
                    (.call 2 []
                      (.ret (.v 6)))
                    (.call 0 [(.v 5)]
                      (.br (.o1 (.proj 1) (.v 6))
                        (.br (.o2 .eqi (.o1 (.proj 0) (.v 6)) (.v 2))
                          (.call 2 []
                            (.ret (.v 7)))
                          (.ret (.bool false)))
                        (.ret (.bool false)))))))
              (.call 1 [(.v 2)]
                (.br (.o2 .eqi (.v 5) (.int 65533))
                  (.call 2 []
                    (.ret (.v 6)))
                  (.call 0 [(.v 5)]
                    (.br (.o1 (.proj 1) (.v 6))
                      (.br (.o2 .eqi (.o1 (.proj 0) (.v 6)) (.v 2))
                        (.call 2 []
                          (.ret (.v 7)))
                        (.ret (.bool false)))
                      (.ret (.bool false)))))))
            (.call 1 [(.v 2)]
              (.br (.o2 .eqi (.v 5) (.int 65533))
                (.call 2 []
                  (.ret (.v 6)))
                (.call 0 [(.v 5)]
                  (.br (.o1 (.proj 1) (.v 6))
                    (.br (.o2 .eqi (.o1 (.proj 0) (.v 6)) (.v 2))
                      (.call 2 []
                        (.ret (.v 7)))
                      (.ret (.bool false)))
                    (.ret (.bool false))))))))))))
set_option maxRecDepth 100000 in
theorem tree_law51_ComputerbrailleBijection : fnTree cx_law51_ComputerbrailleBijection 4 sg_law51_ComputerbrailleBijection Tryd.f6 (Tryd.f6.body.getD .skip) = tr_law51_ComputerbrailleBijection := by kernel_rfl
theorem cxok_law51_ComputerbrailleBijection {Γ : CEnv} (hg : ∀ n, Γ.glob n = globT n) (hs : ∀ s ∈ cx_law51_ComputerbrailleBijection.sigs, Contract Tryd.prog Γ gtab s (Γ.pre s.no) (Γ.post s.no)) : CxOk cx_law51_ComputerbrailleBijection Γ := ⟨by kernel_rfl, hs, fun x hx => by cases hx⟩
theorem contract_law51_ComputerbrailleBijection {Γ : CEnv} (hg : ∀ n, Γ.glob n = globT n) (hs : ∀ s ∈ cx_law51_ComputerbrailleBijection.sigs, Contract Tryd.prog Γ gtab s (Γ.pre s.no) (Γ.post s.no)) (k : Nat) {pre : List TV → Prop} {post : List TV → TV → Prop} (h : ∀ ts, ts.length = 3 → pre ts → tr_law51_ComputerbrailleBijection.den Γ (post ts) ts []) : Contract Tryd.prog Γ gtab (sn_law51_ComputerbrailleBijection k) pre post :=
  Contract.renum (contract_of (cxok_law51_ComputerbrailleBijection hg hs) 4 sg_law51_ComputerbrailleBijection Tryd.func6 (by kernel_rfl) (by kernel_rfl) fun ts hl hp => by rw [tree_law51_ComputerbrailleBijection]; exact h ts hl hp) k

/-! narrator/narratorlaw51.ComputerbrailleCapitals -/
def sg_law51_ComputerbrailleCapitals : Sig := ⟨4, 0, [(false, [(.int .u8)])], [(false, [(.bool, none)])]⟩
def sn_law51_ComputerbrailleCapitals (k : Nat) : Sig := ⟨sg_law51_ComputerbrailleCapitals.f, k, sg_law51_ComputerbrailleCapitals.args, sg_law51_ComputerbrailleCapitals.res⟩
def hd_law51_ComputerbrailleCapitals : List (FuncId × Nat × Head) := []
def pl_law51_ComputerbrailleCapitals : List (FuncId × Nat × Nat × List (Bool × Nat)) := []
noncomputable def cx_law51_ComputerbrailleCapitals : Cx := ⟨Tryd.prog, gtab, [sn_computerbraille_Cell 0, sn_law51_awake 1], [], hd_law51_ComputerbrailleCapitals, pl_law51_ComputerbrailleCapitals⟩
def tr_law51_ComputerbrailleCapitals : Tree := (.call 0 [(.o2 (.add .i32) (.int 97) (.o1 (.wrap .i32) (.o2 .rem (.v 0) (.int 26))))]
  (.call 0 [(.o2 (.add .i32) (.int 65) (.o1 (.wrap .i32) (.o2 .rem (.v 0) (.int 26))))]
    (.br (.o1 (.proj 1) (.v 1))
      (.br (.o1 (.proj 1) (.v 2))
        (.br (.o2 .lti (.o1 (.proj 0) (.v 1)) (.int 64))
          (.br (.o2 .eqi (.o1 (.proj 0) (.v 2)) (.o2 (.add .u8) (.o1 (.proj 0) (.v 1)) (.int 64)))
            (.call 1 []
              (.ret (.v 3)))
            (.ret (.bool false)))
          (.ret (.bool false)))
        (.ret (.bool false)))
      (.ret (.bool false)))))
set_option maxRecDepth 100000 in
theorem tree_law51_ComputerbrailleCapitals : fnTree cx_law51_ComputerbrailleCapitals 4 sg_law51_ComputerbrailleCapitals Tryd.f4 (Tryd.f4.body.getD .skip) = tr_law51_ComputerbrailleCapitals := by kernel_rfl
theorem cxok_law51_ComputerbrailleCapitals {Γ : CEnv} (hg : ∀ n, Γ.glob n = globT n) (hs : ∀ s ∈ cx_law51_ComputerbrailleCapitals.sigs, Contract Tryd.prog Γ gtab s (Γ.pre s.no) (Γ.post s.no)) : CxOk cx_law51_ComputerbrailleCapitals Γ := ⟨by kernel_rfl, hs, fun x hx => by cases hx⟩
theorem contract_law51_ComputerbrailleCapitals {Γ : CEnv} (hg : ∀ n, Γ.glob n = globT n) (hs : ∀ s ∈ cx_law51_ComputerbrailleCapitals.sigs, Contract Tryd.prog Γ gtab s (Γ.pre s.no) (Γ.post s.no)) (k : Nat) {pre : List TV → Prop} {post : List TV → TV → Prop} (h : ∀ ts, ts.length = 1 → pre ts → tr_law51_ComputerbrailleCapitals.den Γ (post ts) ts []) : Contract Tryd.prog Γ gtab (sn_law51_ComputerbrailleCapitals k) pre post :=
  Contract.renum (contract_of (cxok_law51_ComputerbrailleCapitals hg hs) 4 sg_law51_ComputerbrailleCapitals Tryd.func4 (by kernel_rfl) (by kernel_rfl) fun ts hl hp => by rw [tree_law51_ComputerbrailleCapitals]; exact h ts hl hp) k
end Go.Proofs.YtccpepheooleoaaDoor

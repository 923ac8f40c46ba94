/- Written by this repo's own program out of its texts. -/
import Derived.Test.YtgdlkhemopildaaDoorSU1
namespace Go.Proofs.YtgdlkhemopildaaDoor
set_option linter.unusedVariables false
set_option linter.unusedSimpArgs false
def sg_computerbraille_Cell : Sig := ⟨82, 0, [(false, [(.int .i32)])], [(false, [((.int .u8), none)]), (false, [(.bool, none)])]⟩
def zcb (k : Nat) : Sig := ⟨sg_computerbraille_Cell.f, k, sg_computerbraille_Cell.args, sg_computerbraille_Cell.res⟩
def zsq : List (FuncId × Nat × Head) := []
def zsl : List (FuncId × Nat × Nat × Plan) := []
noncomputable def cx_computerbraille_Cell : Cx := ⟨Tryd.prog, gtab, [], [], zsq, zsl, []⟩
def tr_computerbraille_Cell : Tree := (.br (.o2 .lti (.v 0) (.int 32))
  (.ret (.o1 .agg (.cons (.int 0) (.cons (.bool false) .nil))))
  (.br (.o2 .lti (.int 126) (.v 0))
    (.ret (.o1 .agg (.cons (.int 0) (.cons (.bool false) .nil))))
    (.req (.o2 .lei (.int 95) (.o1 .len (.glob 0))) (.req (.o2 .lei (.int 0) (.o2 (.sub .i32) (.v 0) (.int 32))) (.req (.o2 .lti (.o2 (.sub .i32) (.v 0) (.int 32)) (.int 95)) (.ret (.o1 .agg (.cons (.o2 .idx (.glob 0) (.o2 (.sub .i32) (.v 0) (.int 32))) (.cons (.bool true) .nil)))))))))
set_option maxRecDepth 100000 in
theorem zpt : za4 cx_computerbraille_Cell 4 sg_computerbraille_Cell Tryd.f82 (Tryd.f82.body.getD .skip) = tr_computerbraille_Cell := by kernel_rfl
theorem zpr {Γ : CEnv} (hg : ∀ n, Γ.glob n = globT n) (hs : ∀ s ∈ cx_computerbraille_Cell.sigs, Contract Tryd.prog Γ gtab s (Γ.pre s.no) (Γ.post s.no)) : CxOk cx_computerbraille_Cell Γ := ⟨by kernel_rfl, hs, (fun x hx => by cases hx), (fun x hx => by cases hx)⟩
theorem zfl {Γ : CEnv} (hg : ∀ n, Γ.glob n = globT n) (hs : ∀ s ∈ cx_computerbraille_Cell.sigs, Contract Tryd.prog Γ gtab s (Γ.pre s.no) (Γ.post s.no)) (k : Nat) {pre : List TV → Prop} {post : List TV → TV → Prop} (h : ∀ ts, ts.length = 1 → pre ts → tr_computerbraille_Cell.den Γ (post ts) ts []) : Contract Tryd.prog Γ gtab (zcb k) pre post :=
  Contract.renum (zas (zpr hg hs) 4 sg_computerbraille_Cell Tryd.func82 (by kernel_rfl) (by kernel_rfl) fun ts hl hp => by rw [zpt]; exact h ts hl hp) k
def sg_computerbraille_Cells : Sig := ⟨58, 0, [(false, [.str])], [(false, [((.slice false [(.int .u8)]), some 5)])]⟩
def zb7 (k : Nat) : Sig := ⟨sg_computerbraille_Cells.f, k, sg_computerbraille_Cells.args, sg_computerbraille_Cells.res⟩
def zqc : List (FuncId × Nat × Head) := [(58, 5, ⟨[3, 22, 23, 24], [.slot 22 true 21 false [(.int .i32)], .slot 3 true 5 false [(.int .u8)]], [24], [1], [], []⟩), (58, 12, ⟨[3, 7, 22, 23, 24, 41], [.slot 3 true 5 false [(.int .u8)], .slot 22 true 21 false [(.int .i32)]], [41], [0], [], []⟩)]
def zqq : List (FuncId × Nat × Nat × Plan) := []
noncomputable def cx_computerbraille_Cells : Cx := ⟨Tryd.prog, gtab, [zcj 0, zbz 1, zcb 2], [], zqc, zqq, []⟩
def tr_computerbraille_Cells : Tree := (.call 0 [(.str []), (.v 0)]
  (.call 1 [(.o1 (.proj 1) (.v 1))]
    (.req (.o2 .lei (.o1 .len (.o2 .app (.o1 (.proj 0) (.v 1)) (.v 2))) (.int 1099511627776)) (.loop [(.int 0), .nil]
      (.br (.o2 .lti (.v 3) (.o1 .len (.o2 .app (.o1 (.proj 0) (.v 1)) (.v 2))))
        (.req (.o2 .lei (.int 0) (.v 3)) (.req (.o2 .lti (.v 3) (.o1 .len (.o2 .app (.o1 (.proj 0) (.v 1)) (.v 2)))) (.call 2 [(.o2 .idx (.o2 .app (.o1 (.proj 0) (.v 1)) (.v 2)) (.v 3))]
          (.br (.o1 (.proj 1) (.v 5))
            (.req (.o2 .lei (.o1 .len (.o2 .app (.v 4) (.cons (.o1 (.proj 0) (.v 5)) .nil))) (.int 1099511627776)) (.back 0 [(.o2 (.add .i64) (.v 3) (.int 1)), (.o2 .app (.v 4) (.cons (.o1 (.proj 0) (.v 5)) .nil))]))
            (.req (.o2 .lei (.o1 .len (.o2 .app (.v 4) (.cons (.int 255) .nil))) (.int 1099511627776)) (.loop [(.int 0), (.o2 .app (.v 4) (.cons (.int 255) .nil))]
              (.br (.o2 .lti (.v 6) (.int 6))
                (.req (.o2 .lei (.int 0) (.o2 (.sub .i64) (.int 20) (.o2 (.mul .i64) (.int 4) (.v 6)))) (.req (.o2 .lei (.int 0) (.o2 (.and .i32) (.o2 (.shr .i32) (.o2 .idx (.o2 .app (.o1 (.proj 0) (.v 1)) (.v 2)) (.v 3)) (.o2 (.sub .i64) (.int 20) (.o2 (.mul .i64) (.int 4) (.v 6)))) (.int 15))) (.req (.o2 .lti (.o2 (.and .i32) (.o2 (.shr .i32) (.o2 .idx (.o2 .app (.o1 (.proj 0) (.v 1)) (.v 2)) (.v 3)) (.o2 (.sub .i64) (.int 20) (.o2 (.mul .i64) (.int 4) (.v 6)))) (.int 15)) (.int 16)) (.call 2 [(.o1 (.wrap .i32) (.o2 .sidx (.str [48, 49, 50, 51, 52, 53, 54, 55, 56, 57, 97, 98, 99, 100, 101, 102]) (.o2 (.and .i32) (.o2 (.shr .i32) (.o2 .idx (.o2 .app (.o1 (.proj 0) (.v 1)) (.v 2)) (.v 3)) (.o2 (.sub .i64) (.int 20) (.o2 (.mul .i64) (.int 4) (.v 6)))) (.int 15))))]
                  (.req (.o2 .lei (.o1 .len (.o2 .app (.v 7) (.cons (.o1 (.proj 0) (.v 8)) .nil))) (.int 1099511627776)) (.back 1 [(.o2 (.add .i64) (.v 6) (.int 1)), (.o2 .app (.v 7) (.cons (.o1 (.proj 0) (.v 8)) .nil))]))))))
                (.back 0 [(.o2 (.add .i64) (.v 3) (.int 1)), (.v 7)]))))))))
        (.ret (.v 4)))))))
set_option maxRecDepth 100000 in
theorem zo5 : za4 cx_computerbraille_Cells 4 sg_computerbraille_Cells Tryd.f58 (Tryd.f58.body.getD .skip) = tr_computerbraille_Cells := by kernel_rfl
theorem zo3 {Γ : CEnv} (hg : ∀ n, Γ.glob n = globT n) (hs : ∀ s ∈ cx_computerbraille_Cells.sigs, Contract Tryd.prog Γ gtab s (Γ.pre s.no) (Γ.post s.no)) : CxOk cx_computerbraille_Cells Γ := ⟨by kernel_rfl, hs, (fun x hx => by cases hx), (fun x hx => by cases hx)⟩
theorem ze0 {Γ : CEnv} (hg : ∀ n, Γ.glob n = globT n) (hs : ∀ s ∈ cx_computerbraille_Cells.sigs, Contract Tryd.prog Γ gtab s (Γ.pre s.no) (Γ.post s.no)) (k : Nat) {pre : List TV → Prop} {post : List TV → TV → Prop} (h : ∀ ts, ts.length = 1 → pre ts → tr_computerbraille_Cells.den Γ (post ts) ts []) : Contract Tryd.prog Γ gtab (zb7 k) pre post :=
  Contract.renum (zas (zo3 hg hs) 4 sg_computerbraille_Cells Tryd.func58 (by kernel_rfl) (by kernel_rfl) fun ts hl hp => by rw [zo5]; exact h ts hl hp) k
def sg_ref51_Table : Sig := ⟨102, 0, [], [(false, [((.slice false [(.int .u8)]), some 5)])]⟩
def zhz (k : Nat) : Sig := ⟨sg_ref51_Table.f, k, sg_ref51_Table.args, sg_ref51_Table.res⟩
def hd_ref51_Table : List (FuncId × Nat × Head) := []
def pl_ref51_Table : List (FuncId × Nat × Nat × Plan) := []
noncomputable def cx_ref51_Table : Cx := ⟨Tryd.prog, gtab, [], [], hd_ref51_Table, pl_ref51_Table, []⟩
def tr_ref51_Table : Tree := (.ret (.cons (.int 0) (.cons (.int 46) (.cons (.int 16) (.cons (.int 60) (.cons (.int 43) (.cons (.int 41) (.cons (.int 47) (.cons (.int 4) (.cons (.int 55) (.cons (.int 62) (.cons (.int 33) (.cons (.int 44) (.cons (.int 32) (.cons (.int 36) (.cons (.int 40) (.cons (.int 12) (.cons (.int 52) (.cons (.int 2) (.cons (.int 6) (.cons (.int 18) (.cons (.int 50) (.cons (.int 34) (.cons (.int 22) (.cons (.int 54) (.cons (.int 38) (.cons (.int 20) (.cons (.int 49) (.cons (.int 48) (.cons (.int 35) (.cons (.int 63) (.cons (.int 28) (.cons (.int 57) (.cons (.int 72) (.cons (.int 65) (.cons (.int 67) (.cons (.int 73) (.cons (.int 89) (.cons (.int 81) (.cons (.int 75) (.cons (.int 91) (.cons (.int 83) (.cons (.int 74) (.cons (.int 90) (.cons (.int 69) (.cons (.int 71) (.cons (.int 77) (.cons (.int 93) (.cons (.int 85) (.cons (.int 79) (.cons (.int 95) (.cons (.int 87) (.cons (.int 78) (.cons (.int 94) (.cons (.int 101) (.cons (.int 103) (.cons (.int 122) (.cons (.int 109) (.cons (.int 125) (.cons (.int 117) (.cons (.int 106) (.cons (.int 115) (.cons (.int 123) (.cons (.int 88) (.cons (.int 56) (.cons (.int 8) (.cons (.int 1) (.cons (.int 3) (.cons (.int 9) (.cons (.int 25) (.cons (.int 17) (.cons (.int 11) (.cons (.int 27) (.cons (.int 19) (.cons (.int 10) (.cons (.int 26) (.cons (.int 5) (.cons (.int 7) (.cons (.int 13) (.cons (.int 29) (.cons (.int 21) (.cons (.int 15) (.cons (.int 31) (.cons (.int 23) (.cons (.int 14) (.cons (.int 30) (.cons (.int 37) (.cons (.int 39) (.cons (.int 58) (.cons (.int 45) (.cons (.int 61) (.cons (.int 53) (.cons (.int 42) (.cons (.int 51) (.cons (.int 59) (.cons (.int 24) .nil))))))))))))))))))))))))))))))))))))))))))))))))))))))))))))))))))))))))))))))))))))))))))))))))
set_option maxRecDepth 100000 in
theorem z6k : za4 cx_ref51_Table 4 sg_ref51_Table Tryd.f102 (Tryd.f102.body.getD .skip) = tr_ref51_Table := by kernel_rfl
theorem z6q {Γ : CEnv} (hg : ∀ n, Γ.glob n = globT n) (hs : ∀ s ∈ cx_ref51_Table.sigs, Contract Tryd.prog Γ gtab s (Γ.pre s.no) (Γ.post s.no)) : CxOk cx_ref51_Table Γ := ⟨by kernel_rfl, hs, (fun x hx => by cases hx), (fun x hx => by cases hx)⟩
theorem zl4 {Γ : CEnv} (hg : ∀ n, Γ.glob n = globT n) (hs : ∀ s ∈ cx_ref51_Table.sigs, Contract Tryd.prog Γ gtab s (Γ.pre s.no) (Γ.post s.no)) (k : Nat) {pre : List TV → Prop} {post : List TV → TV → Prop} (h : ∀ ts, ts.length = 0 → pre ts → tr_ref51_Table.den Γ (post ts) ts []) : Contract Tryd.prog Γ gtab (zhz k) pre post :=
  Contract.renum (zas (z6q hg hs) 4 sg_ref51_Table Tryd.func102 (by kernel_rfl) (by kernel_rfl) fun ts hl hp => by rw [z6k]; exact h ts hl hp) k
def sg_ref51_Cell : Sig := ⟨87, 0, [(false, [(.int .i32)])], [(false, [((.int .u8), none)]), (false, [(.bool, none)])]⟩
def zg0 (k : Nat) : Sig := ⟨sg_ref51_Cell.f, k, sg_ref51_Cell.args, sg_ref51_Cell.res⟩
def hd_ref51_Cell : List (FuncId × Nat × Head) := []
def pl_ref51_Cell : List (FuncId × Nat × Nat × Plan) := []
noncomputable def cx_ref51_Cell : Cx := ⟨Tryd.prog, gtab, [zhz 0], [], hd_ref51_Cell, pl_ref51_Cell, []⟩
def tr_ref51_Cell : Tree := (.br (.o2 .lti (.v 0) (.int 32))
  (.ret (.o1 .agg (.cons (.int 0) (.cons (.bool false) .nil))))
  (.br (.o2 .lti (.int 126) (.v 0))
    (.ret (.o1 .agg (.cons (.int 0) (.cons (.bool false) .nil))))
    (.call 0 []
      (.req (.o2 .lei (.int 0) (.o2 (.sub .i32) (.v 0) (.int 32))) (.req (.o2 .lti (.o2 (.sub .i32) (.v 0) (.int 32)) (.o1 .len (.v 1))) (.ret (.o1 .agg (.cons (.o2 .idx (.v 1) (.o2 (.sub .i32) (.v 0) (.int 32))) (.cons (.bool true) .nil)))))))))
set_option maxRecDepth 100000 in
theorem z85 : za4 cx_ref51_Cell 4 sg_ref51_Cell Tryd.f87 (Tryd.f87.body.getD .skip) = tr_ref51_Cell := by kernel_rfl
theorem qax {Γ : CEnv} (hg : ∀ n, Γ.glob n = globT n) (hs : ∀ s ∈ cx_ref51_Cell.sigs, Contract Tryd.prog Γ gtab s (Γ.pre s.no) (Γ.post s.no)) : CxOk cx_ref51_Cell Γ := ⟨by kernel_rfl, hs, (fun x hx => by cases hx), (fun x hx => by cases hx)⟩
theorem zn9 {Γ : CEnv} (hg : ∀ n, Γ.glob n = globT n) (hs : ∀ s ∈ cx_ref51_Cell.sigs, Contract Tryd.prog Γ gtab s (Γ.pre s.no) (Γ.post s.no)) (k : Nat) {pre : List TV → Prop} {post : List TV → TV → Prop} (h : ∀ ts, ts.length = 1 → pre ts → tr_ref51_Cell.den Γ (post ts) ts []) : Contract Tryd.prog Γ gtab (zg0 k) pre post :=
  Contract.renum (zas (qax hg hs) 4 sg_ref51_Cell Tryd.func87 (by kernel_rfl) (by kernel_rfl) fun ts hl hp => by rw [z85]; exact h ts hl hp) k
def sg_ref51_Characters : Sig := ⟨45, 0, [(false, [.str])], [(false, [((.slice false [(.int .i32)]), some 21)])]⟩
def zb4 (k : Nat) : Sig := ⟨sg_ref51_Characters.f, k, sg_ref51_Characters.args, sg_ref51_Characters.res⟩
def zzg : List (FuncId × Nat × Head) := []
def zzi : List (FuncId × Nat × Nat × Plan) := []
noncomputable def cx_ref51_Characters : Cx := ⟨Tryd.prog, gtab, [zdg 0, zi8 1], [], zzg, zzi, []⟩
def tr_ref51_Characters : Tree := (.call 0 [(.str []), (.v 0)]
  (.call 1 [(.o1 (.proj 1) (.v 1))]
    (.req (.o2 .lei (.o1 .len (.o2 .app (.o1 (.proj 0) (.v 1)) (.v 2))) (.int 1099511627776)) (.ret (.o2 .app (.o1 (.proj 0) (.v 1)) (.v 2))))))
set_option maxRecDepth 100000 in
theorem zv4 : za4 cx_ref51_Characters 4 sg_ref51_Characters Tryd.f45 (Tryd.f45.body.getD .skip) = tr_ref51_Characters := by kernel_rfl
theorem zuw {Γ : CEnv} (hg : ∀ n, Γ.glob n = globT n) (hs : ∀ s ∈ cx_ref51_Characters.sigs, Contract Tryd.prog Γ gtab s (Γ.pre s.no) (Γ.post s.no)) : CxOk cx_ref51_Characters Γ := ⟨by kernel_rfl, hs, (fun x hx => by cases hx), (fun x hx => by cases hx)⟩
theorem zhw {Γ : CEnv} (hg : ∀ n, Γ.glob n = globT n) (hs : ∀ s ∈ cx_ref51_Characters.sigs, Contract Tryd.prog Γ gtab s (Γ.pre s.no) (Γ.post s.no)) (k : Nat) {pre : List TV → Prop} {post : List TV → TV → Prop} (h : ∀ ts, ts.length = 1 → pre ts → tr_ref51_Characters.den Γ (post ts) ts []) : Contract Tryd.prog Γ gtab (zb4 k) pre post :=
  Contract.renum (zas (zuw hg hs) 4 sg_ref51_Characters Tryd.func45 (by kernel_rfl) (by kernel_rfl) fun ts hl hp => by rw [zv4]; exact h ts hl hp) k
def sg_ref51_one : Sig := ⟨65, 0, [(false, [(.int .i32)])], [(false, [((.slice false [(.int .u8)]), some 5)])]⟩
def zpg (k : Nat) : Sig := ⟨sg_ref51_one.f, k, sg_ref51_one.args, sg_ref51_one.res⟩
def hd_ref51_one : List (FuncId × Nat × Head) := [(65, 7, ⟨[0, 5, 6, 7], [.slot 6 true 5 false [(.int .u8)]], [7], [0], [], []⟩)]
def pl_ref51_one : List (FuncId × Nat × Nat × Plan) := []
noncomputable def cx_ref51_one : Cx := ⟨Tryd.prog, gtab, [zg0 0], [], hd_ref51_one, pl_ref51_one, []⟩
def tr_ref51_one : Tree := (.call 0 [(.v 0)]
  (.br (.o1 (.proj 1) (.v 1))
    (.ret (.cons (.o1 (.proj 0) (.v 1)) .nil))
    (.loop [(.int 1048576), (.cons (.int 255) .nil)]
      (.br (.o2 .lti (.int 0) (.v 2))
        (.req (.o1 .no (.o2 .eqi (.v 2) (.int 0))) (.req (.o2 .lei (.int 0) (.o2 .rem (.o2 (.quo .i32) (.v 0) (.v 2)) (.int 16))) (.req (.o2 .lti (.o2 .rem (.o2 (.quo .i32) (.v 0) (.v 2)) (.int 16)) (.int 16)) (.call 0 [(.o1 (.wrap .i32) (.o2 .sidx (.str [48, 49, 50, 51, 52, 53, 54, 55, 56, 57, 97, 98, 99, 100, 101, 102]) (.o2 .rem (.o2 (.quo .i32) (.v 0) (.v 2)) (.int 16))))]
          (.req (.o2 .lei (.o1 .len (.o2 .app (.v 3) (.cons (.o1 (.proj 0) (.v 4)) .nil))) (.int 1099511627776)) (.back 0 [(.o2 (.quo .i32) (.v 2) (.int 16)), (.o2 .app (.v 3) (.cons (.o1 (.proj 0) (.v 4)) .nil))]))))))
        (.ret (.v 3))))))
set_option maxRecDepth 100000 in
theorem tree_ref51_one : za4 cx_ref51_one 4 sg_ref51_one Tryd.f65 (Tryd.f65.body.getD .skip) = tr_ref51_one := by kernel_rfl
theorem cxok_ref51_one {Γ : CEnv} (hg : ∀ n, Γ.glob n = globT n) (hs : ∀ s ∈ cx_ref51_one.sigs, Contract Tryd.prog Γ gtab s (Γ.pre s.no) (Γ.post s.no)) : CxOk cx_ref51_one Γ := ⟨by kernel_rfl, hs, (fun x hx => by cases hx), (fun x hx => by cases hx)⟩
theorem zo9 {Γ : CEnv} (hg : ∀ n, Γ.glob n = globT n) (hs : ∀ s ∈ cx_ref51_one.sigs, Contract Tryd.prog Γ gtab s (Γ.pre s.no) (Γ.post s.no)) (k : Nat) {pre : List TV → Prop} {post : List TV → TV → Prop} (h : ∀ ts, ts.length = 1 → pre ts → tr_ref51_one.den Γ (post ts) ts []) : Contract Tryd.prog Γ gtab (zpg k) pre post :=
  Contract.renum (zas (cxok_ref51_one hg hs) 4 sg_ref51_one Tryd.func65 (by kernel_rfl) (by kernel_rfl) fun ts hl hp => by rw [tree_ref51_one]; exact h ts hl hp) k
def sg_ref51_Cells : Sig := ⟨44, 0, [(false, [.str])], [(false, [((.slice false [(.int .u8)]), some 5)])]⟩
def zhm (k : Nat) : Sig := ⟨sg_ref51_Cells.f, k, sg_ref51_Cells.args, sg_ref51_Cells.res⟩
def hd_ref51_Cells : List (FuncId × Nat × Head) := [(44, 4, ⟨[3, 4, 5], [.slot 4 true 21 false [(.int .i32)], .slot 3 true 5 false [(.int .u8)]], [5], [1], [], []⟩)]
def pl_ref51_Cells : List (FuncId × Nat × Nat × Plan) := []
noncomputable def cx_ref51_Cells : Cx := ⟨Tryd.prog, gtab, [zb4 0, zpg 1], [], hd_ref51_Cells, pl_ref51_Cells, []⟩
def tr_ref51_Cells : Tree := (.call 0 [(.v 0)]
  (.loop [(.int 0), .nil]
    (.br (.o2 .lti (.v 2) (.o1 .len (.v 1)))
      (.req (.o2 .lei (.int 0) (.v 2)) (.req (.o2 .lti (.v 2) (.o1 .len (.v 1))) (.call 1 [(.o2 .idx (.v 1) (.v 2))]
        (.req (.o2 .lei (.o1 .len (.o2 .app (.v 3) (.v 4))) (.int 1099511627776)) (.back 0 [(.o2 (.add .i64) (.v 2) (.int 1)), (.o2 .app (.v 3) (.v 4))])))))
      (.ret (.v 3)))))
set_option maxRecDepth 100000 in
theorem z57 : za4 cx_ref51_Cells 4 sg_ref51_Cells Tryd.f44 (Tryd.f44.body.getD .skip) = tr_ref51_Cells := by kernel_rfl
theorem z5l {Γ : CEnv} (hg : ∀ n, Γ.glob n = globT n) (hs : ∀ s ∈ cx_ref51_Cells.sigs, Contract Tryd.prog Γ gtab s (Γ.pre s.no) (Γ.post s.no)) : CxOk cx_ref51_Cells Γ := ⟨by kernel_rfl, hs, (fun x hx => by cases hx), (fun x hx => by cases hx)⟩
theorem zmb {Γ : CEnv} (hg : ∀ n, Γ.glob n = globT n) (hs : ∀ s ∈ cx_ref51_Cells.sigs, Contract Tryd.prog Γ gtab s (Γ.pre s.no) (Γ.post s.no)) (k : Nat) {pre : List TV → Prop} {post : List TV → TV → Prop} (h : ∀ ts, ts.length = 1 → pre ts → tr_ref51_Cells.den Γ (post ts) ts []) : Contract Tryd.prog Γ gtab (zhm k) pre post :=
  Contract.renum (zas (z5l hg hs) 4 sg_ref51_Cells Tryd.func44 (by kernel_rfl) (by kernel_rfl) fun ts hl hp => by rw [z57]; exact h ts hl hp) k
end Go.Proofs.YtgdlkhemopildaaDoor


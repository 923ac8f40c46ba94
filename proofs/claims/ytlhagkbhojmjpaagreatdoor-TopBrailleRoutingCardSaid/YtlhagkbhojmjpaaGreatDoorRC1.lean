/- Written by this repo's own program out of its texts. -/
import Derived.Test.YtlhagkbhojmjpaaGreatDoorRU1
namespace Go.Proofs.YtlhagkbhojmjpaaGreatDoor
set_option linter.unusedVariables false
set_option linter.unusedSimpArgs false
def sg_computerbraille_Cell : Sig := ⟨82, 0, [(false, [(.int .i32)])], [(false, [((.int .u8), none)]), (false, [(.bool, none)])]⟩
def zcb (k : Nat) : Sig := ⟨sg_computerbraille_Cell.f, k, sg_computerbraille_Cell.args, sg_computerbraille_Cell.res⟩
def zsq : List (FuncId × Nat × Head) := []
def zsl : List (FuncId × Nat × Nat × Plan) := []
noncomputable def cx_computerbraille_Cell : Cx := ⟨Tryz.prog, gtab, [], [], zsq, zsl, []⟩
def tr_computerbraille_Cell : Tree := (.br (.o2 .lti (.v 0) (.int 32))
  (.ret (.o1 .agg (.cons (.int 0) (.cons (.bool false) .nil))))
  (.br (.o2 .lti (.int 126) (.v 0))
    (.ret (.o1 .agg (.cons (.int 0) (.cons (.bool false) .nil))))
    (.req (.o2 .lei (.int 95) (.o1 .len (.glob 2))) (.req (.o2 .lei (.int 0) (.o2 (.sub .i32) (.v 0) (.int 32))) (.req (.o2 .lti (.o2 (.sub .i32) (.v 0) (.int 32)) (.int 95)) (.ret (.o1 .agg (.cons (.o2 .idx (.glob 2) (.o2 (.sub .i32) (.v 0) (.int 32))) (.cons (.bool true) .nil)))))))))
set_option maxRecDepth 100000 in
theorem zpt : za4 cx_computerbraille_Cell 4 sg_computerbraille_Cell Tryz.f82 (Tryz.f82.body.getD .skip) = tr_computerbraille_Cell := by kernel_rfl
theorem zpr {Γ : CEnv} (hg : ∀ n, Γ.glob n = globT n) (hs : ∀ s ∈ cx_computerbraille_Cell.sigs, Contract Tryz.prog Γ gtab s (Γ.pre s.no) (Γ.post s.no)) : CxOk cx_computerbraille_Cell Γ := ⟨by kernel_rfl, hs, (fun x hx => by cases hx), (fun x hx => by cases hx)⟩
theorem zfl {Γ : CEnv} (hg : ∀ n, Γ.glob n = globT n) (hs : ∀ s ∈ cx_computerbraille_Cell.sigs, Contract Tryz.prog Γ gtab s (Γ.pre s.no) (Γ.post s.no)) (k : Nat) {pre : List TV → Prop} {post : List TV → TV → Prop} (h : ∀ ts, ts.length = 1 → pre ts → tr_computerbraille_Cell.den Γ (post ts) ts []) : Contract Tryz.prog Γ gtab (zcb k) pre post :=
  Contract.renum (zas (zpr hg hs) 4 sg_computerbraille_Cell Tryz.func82 (by kernel_rfl) (by kernel_rfl) fun ts hl hp => by rw [zpt]; exact h ts hl hp) k
def sg_computerbraille_Cells : Sig := ⟨46, 0, [(false, [.str])], [(false, [((.slice false [(.int .u8)]), some 5)])]⟩
def zb7 (k : Nat) : Sig := ⟨sg_computerbraille_Cells.f, k, sg_computerbraille_Cells.args, sg_computerbraille_Cells.res⟩
def zqc : List (FuncId × Nat × Head) := [(46, 5, ⟨[3, 22, 23, 24], [.slot 22 true 21 false [(.int .i32)], .slot 3 true 5 false [(.int .u8)]], [24], [1], [], []⟩), (46, 12, ⟨[3, 7, 22, 23, 24, 41], [.slot 3 true 5 false [(.int .u8)], .slot 22 true 21 false [(.int .i32)]], [41], [0], [], []⟩)]
def zqq : List (FuncId × Nat × Nat × Plan) := []
noncomputable def cx_computerbraille_Cells : Cx := ⟨Tryz.prog, gtab, [zcj 0, zbz 1, zcb 2], [], zqc, zqq, []⟩
def tr_computerbraille_Cells : Tree := (.call 0 [(.str []), (.v 0)]
  (.call 1 [(.o1 (.proj 1) (.v 1))]
    (.req (.o2 .lei (.o1 .len (.o2 .app (.o1 (.proj 0) (.v 1)) (.v 2))) (.int 1099511627776)) (.loop [(.int 0), .nil]
      (.br (.o2 .lti (.v 3) (.o1 .len (.o2 .app (.o1 (.proj 0) (.v 1)) (.v 2))))
        (.req (.o2 .lei (.int 0) (.v 3)) (.req (.o2 .lti (.v 3) (.o1 .len (.o2 .app (.o1 (.proj 0) (.v 1)) (.v 2)))) (.call 2 [(.o2 .idx (.o2 .app (.o1 (.proj 0) (.v 1)) (.v 2)) (.v 3))]
          (.br (.o1 (.proj 1) (.v 5))
            (.req (.o2 .lei (.o1 .len (.o2 .app (.v 4) (.cons (.o1 (.proj 0) (.v 5)) .nil))) (.int 1099511627776)) (.back 0 [(.o2 (.add .i64) (.v 3) (.int 1)), (.o2 .app (.v 4) (.cons (.o1 (.proj 0) (.v 5)) .nil))]))
            (.req (.o2 .lei (.o1 .len (.o2 .app (.v 4) (.cons (.int 255) .nil))) (.int 1099511627776)) (.loop [(.int 0), (.o2 .app (.v 4) (.cons (.int 255) .nil))]
              (.br (.o2 .lti (.v 6) (.int 6))
                (.req (.o2 .lei (.int 0) (.o2 (.sub .i64) (.int 20) (.o2 (.mul .i64) (.int 4) (.v 6)))) (.req (.o2 .lei (.int 0) (.o2 (.and .i32) (.o2 (.shr .i32) (.o2 .idx (.o2 .app (.o1 (.proj 0) (.v 1)) (.v 2)) (.v 3)) (.o2 (.sub .i64) (.int 20) (.o2 (.mul .i64) (.int 4) (.v 6)))) (.int 15))) (.req (.o2 .lti (.o2 (.and .i32) (.o2 (.shr .i32) (.o2 .idx (.o2 .app (.o1 (.proj 0) (.v 1)) (.v 2)) (.v 3)) (.o2 (.sub .i64) (.int 20) (.o2 (.mul .i64) (.int 4) (.v 6)))) (.int 15)) (.int 16)) (.call 2 [(.o1 (.wrap .i32) (.o2 .sidx (.str [48, 49, 50, 51, 52, 53, 54, 55, 56, 57, 97, 98, 99, 100, 101, 102]) (.o2 (.and .i32) (.o2 (.shr .i32) (.o2 .idx (.o2 .app (.o1 (.proj 0) (.v 1)) (.v 2)) (.v 3)) (.o2 (.sub .i64) (.int 20) (.o2 (.mul .i64) (.int 4) (.v 6)))) (.int 15))))]
                  (.req (.o2 .lei (.o1 .len (.o2 .app (.v 7) (.cons (.o1 (.proj 0) (.v 8)) .nil))) (.int 1099511627776)) (.back 1 [(.o2 (.add .i64) (.v 6) (.int 1)), (.o2 .app (.v 7) (.cons (.o1 (.proj 0) (.v 8)) .nil))]))))))
                (.back 0 [(.o2 (.add .i64) (.v 3) (.int 1)), (.v 7)]))))))))
        (.ret (.v 4)))))))
set_option maxRecDepth 100000 in
theorem zo5 : za4 cx_computerbraille_Cells 4 sg_computerbraille_Cells Tryz.f46 (Tryz.f46.body.getD .skip) = tr_computerbraille_Cells := by kernel_rfl
theorem zo3 {Γ : CEnv} (hg : ∀ n, Γ.glob n = globT n) (hs : ∀ s ∈ cx_computerbraille_Cells.sigs, Contract Tryz.prog Γ gtab s (Γ.pre s.no) (Γ.post s.no)) : CxOk cx_computerbraille_Cells Γ := ⟨by kernel_rfl, hs, (fun x hx => by cases hx), (fun x hx => by cases hx)⟩
theorem ze0 {Γ : CEnv} (hg : ∀ n, Γ.glob n = globT n) (hs : ∀ s ∈ cx_computerbraille_Cells.sigs, Contract Tryz.prog Γ gtab s (Γ.pre s.no) (Γ.post s.no)) (k : Nat) {pre : List TV → Prop} {post : List TV → TV → Prop} (h : ∀ ts, ts.length = 1 → pre ts → tr_computerbraille_Cells.den Γ (post ts) ts []) : Contract Tryz.prog Γ gtab (zb7 k) pre post :=
  Contract.renum (zas (zo3 hg hs) 4 sg_computerbraille_Cells Tryz.func46 (by kernel_rfl) (by kernel_rfl) fun ts hl hp => by rw [zo5]; exact h ts hl hp) k
end Go.Proofs.YtlhagkbhojmjpaaGreatDoor


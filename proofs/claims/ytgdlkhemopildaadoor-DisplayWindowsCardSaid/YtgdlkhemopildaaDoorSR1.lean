/- Written by this repo's own program out of its texts. -/
import Derived.Test.YtgdlkhemopildaaDoorSK1
namespace Go.Proofs.YtgdlkhemopildaaDoor
set_option linter.unusedVariables false
set_option linter.unusedSimpArgs false
def sg_ref52_Texts : Sig := ⟨69, 0, [], [(false, [((.slice false [.str]), some 9)])]⟩
def zfo (k : Nat) : Sig := ⟨sg_ref52_Texts.f, k, sg_ref52_Texts.args, sg_ref52_Texts.res⟩
def hd_ref52_Texts : List (FuncId × Nat × Head) := []
def pl_ref52_Texts : List (FuncId × Nat × Nat × Plan) := []
noncomputable def cx_ref52_Texts : Cx := ⟨Tryd.prog, gtab, [], [], hd_ref52_Texts, pl_ref52_Texts, []⟩
def tr_ref52_Texts : Tree := (.ret (.cons (.str [97, 110, 100]) (.cons (.str [102, 111, 114]) (.cons (.str [111, 102]) (.cons (.str [116, 104, 101]) (.cons (.str [119, 105, 116, 104]) (.cons (.str [99, 104]) (.cons (.str [103, 104]) (.cons (.str [115, 104]) (.cons (.str [116, 104]) (.cons (.str [119, 104]) (.cons (.str [101, 100]) (.cons (.str [101, 114]) (.cons (.str [111, 117]) (.cons (.str [111, 119]) (.cons (.str [115, 116]) (.cons (.str [105, 110, 103]) (.cons (.str [97, 114]) (.cons (.str [101, 110]) (.cons (.str [105, 110]) (.cons (.str [101, 97]) (.cons (.str [98, 98]) (.cons (.str [99, 99]) (.cons (.str [102, 102]) (.cons (.str [103, 103]) (.cons (.str [111, 117, 110, 100]) (.cons (.str [97, 110, 99, 101]) (.cons (.str [115, 105, 111, 110]) (.cons (.str [108, 101, 115, 115]) (.cons (.str [111, 117, 110, 116]) (.cons (.str [101, 110, 99, 101]) (.cons (.str [111, 110, 103]) (.cons (.str [102, 117, 108]) (.cons (.str [116, 105, 111, 110]) (.cons (.str [110, 101, 115, 115]) (.cons (.str [109, 101, 110, 116]) (.cons (.str [105, 116, 121]) .nil)))))))))))))))))))))))))))))))))))))
set_option maxRecDepth 100000 in
theorem z6l : za4 cx_ref52_Texts 4 sg_ref52_Texts Tryd.f69 (Tryd.f69.body.getD .skip) = tr_ref52_Texts := by kernel_rfl
theorem z5w {Γ : CEnv} (hg : ∀ n, Γ.glob n = globT n) (hs : ∀ s ∈ cx_ref52_Texts.sigs, Contract Tryd.prog Γ gtab s (Γ.pre s.no) (Γ.post s.no)) : CxOk cx_ref52_Texts Γ := ⟨by kernel_rfl, hs, (fun x hx => by cases hx), (fun x hx => by cases hx)⟩
theorem zlz {Γ : CEnv} (hg : ∀ n, Γ.glob n = globT n) (hs : ∀ s ∈ cx_ref52_Texts.sigs, Contract Tryd.prog Γ gtab s (Γ.pre s.no) (Γ.post s.no)) (k : Nat) {pre : List TV → Prop} {post : List TV → TV → Prop} (h : ∀ ts, ts.length = 0 → pre ts → tr_ref52_Texts.den Γ (post ts) ts []) : Contract Tryd.prog Γ gtab (zfo k) pre post :=
  Contract.renum (zas (z5w hg hs) 4 sg_ref52_Texts Tryd.func69 (by kernel_rfl) (by kernel_rfl) fun ts hl hp => by rw [z6l]; exact h ts hl hp) k
def sg_ref52_Signs : Sig := ⟨70, 0, [], [(false, [((.slice false [.str]), some 9)])]⟩
def zfn (k : Nat) : Sig := ⟨sg_ref52_Signs.f, k, sg_ref52_Signs.args, sg_ref52_Signs.res⟩
def hd_ref52_Signs : List (FuncId × Nat × Head) := [(70, 9, ⟨[2, 4, 5, 6], [.slot 2 true 9 false [.str]], [6], [0], [], []⟩), (70, 4, ⟨[1, 2, 3], [.slot 1 true 5 false [(.int .u8)], .slot 2 true 9 false [.str]], [3], [1], [], []⟩)]
def pl_ref52_Signs : List (FuncId × Nat × Nat × Plan) := []
noncomputable def cx_ref52_Signs : Cx := ⟨Tryd.prog, gtab, [zg0 0], [], hd_ref52_Signs, pl_ref52_Signs, []⟩
def tr_ref52_Signs : Tree := (.loop [(.int 0), .nil]
  (.br (.o2 .lti (.v 0) (.o1 .len (.cons (.int 47) (.cons (.int 63) (.cons (.int 55) (.cons (.int 46) (.cons (.int 62) (.cons (.int 33) (.cons (.int 35) (.cons (.int 41) (.cons (.int 57) (.cons (.int 49) (.cons (.int 43) (.cons (.int 59) (.cons (.int 51) (.cons (.int 42) (.cons (.int 12) (.cons (.int 44) (.cons (.int 28) (.cons (.int 34) (.cons (.int 20) (.cons (.int 2) (.cons (.int 6) (.cons (.int 18) (.cons (.int 22) (.cons (.int 54) .nil))))))))))))))))))))))))))
    (.req (.o2 .lei (.int 0) (.v 0)) (.req (.o2 .lti (.v 0) (.o1 .len (.cons (.int 47) (.cons (.int 63) (.cons (.int 55) (.cons (.int 46) (.cons (.int 62) (.cons (.int 33) (.cons (.int 35) (.cons (.int 41) (.cons (.int 57) (.cons (.int 49) (.cons (.int 43) (.cons (.int 59) (.cons (.int 51) (.cons (.int 42) (.cons (.int 12) (.cons (.int 44) (.cons (.int 28) (.cons (.int 34) (.cons (.int 20) (.cons (.int 2) (.cons (.int 6) (.cons (.int 18) (.cons (.int 22) (.cons (.int 54) .nil)))))))))))))))))))))))))) (.req (.o2 .lei (.o1 .len (.o2 .app (.v 1) (.cons (.o1 .strOf (.cons (.o2 (.add .u8) (.int 128) (.o2 .idx (.cons (.int 47) (.cons (.int 63) (.cons (.int 55) (.cons (.int 46) (.cons (.int 62) (.cons (.int 33) (.cons (.int 35) (.cons (.int 41) (.cons (.int 57) (.cons (.int 49) (.cons (.int 43) (.cons (.int 59) (.cons (.int 51) (.cons (.int 42) (.cons (.int 12) (.cons (.int 44) (.cons (.int 28) (.cons (.int 34) (.cons (.int 20) (.cons (.int 2) (.cons (.int 6) (.cons (.int 18) (.cons (.int 22) (.cons (.int 54) .nil)))))))))))))))))))))))) (.v 0))) .nil)) .nil))) (.int 1099511627776)) (.back 0 [(.o2 (.add .i64) (.v 0) (.int 1)), (.o2 .app (.v 1) (.cons (.o1 .strOf (.cons (.o2 (.add .u8) (.int 128) (.o2 .idx (.cons (.int 47) (.cons (.int 63) (.cons (.int 55) (.cons (.int 46) (.cons (.int 62) (.cons (.int 33) (.cons (.int 35) (.cons (.int 41) (.cons (.int 57) (.cons (.int 49) (.cons (.int 43) (.cons (.int 59) (.cons (.int 51) (.cons (.int 42) (.cons (.int 12) (.cons (.int 44) (.cons (.int 28) (.cons (.int 34) (.cons (.int 20) (.cons (.int 2) (.cons (.int 6) (.cons (.int 18) (.cons (.int 22) (.cons (.int 54) .nil)))))))))))))))))))))))) (.v 0))) .nil)) .nil))]))))
    (.loop [(.int 0), (.v 1)]
      (.br (.o2 .lti (.v 2) (.int 12))
        (.req (.o2 .lei (.int 0) (.v 2)) (.req (.o2 .lti (.v 2) (.int 12)) (.call 0 [(.o1 (.wrap .i32) (.o2 .sidx (.str [100, 101, 110, 115, 116, 101, 103, 108, 110, 115, 116, 121]) (.v 2)))]
          (.req (.o2 .lei (.int 0) (.v 2)) (.req (.o2 .lti (.v 2) (.int 12)) (.br (.o2 .eqi (.o2 .sidx (.str [56, 56, 56, 56, 56, 53, 53, 53, 53, 53, 53, 53]) (.v 2)) (.int 53))
            (.req (.o2 .lei (.o1 .len (.o2 .app (.v 3) (.cons (.o1 .strOf (.cons (.int 176) (.cons (.o1 (.proj 0) (.v 4)) .nil))) .nil))) (.int 1099511627776)) (.back 1 [(.o2 (.add .i64) (.v 2) (.int 1)), (.o2 .app (.v 3) (.cons (.o1 .strOf (.cons (.int 176) (.cons (.o1 (.proj 0) (.v 4)) .nil))) .nil))]))
            (.req (.o2 .lei (.o1 .len (.o2 .app (.v 3) (.cons (.o1 .strOf (.cons (.int 168) (.cons (.o1 (.proj 0) (.v 4)) .nil))) .nil))) (.int 1099511627776)) (.back 1 [(.o2 (.add .i64) (.v 2) (.int 1)), (.o2 .app (.v 3) (.cons (.o1 .strOf (.cons (.int 168) (.cons (.o1 (.proj 0) (.v 4)) .nil))) .nil))]))))))))
        (.ret (.v 3))))))
set_option maxRecDepth 100000 in
theorem z6g : za4 cx_ref52_Signs 4 sg_ref52_Signs Tryd.f70 (Tryd.f70.body.getD .skip) = tr_ref52_Signs := by kernel_rfl
theorem z6r {Γ : CEnv} (hg : ∀ n, Γ.glob n = globT n) (hs : ∀ s ∈ cx_ref52_Signs.sigs, Contract Tryd.prog Γ gtab s (Γ.pre s.no) (Γ.post s.no)) : CxOk cx_ref52_Signs Γ := ⟨by kernel_rfl, hs, (fun x hx => by cases hx), (fun x hx => by cases hx)⟩
theorem zl0 {Γ : CEnv} (hg : ∀ n, Γ.glob n = globT n) (hs : ∀ s ∈ cx_ref52_Signs.sigs, Contract Tryd.prog Γ gtab s (Γ.pre s.no) (Γ.post s.no)) (k : Nat) {pre : List TV → Prop} {post : List TV → TV → Prop} (h : ∀ ts, ts.length = 0 → pre ts → tr_ref52_Signs.den Γ (post ts) ts []) : Contract Tryd.prog Γ gtab (zfn k) pre post :=
  Contract.renum (zas (z6r hg hs) 4 sg_ref52_Signs Tryd.func70 (by kernel_rfl) (by kernel_rfl) fun ts hl hp => by rw [z6g]; exact h ts hl hp) k
def sg_ref52_starts : Sig := ⟨72, 0, [(false, [(.slice false [(.int .i32)])]), (false, [.str])], [(false, [((.int .i64), none)])]⟩
def zf4 (k : Nat) : Sig := ⟨sg_ref52_starts.f, k, sg_ref52_starts.args, sg_ref52_starts.res⟩
def z98 : List (FuncId × Nat × Head) := [(72, 4, ⟨[0, 1, 5], [], [5], [], [], []⟩)]
def z8b : List (FuncId × Nat × Nat × Plan) := [(72, 6, 9, (.op true 0 (.op true 1 (.op true 2 (.op true 3 (.op true 4 (.op true 5 (.op true 6 (.op true 7 (.op true 8 .nil))))))))))]
noncomputable def cx_ref52_starts : Cx := ⟨Tryd.prog, gtab, [], [], z98, z8b, []⟩
def tr_ref52_starts : Tree := (.br (.o2 .lti (.o1 .len (.v 0)) (.o1 .slen (.v 1)))
  (.ret (.int 0))
  (.loop [(.int 0)]
    (.br (.o2 .lti (.v 2) (.o1 .slen (.v 1)))
      (.req (.o2 .lei (.int 0) (.v 2)) (.req (.o2 .lti (.v 2) (.o1 .len (.v 0))) (.req (.o2 .lei (.int 0) (.v 2)) (.req (.o2 .lti (.v 2) (.o1 .slen (.v 1))) (.br (.o1 .no (.o2 .eqi (.o2 .idx (.v 0) (.v 2)) (.o1 (.wrap .i32) (.o2 .sidx (.v 1) (.v 2)))))
        (.ret (.int 0))
        (.back 0 [(.o2 (.add .i64) (.v 2) (.int 1))]))))))
      (.ret (.o1 .slen (.v 1))))))
set_option maxRecDepth 100000 in
theorem z4w : za4 cx_ref52_starts 4 sg_ref52_starts Tryd.f72 (Tryd.f72.body.getD .skip) = tr_ref52_starts := by kernel_rfl
theorem z2q {Γ : CEnv} (hg : ∀ n, Γ.glob n = globT n) (hs : ∀ s ∈ cx_ref52_starts.sigs, Contract Tryd.prog Γ gtab s (Γ.pre s.no) (Γ.post s.no)) : CxOk cx_ref52_starts Γ := ⟨by kernel_rfl, hs, (fun x hx => by cases hx), (fun x hx => by cases hx)⟩
theorem zk9 {Γ : CEnv} (hg : ∀ n, Γ.glob n = globT n) (hs : ∀ s ∈ cx_ref52_starts.sigs, Contract Tryd.prog Γ gtab s (Γ.pre s.no) (Γ.post s.no)) (k : Nat) {pre : List TV → Prop} {post : List TV → TV → Prop} (h : ∀ ts, ts.length = 2 → pre ts → tr_ref52_starts.den Γ (post ts) ts []) : Contract Tryd.prog Γ gtab (zf4 k) pre post :=
  Contract.renum (zas (z2q hg hs) 4 sg_ref52_starts Tryd.func72 (by kernel_rfl) (by kernel_rfl) fun ts hl hp => by rw [z4w]; exact h ts hl hp) k
def sg_ref52_single : Sig := ⟨71, 0, [(false, [(.int .i32)])], [(false, [((.slice false [(.int .u8)]), some 5)])]⟩
def zf2 (k : Nat) : Sig := ⟨sg_ref52_single.f, k, sg_ref52_single.args, sg_ref52_single.res⟩
def z8y : List (FuncId × Nat × Head) := []
def z7z : List (FuncId × Nat × Nat × Plan) := []
noncomputable def cx_ref52_single : Cx := ⟨Tryd.prog, gtab, [zdo 0, zhm 1], [], z8y, z7z, []⟩
def tr_ref52_single : Tree := (.call 0 [(.cons (.v 0) .nil)]
  (.call 1 [(.v 1)]
    (.ret (.v 2))))
set_option maxRecDepth 100000 in
theorem z4b : za4 cx_ref52_single 4 sg_ref52_single Tryd.f71 (Tryd.f71.body.getD .skip) = tr_ref52_single := by kernel_rfl
theorem z3q {Γ : CEnv} (hg : ∀ n, Γ.glob n = globT n) (hs : ∀ s ∈ cx_ref52_single.sigs, Contract Tryd.prog Γ gtab s (Γ.pre s.no) (Γ.post s.no)) : CxOk cx_ref52_single Γ := ⟨by kernel_rfl, hs, (fun x hx => by cases hx), (fun x hx => by cases hx)⟩
theorem zli {Γ : CEnv} (hg : ∀ n, Γ.glob n = globT n) (hs : ∀ s ∈ cx_ref52_single.sigs, Contract Tryd.prog Γ gtab s (Γ.pre s.no) (Γ.post s.no)) (k : Nat) {pre : List TV → Prop} {post : List TV → TV → Prop} (h : ∀ ts, ts.length = 1 → pre ts → tr_ref52_single.den Γ (post ts) ts []) : Contract Tryd.prog Γ gtab (zf2 k) pre post :=
  Contract.renum (zas (z3q hg hs) 4 sg_ref52_single Tryd.func71 (by kernel_rfl) (by kernel_rfl) fun ts hl hp => by rw [z4b]; exact h ts hl hp) k
def sg_ref52_costs : Sig := ⟨68, 0, [(false, [(.slice false [(.int .i32)])])], [(false, [((.slice false [(.int .i64)]), some 3)])]⟩
def zkr (k : Nat) : Sig := ⟨sg_ref52_costs.f, k, sg_ref52_costs.args, sg_ref52_costs.res⟩
def hd_ref52_costs : List (FuncId × Nat × Head) := [(68, 4, ⟨[0, 3, 4, 5, 6], [.slot 3 true 3 false [(.int .i64)], .slot 4 true 9 false [.str], .slot 5 true 9 false [.str]], [6], [0], [], []⟩), (68, 8, ⟨[0, 3, 4, 5, 6, 7], [.slot 3 true 3 false [(.int .i64)], .slot 4 true 9 false [.str], .slot 5 true 9 false [.str]], [7], [0], [], []⟩)]
def pl_ref52_costs : List (FuncId × Nat × Nat × Plan) := [(68, 6, 15, (.op true 0 (.op true 1 (.op true 2 (.op true 3 (.op true 4 (.op true 5 (.op true 8 (.op true 9 (.op true 10 (.op true 11 (.op true 12 (.op false 6 (.op false 7 (.op false 13 (.op true 14 .nil)))))))))))))))), (68, 10, 9, (.op true 0 (.op true 1 (.op true 2 (.op true 3 (.op true 4 (.op true 5 (.op true 6 (.op false 7 (.op false 8 .nil)))))))))), (68, 12, 20, (.op true 0 (.op true 1 (.op true 2 (.op true 3 (.op true 4 (.op true 5 (.op true 6 (.op true 7 (.op true 8 (.op true 9 (.op true 10 (.op true 11 (.op true 12 (.op true 13 (.op true 14 (.op true 15 (.op true 16 (.op true 17 (.op true 18 (.op true 19 .nil)))))))))))))))))))))]
noncomputable def cx_ref52_costs : Cx := ⟨Tryd.prog, gtab, [zfo 0, zfn 1, zf4 2, zf2 3], [], hd_ref52_costs, pl_ref52_costs, []⟩
def tr_ref52_costs : Tree := (.req (.o2 .lei (.int 0) (.o2 (.add .i64) (.o1 .len (.v 0)) (.int 1))) (.req (.o2 .lei (.o2 (.add .i64) (.o1 .len (.v 0)) (.int 1)) (.o2 (.add .i64) (.o1 .len (.v 0)) (.int 1))) (.req (.o2 .lei (.o2 (.add .i64) (.o1 .len (.v 0)) (.int 1)) (.int 1099511627776)) (.call 0 []
  (.call 1 []
    (.loop [(.o2 (.sub .i64) (.o1 .len (.v 0)) (.int 1)), (.o2 .repl (.o2 (.add .i64) (.o1 .len (.v 0)) (.int 1)) (.int 0))]
      (.br (.o2 .lei (.int 0) (.v 3))
        (.req (.o2 .lei (.int 0) (.v 3)) (.req (.o2 .lti (.v 3) (.o1 .len (.v 0))) (.req (.o2 .lei (.int 0) (.o2 (.add .i64) (.v 3) (.int 1))) (.req (.o2 .lti (.o2 (.add .i64) (.v 3) (.int 1)) (.o1 .len (.v 4))) (.call 3 [(.o2 .idx (.v 0) (.v 3))]
          (.req (.o2 .lei (.int 0) (.v 3)) (.req (.o2 .lti (.v 3) (.o1 .len (.v 4))) (.loop [(.int 0), (.o3 .set (.v 4) (.v 3) (.o2 (.add .i64) (.o1 .len (.v 5)) (.o2 .idx (.v 4) (.o2 (.add .i64) (.v 3) (.int 1)))))]
            (.br (.o2 .lti (.v 6) (.o1 .len (.v 1)))
              (.req (.o2 .lei (.int 0) (.v 3)) (.req (.o2 .lei (.v 3) (.o1 .len (.v 0))) (.req (.o2 .lei (.int 0) (.v 6)) (.req (.o2 .lti (.v 6) (.o1 .len (.v 1))) (.call 2 [(.o3 .sub (.v 0) (.v 3) (.o1 .len (.v 0))), (.o2 .idx (.v 1) (.v 6))]
                (.br (.o2 .lti (.int 0) (.v 8))
                  (.req (.o2 .lei (.int 0) (.v 3)) (.req (.o2 .lti (.v 3) (.o1 .len (.v 7))) (.req (.o2 .lei (.int 0) (.v 6)) (.req (.o2 .lti (.v 6) (.o1 .len (.v 2))) (.req (.o2 .lei (.int 0) (.o2 (.add .i64) (.v 3) (.v 8))) (.req (.o2 .lti (.o2 (.add .i64) (.v 3) (.v 8)) (.o1 .len (.v 7))) (.req (.o2 .lei (.int 0) (.v 3)) (.req (.o2 .lti (.v 3) (.o1 .len (.v 7))) (.back 1 [(.o2 (.add .i64) (.v 6) (.int 1)), (.o3 .set (.v 7) (.v 3) (.o2 .min (.o2 .idx (.v 7) (.v 3)) (.o2 (.add .i64) (.o1 .slen (.o2 .idx (.v 2) (.v 6))) (.o2 .idx (.v 7) (.o2 (.add .i64) (.v 3) (.v 8))))))])))))))))
                  (.back 1 [(.o2 (.add .i64) (.v 6) (.int 1)), (.v 7)])))))))
              (.back 0 [(.o2 (.sub .i64) (.v 3) (.int 1)), (.v 7)]))))))))))
        (.ret (.v 4)))))))))
set_option maxRecDepth 100000 in
theorem z6e : za4 cx_ref52_costs 4 sg_ref52_costs Tryd.f68 (Tryd.f68.body.getD .skip) = tr_ref52_costs := by kernel_rfl
theorem z6n {Γ : CEnv} (hg : ∀ n, Γ.glob n = globT n) (hs : ∀ s ∈ cx_ref52_costs.sigs, Contract Tryd.prog Γ gtab s (Γ.pre s.no) (Γ.post s.no)) : CxOk cx_ref52_costs Γ := ⟨by kernel_rfl, hs, (fun x hx => by cases hx), (fun x hx => by cases hx)⟩
theorem zl6 {Γ : CEnv} (hg : ∀ n, Γ.glob n = globT n) (hs : ∀ s ∈ cx_ref52_costs.sigs, Contract Tryd.prog Γ gtab s (Γ.pre s.no) (Γ.post s.no)) (k : Nat) {pre : List TV → Prop} {post : List TV → TV → Prop} (h : ∀ ts, ts.length = 1 → pre ts → tr_ref52_costs.den Γ (post ts) ts []) : Contract Tryd.prog Γ gtab (zkr k) pre post :=
  Contract.renum (zas (z6n hg hs) 4 sg_ref52_costs Tryd.func68 (by kernel_rfl) (by kernel_rfl) fun ts hl hp => by rw [z6e]; exact h ts hl hp) k
def sg_ref52_Translate : Sig := ⟨46, 0, [(false, [.str])], [(false, [((.slice false [(.int .u8)]), some 5)]), (false, [((.slice false [(.int .i64)]), some 3)])]⟩
def zfu (k : Nat) : Sig := ⟨sg_ref52_Translate.f, k, sg_ref52_Translate.args, sg_ref52_Translate.res⟩
def z0b : List (FuncId × Nat × Head) := [(46, 6, ⟨[4, 5, 6, 7, 8, 9, 10], [.slot 4 true 21 false [(.int .i32)], .slot 5 true 3 false [(.int .i64)], .slot 6 true 9 false [.str], .slot 7 true 9 false [.str], .slot 8 true 5 false [(.int .u8)], .slot 9 true 3 false [(.int .i64)]], [10], [5, 4], [], []⟩), (46, 17, ⟨[4, 5, 6, 7, 8, 9, 10, 11, 12, 15], [.slot 4 true 21 false [(.int .i32)], .slot 5 true 3 false [(.int .i64)], .slot 6 true 9 false [.str], .slot 7 true 9 false [.str], .slot 8 true 5 false [(.int .u8)], .slot 9 true 3 false [(.int .i64)]], [15], [5, 4], [], []⟩), (46, 11, ⟨[4, 5, 6, 7, 8, 9, 10, 11, 12, 13], [.slot 4 true 21 false [(.int .i32)], .slot 5 true 3 false [(.int .i64)], .slot 6 true 9 false [.str], .slot 7 true 9 false [.str], .slot 8 true 5 false [(.int .u8)], .slot 9 true 3 false [(.int .i64)]], [12, 13, 11], [6], [], [12]⟩)]
def z2e : List (FuncId × Nat × Nat × Plan) := [(46, 8, 13, (.op true 0 (.op true 1 (.op true 2 (.op true 3 (.op true 4 (.op true 5 (.op true 6 (.op true 7 (.op true 8 (.op true 9 (.op true 10 (.op true 11 (.op true 12 .nil)))))))))))))), (46, 13, 9, (.op true 0 (.op true 1 (.op true 2 (.op true 3 (.op true 4 (.op true 5 (.op true 6 (.op false 7 (.op false 8 .nil)))))))))), (46, 14, 22, (.op true 0 (.op true 1 (.op true 2 (.op true 3 (.op true 4 (.op true 5 (.op true 6 (.op true 7 (.op true 8 (.op true 9 (.op true 10 (.op true 11 (.op true 12 (.op true 13 (.op true 14 (.op true 15 (.op true 16 (.op true 17 (.op true 18 (.op true 19 (.op true 20 (.op true 21 .nil))))))))))))))))))))))), (46, 15, 8, (.op true 0 (.op true 1 (.op true 2 (.op true 3 (.op true 4 (.op true 6 (.op false 5 (.op false 7 .nil)))))))))]
noncomputable def cx_ref52_Translate : Cx := ⟨Tryd.prog, gtab, [zb4 0, zfo 1, zfn 2, zf4 3, zf2 4, zkr 5], [], z0b, z2e, []⟩
def tr_ref52_Translate : Tree := (.call 0 [(.v 0)]
  (.call 5 [(.v 1)]
    (.call 1 []
      (.call 2 []
        (.loop [(.int 0), .nil, .nil]
          (.br (.o2 .lti (.v 5) (.o1 .len (.v 1)))
            (.req (.o2 .lei (.int 0) (.v 5)) (.req (.o2 .lti (.v 5) (.o1 .len (.v 1))) (.call 4 [(.o2 .idx (.v 1) (.v 5))]
              (.req (.o2 .lei (.int 0) (.v 5)) (.req (.o2 .lti (.v 5) (.o1 .len (.v 2))) (.req (.o2 .lei (.int 0) (.o2 (.add .i64) (.v 5) (.int 1))) (.req (.o2 .lti (.o2 (.add .i64) (.v 5) (.int 1)) (.o1 .len (.v 2))) (.br (.o1 .no (.o2 .eqi (.o2 .idx (.v 2) (.v 5)) (.o2 (.add .i64) (.o1 .len (.v 8)) (.o2 .idx (.v 2) (.o2 (.add .i64) (.v 5) (.int 1))))))
                (.loop [(.int 0), (.v 8), (.int 0)]
                  (.br (.o2 .lti (.v 11) (.o1 .len (.v 3)))
                    (.req (.o2 .lei (.int 0) (.v 5)) (.req (.o2 .lei (.v 5) (.o1 .len (.v 1))) (.req (.o2 .lei (.int 0) (.v 11)) (.req (.o2 .lti (.v 11) (.o1 .len (.v 3))) (.call 3 [(.o3 .sub (.v 1) (.v 5) (.o1 .len (.v 1))), (.o2 .idx (.v 3) (.v 11))]
                      (.br (.o2 .lti (.v 9) (.v 12))
                        (.req (.o2 .lei (.int 0) (.v 5)) (.req (.o2 .lti (.v 5) (.o1 .len (.v 2))) (.req (.o2 .lei (.int 0) (.v 11)) (.req (.o2 .lti (.v 11) (.o1 .len (.v 4))) (.req (.o2 .lei (.int 0) (.o2 (.add .i64) (.v 5) (.v 12))) (.req (.o2 .lti (.o2 (.add .i64) (.v 5) (.v 12)) (.o1 .len (.v 2))) (.br (.o2 .eqi (.o2 .idx (.v 2) (.v 5)) (.o2 (.add .i64) (.o1 .slen (.o2 .idx (.v 4) (.v 11))) (.o2 .idx (.v 2) (.o2 (.add .i64) (.v 5) (.v 12)))))
                          (.req (.o2 .lei (.int 0) (.v 11)) (.req (.o2 .lti (.v 11) (.o1 .len (.v 4))) (.req (.o2 .lei (.o1 .slen (.o2 .idx (.v 4) (.v 11))) (.int 1099511627776)) (.back 1 [(.v 12), (.o1 .bytesOf (.o2 .idx (.v 4) (.v 11))), (.o2 (.add .i64) (.v 11) (.int 1))]))))
                          (.back 1 [(.v 9), (.v 10), (.o2 (.add .i64) (.v 11) (.int 1))]))))))))
                        (.back 1 [(.v 9), (.v 10), (.o2 (.add .i64) (.v 11) (.int 1))])))))))
                    (.loop [(.int 0), (.v 6), (.v 7)]
                      (.br (.o2 .lti (.v 12) (.o1 .len (.v 10)))
                        (.req (.o2 .lei (.int 0) (.v 12)) (.req (.o2 .lti (.v 12) (.o1 .len (.v 10))) (.req (.o2 .lei (.o1 .len (.o2 .app (.v 13) (.cons (.o2 .idx (.v 10) (.v 12)) .nil))) (.int 1099511627776)) (.req (.o2 .lei (.o1 .len (.o2 .app (.v 14) (.cons (.v 5) .nil))) (.int 1099511627776)) (.back 2 [(.o2 (.add .i64) (.v 12) (.int 1)), (.o2 .app (.v 13) (.cons (.o2 .idx (.v 10) (.v 12)) .nil)), (.o2 .app (.v 14) (.cons (.v 5) .nil))])))))
                        (.back 0 [(.o2 (.add .i64) (.v 5) (.v 9)), (.v 13), (.v 14)])))))
                (.loop [(.int 1), (.v 8), (.int 0)]
                  (.br (.o2 .lti (.v 11) (.o1 .len (.v 3)))
                    (.req (.o2 .lei (.int 0) (.v 5)) (.req (.o2 .lei (.v 5) (.o1 .len (.v 1))) (.req (.o2 .lei (.int 0) (.v 11)) (.req (.o2 .lti (.v 11) (.o1 .len (.v 3))) (.call 3 [(.o3 .sub (.v 1) (.v 5) (.o1 .len (.v 1))), (.o2 .idx (.v 3) (.v 11))]
                      (.br (.o2 .lti (.v 9) (.v 12))
                        (.req (.o2 .lei (.int 0) (.v 5)) (.req (.o2 .lti (.v 5) (.o1 .len (.v 2))) (.req (.o2 .lei (.int 0) (.v 11)) (.req (.o2 .lti (.v 11) (.o1 .len (.v 4))) (.req (.o2 .lei (.int 0) (.o2 (.add .i64) (.v 5) (.v 12))) (.req (.o2 .lti (.o2 (.add .i64) (.v 5) (.v 12)) (.o1 .len (.v 2))) (.br (.o2 .eqi (.o2 .idx (.v 2) (.v 5)) (.o2 (.add .i64) (.o1 .slen (.o2 .idx (.v 4) (.v 11))) (.o2 .idx (.v 2) (.o2 (.add .i64) (.v 5) (.v 12)))))
                          (.req (.o2 .lei (.int 0) (.v 11)) (.req (.o2 .lti (.v 11) (.o1 .len (.v 4))) (.req (.o2 .lei (.o1 .slen (.o2 .idx (.v 4) (.v 11))) (.int 1099511627776)) (.back 1 [(.v 12), (.o1 .bytesOf (.o2 .idx (.v 4) (.v 11))), (.o2 (.add .i64) (.v 11) (.int 1))]))))
                          (.back 1 [(.v 9), (.v 10), (.o2 (.add .i64) (.v 11) (.int 1))]))))))))
                        (.back 1 [(.v 9), (.v 10), (.o2 (.add .i64) (.v 11) (.int 1))])))))))
                    (.loop [(.int 0), (.v 6), (.v 7)]
                      (.br (.o2 .lti (.v 12) (.o1 .len (.v 10)))
                        (.req (.o2 .lei (.int 0) (.v 12)) (.req (.o2 .lti (.v 12) (.o1 .len (.v 10))) (.req (.o2 .lei (.o1 .len (.o2 .app (.v 13) (.cons (.o2 .idx (.v 10) (.v 12)) .nil))) (.int 1099511627776)) (.req (.o2 .lei (.o1 .len (.o2 .app (.v 14) (.cons (.v 5) .nil))) (.int 1099511627776)) (.back 2 [(.o2 (.add .i64) (.v 12) (.int 1)), (.o2 .app (.v 13) (.cons (.o2 .idx (.v 10) (.v 12)) .nil)), (.o2 .app (.v 14) (.cons (.v 5) .nil))])))))
                        (.back 0 [(.o2 (.add .i64) (.v 5) (.v 9)), (.v 13), (.v 14)])))))))))))))
            (.ret (.o1 .agg (.cons (.v 6) (.cons (.v 7) .nil))))))))))
set_option maxRecDepth 100000 in
theorem zxw : za4 cx_ref52_Translate 4 sg_ref52_Translate Tryd.f46 (Tryd.f46.body.getD .skip) = tr_ref52_Translate := by kernel_rfl
theorem zxj {Γ : CEnv} (hg : ∀ n, Γ.glob n = globT n) (hs : ∀ s ∈ cx_ref52_Translate.sigs, Contract Tryd.prog Γ gtab s (Γ.pre s.no) (Γ.post s.no)) : CxOk cx_ref52_Translate Γ := ⟨by kernel_rfl, hs, (fun x hx => by cases hx), (fun x hx => by cases hx)⟩
theorem zij {Γ : CEnv} (hg : ∀ n, Γ.glob n = globT n) (hs : ∀ s ∈ cx_ref52_Translate.sigs, Contract Tryd.prog Γ gtab s (Γ.pre s.no) (Γ.post s.no)) (k : Nat) {pre : List TV → Prop} {post : List TV → TV → Prop} (h : ∀ ts, ts.length = 1 → pre ts → tr_ref52_Translate.den Γ (post ts) ts []) : Contract Tryd.prog Γ gtab (zfu k) pre post :=
  Contract.renum (zas (zxj hg hs) 4 sg_ref52_Translate Tryd.func46 (by kernel_rfl) (by kernel_rfl) fun ts hl hp => by rw [zxw]; exact h ts hl hp) k
end Go.Proofs.YtgdlkhemopildaaDoor


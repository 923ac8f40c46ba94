/- Written by this repo's own program out of its texts. -/
import Derived.Test.YtlhagkbhojmjpaaGreatDoorRD1
namespace Go.Proofs.YtlhagkbhojmjpaaGreatDoor
set_option linter.unusedVariables false
set_option linter.unusedSimpArgs false
def sg_strings_HasPrefix : Sig := ⟨45, 0, [(false, [.str]), (false, [.str])], [(false, [(.bool, none)])]⟩
def zeh (k : Nat) : Sig := ⟨sg_strings_HasPrefix.f, k, sg_strings_HasPrefix.args, sg_strings_HasPrefix.res⟩
def zxm : List (FuncId × Nat × Head) := []
def zx4 : List (FuncId × Nat × Nat × Plan) := []
noncomputable def cx_strings_HasPrefix : Cx := ⟨Tryz.prog, gtab, [], [(80, Tryz.f80)], zxm, zx4, []⟩
def tr_strings_HasPrefix : Tree := (.br (.o2 .lei (.o1 .slen (.v 1)) (.o1 .slen (.v 0)))
  (.req (.o2 .lei (.int 0) (.o1 .slen (.v 1))) (.req (.o2 .lei (.o1 .slen (.v 1)) (.o1 .slen (.v 0))) (.ret (.o2 .eqs (.o3 .ssub (.v 0) (.int 0) (.o1 .slen (.v 1))) (.v 1)))))
  (.ret (.bool false)))
set_option maxRecDepth 100000 in
theorem zt2 : za4 cx_strings_HasPrefix 4 sg_strings_HasPrefix Tryz.f45 (Tryz.f45.body.getD .skip) = tr_strings_HasPrefix := by kernel_rfl
theorem zt9 {Γ : CEnv} (hg : ∀ n, Γ.glob n = globT n) (hs : ∀ s ∈ cx_strings_HasPrefix.sigs, Contract Tryz.prog Γ gtab s (Γ.pre s.no) (Γ.post s.no)) : CxOk cx_strings_HasPrefix Γ := ⟨by kernel_rfl, hs, (fun x hx => by
  simp only [cx_strings_HasPrefix, List.mem_cons, List.not_mem_nil, or_false] at hx
  rcases hx with rfl
  · exact ⟨Tryz.func80, by kernel_rfl⟩), (fun x hx => by cases hx)⟩
theorem zhd {Γ : CEnv} (hg : ∀ n, Γ.glob n = globT n) (hs : ∀ s ∈ cx_strings_HasPrefix.sigs, Contract Tryz.prog Γ gtab s (Γ.pre s.no) (Γ.post s.no)) (k : Nat) {pre : List TV → Prop} {post : List TV → TV → Prop} (h : ∀ ts, ts.length = 2 → pre ts → tr_strings_HasPrefix.den Γ (post ts) ts []) : Contract Tryz.prog Γ gtab (zeh k) pre post :=
  Contract.renum (zas (zt9 hg hs) 4 sg_strings_HasPrefix Tryz.func45 (by kernel_rfl) (by kernel_rfl) fun ts hl hp => by rw [zt2]; exact h ts hl hp) k
def sg_contraction_letter : Sig := ⟨135, 0, [(false, [(.int .i32)])], [(false, [(.str, none)])]⟩
def zd7 (k : Nat) : Sig := ⟨sg_contraction_letter.f, k, sg_contraction_letter.args, sg_contraction_letter.res⟩
def zvd : List (FuncId × Nat × Head) := []
def zwt : List (FuncId × Nat × Nat × Plan) := []
noncomputable def cx_contraction_letter : Cx := ⟨Tryz.prog, gtab, [zcb 0], [], zvd, zwt, []⟩
def tr_contraction_letter : Tree := (.call 0 [(.v 0)]
  (.ret (.o1 .strOf (.cons (.o1 (.proj 0) (.v 1)) .nil))))
set_option maxRecDepth 100000 in
theorem zsn : za4 cx_contraction_letter 4 sg_contraction_letter Tryz.f135 (Tryz.f135.body.getD .skip) = tr_contraction_letter := by kernel_rfl
theorem ztn {Γ : CEnv} (hg : ∀ n, Γ.glob n = globT n) (hs : ∀ s ∈ cx_contraction_letter.sigs, Contract Tryz.prog Γ gtab s (Γ.pre s.no) (Γ.post s.no)) : CxOk cx_contraction_letter Γ := ⟨by kernel_rfl, hs, (fun x hx => by cases hx), (fun x hx => by cases hx)⟩
theorem zfz {Γ : CEnv} (hg : ∀ n, Γ.glob n = globT n) (hs : ∀ s ∈ cx_contraction_letter.sigs, Contract Tryz.prog Γ gtab s (Γ.pre s.no) (Γ.post s.no)) (k : Nat) {pre : List TV → Prop} {post : List TV → TV → Prop} (h : ∀ ts, ts.length = 1 → pre ts → tr_contraction_letter.den Γ (post ts) ts []) : Contract Tryz.prog Γ gtab (zd7 k) pre post :=
  Contract.renum (zas (ztn hg hs) 4 sg_contraction_letter Tryz.func135 (by kernel_rfl) (by kernel_rfl) fun ts hl hp => by rw [zsn]; exact h ts hl hp) k
def sg_contraction_signs : Sig := ⟨106, 0, [], [(false, [((.slice true [.str, .str]), some 185)])]⟩
def zda (k : Nat) : Sig := ⟨sg_contraction_signs.f, k, sg_contraction_signs.args, sg_contraction_signs.res⟩
def zxy : List (FuncId × Nat × Head) := []
def zxu : List (FuncId × Nat × Nat × Plan) := []
noncomputable def cx_contraction_signs : Cx := ⟨Tryz.prog, gtab, [zd7 0], [], zxy, zxu, []⟩
def tr_contraction_signs : Tree := (.call 0 [(.int 100)]
  (.req (.o2 .lei (.o1 .slen (.o2 .cat (.str [168]) (.v 0))) (.int 9223372036854775807)) (.call 0 [(.int 101)]
    (.req (.o2 .lei (.o1 .slen (.o2 .cat (.str [168]) (.v 1))) (.int 9223372036854775807)) (.call 0 [(.int 110)]
      (.req (.o2 .lei (.o1 .slen (.o2 .cat (.str [168]) (.v 2))) (.int 9223372036854775807)) (.call 0 [(.int 115)]
        (.req (.o2 .lei (.o1 .slen (.o2 .cat (.str [168]) (.v 3))) (.int 9223372036854775807)) (.call 0 [(.int 116)]
          (.req (.o2 .lei (.o1 .slen (.o2 .cat (.str [168]) (.v 4))) (.int 9223372036854775807)) (.call 0 [(.int 101)]
            (.req (.o2 .lei (.o1 .slen (.o2 .cat (.str [176]) (.v 5))) (.int 9223372036854775807)) (.call 0 [(.int 103)]
              (.req (.o2 .lei (.o1 .slen (.o2 .cat (.str [176]) (.v 6))) (.int 9223372036854775807)) (.call 0 [(.int 108)]
                (.req (.o2 .lei (.o1 .slen (.o2 .cat (.str [176]) (.v 7))) (.int 9223372036854775807)) (.call 0 [(.int 110)]
                  (.req (.o2 .lei (.o1 .slen (.o2 .cat (.str [176]) (.v 8))) (.int 9223372036854775807)) (.call 0 [(.int 115)]
                    (.req (.o2 .lei (.o1 .slen (.o2 .cat (.str [176]) (.v 9))) (.int 9223372036854775807)) (.call 0 [(.int 116)]
                      (.req (.o2 .lei (.o1 .slen (.o2 .cat (.str [176]) (.v 10))) (.int 9223372036854775807)) (.call 0 [(.int 121)]
                        (.req (.o2 .lei (.o1 .slen (.o2 .cat (.str [176]) (.v 11))) (.int 9223372036854775807)) (.ret (.cons (.o1 .agg (.cons (.str [97, 110, 100]) (.cons (.str [175]) .nil))) (.cons (.o1 .agg (.cons (.str [102, 111, 114]) (.cons (.str [191]) .nil))) (.cons (.o1 .agg (.cons (.str [111, 102]) (.cons (.str [183]) .nil))) (.cons (.o1 .agg (.cons (.str [116, 104, 101]) (.cons (.str [174]) .nil))) (.cons (.o1 .agg (.cons (.str [119, 105, 116, 104]) (.cons (.str [190]) .nil))) (.cons (.o1 .agg (.cons (.str [99, 104]) (.cons (.str [161]) .nil))) (.cons (.o1 .agg (.cons (.str [103, 104]) (.cons (.str [163]) .nil))) (.cons (.o1 .agg (.cons (.str [115, 104]) (.cons (.str [169]) .nil))) (.cons (.o1 .agg (.cons (.str [116, 104]) (.cons (.str [185]) .nil))) (.cons (.o1 .agg (.cons (.str [119, 104]) (.cons (.str [177]) .nil))) (.cons (.o1 .agg (.cons (.str [101, 100]) (.cons (.str [171]) .nil))) (.cons (.o1 .agg (.cons (.str [101, 114]) (.cons (.str [187]) .nil))) (.cons (.o1 .agg (.cons (.str [111, 117]) (.cons (.str [179]) .nil))) (.cons (.o1 .agg (.cons (.str [111, 119]) (.cons (.str [170]) .nil))) (.cons (.o1 .agg (.cons (.str [115, 116]) (.cons (.str [140]) .nil))) (.cons (.o1 .agg (.cons (.str [105, 110, 103]) (.cons (.str [172]) .nil))) (.cons (.o1 .agg (.cons (.str [97, 114]) (.cons (.str [156]) .nil))) (.cons (.o1 .agg (.cons (.str [101, 110]) (.cons (.str [162]) .nil))) (.cons (.o1 .agg (.cons (.str [105, 110]) (.cons (.str [148]) .nil))) (.cons (.o1 .agg (.cons (.str [101, 97]) (.cons (.str [130]) .nil))) (.cons (.o1 .agg (.cons (.str [98, 98]) (.cons (.str [134]) .nil))) (.cons (.o1 .agg (.cons (.str [99, 99]) (.cons (.str [146]) .nil))) (.cons (.o1 .agg (.cons (.str [102, 102]) (.cons (.str [150]) .nil))) (.cons (.o1 .agg (.cons (.str [103, 103]) (.cons (.str [182]) .nil))) (.cons (.o1 .agg (.cons (.str [111, 117, 110, 100]) (.cons (.o2 .cat (.str [168]) (.v 0)) .nil))) (.cons (.o1 .agg (.cons (.str [97, 110, 99, 101]) (.cons (.o2 .cat (.str [168]) (.v 1)) .nil))) (.cons (.o1 .agg (.cons (.str [115, 105, 111, 110]) (.cons (.o2 .cat (.str [168]) (.v 2)) .nil))) (.cons (.o1 .agg (.cons (.str [108, 101, 115, 115]) (.cons (.o2 .cat (.str [168]) (.v 3)) .nil))) (.cons (.o1 .agg (.cons (.str [111, 117, 110, 116]) (.cons (.o2 .cat (.str [168]) (.v 4)) .nil))) (.cons (.o1 .agg (.cons (.str [101, 110, 99, 101]) (.cons (.o2 .cat (.str [176]) (.v 5)) .nil))) (.cons (.o1 .agg (.cons (.str [111, 110, 103]) (.cons (.o2 .cat (.str [176]) (.v 6)) .nil))) (.cons (.o1 .agg (.cons (.str [102, 117, 108]) (.cons (.o2 .cat (.str [176]) (.v 7)) .nil))) (.cons (.o1 .agg (.cons (.str [116, 105, 111, 110]) (.cons (.o2 .cat (.str [176]) (.v 8)) .nil))) (.cons (.o1 .agg (.cons (.str [110, 101, 115, 115]) (.cons (.o2 .cat (.str [176]) (.v 9)) .nil))) (.cons (.o1 .agg (.cons (.str [109, 101, 110, 116]) (.cons (.o2 .cat (.str [176]) (.v 10)) .nil))) (.cons (.o1 .agg (.cons (.str [105, 116, 121]) (.cons (.o2 .cat (.str [176]) (.v 11)) .nil))) .nil)))))))))))))))))))))))))))))))))))))))))))))))))))))))))))))
set_option maxRecDepth 100000 in
theorem zt4 : za4 cx_contraction_signs 4 sg_contraction_signs Tryz.f106 (Tryz.f106.body.getD .skip) = tr_contraction_signs := by kernel_rfl
theorem ztv {Γ : CEnv} (hg : ∀ n, Γ.glob n = globT n) (hs : ∀ s ∈ cx_contraction_signs.sigs, Contract Tryz.prog Γ gtab s (Γ.pre s.no) (Γ.post s.no)) : CxOk cx_contraction_signs Γ := ⟨by kernel_rfl, hs, (fun x hx => by cases hx), (fun x hx => by cases hx)⟩
theorem zhb {Γ : CEnv} (hg : ∀ n, Γ.glob n = globT n) (hs : ∀ s ∈ cx_contraction_signs.sigs, Contract Tryz.prog Γ gtab s (Γ.pre s.no) (Γ.post s.no)) (k : Nat) {pre : List TV → Prop} {post : List TV → TV → Prop} (h : ∀ ts, ts.length = 0 → pre ts → tr_contraction_signs.den Γ (post ts) ts []) : Contract Tryz.prog Γ gtab (zda k) pre post :=
  Contract.renum (zas (ztv hg hs) 4 sg_contraction_signs Tryz.func106 (by kernel_rfl) (by kernel_rfl) fun ts hl hp => by rw [zt4]; exact h ts hl hp) k
def sg_contraction_characters : Sig := ⟨83, 0, [(false, [.str])], [(false, [((.slice false [(.int .i32)]), some 21)])]⟩
def zcx (k : Nat) : Sig := ⟨sg_contraction_characters.f, k, sg_contraction_characters.args, sg_contraction_characters.res⟩
def zp5 : List (FuncId × Nat × Head) := []
def zpn : List (FuncId × Nat × Nat × Plan) := []
noncomputable def cx_contraction_characters : Cx := ⟨Tryz.prog, gtab, [zcj 0, zbz 1], [], zp5, zpn, []⟩
def tr_contraction_characters : Tree := (.call 0 [(.str []), (.v 0)]
  (.call 1 [(.o1 (.proj 1) (.v 1))]
    (.req (.o2 .lei (.o1 .len (.o2 .app (.o1 (.proj 0) (.v 1)) (.v 2))) (.int 1099511627776)) (.ret (.o2 .app (.o1 (.proj 0) (.v 1)) (.v 2))))))
set_option maxRecDepth 100000 in
theorem znq : za4 cx_contraction_characters 4 sg_contraction_characters Tryz.f83 (Tryz.f83.body.getD .skip) = tr_contraction_characters := by kernel_rfl
theorem zor {Γ : CEnv} (hg : ∀ n, Γ.glob n = globT n) (hs : ∀ s ∈ cx_contraction_characters.sigs, Contract Tryz.prog Γ gtab s (Γ.pre s.no) (Γ.post s.no)) : CxOk cx_contraction_characters Γ := ⟨by kernel_rfl, hs, (fun x hx => by cases hx), (fun x hx => by cases hx)⟩
theorem zep {Γ : CEnv} (hg : ∀ n, Γ.glob n = globT n) (hs : ∀ s ∈ cx_contraction_characters.sigs, Contract Tryz.prog Γ gtab s (Γ.pre s.no) (Γ.post s.no)) (k : Nat) {pre : List TV → Prop} {post : List TV → TV → Prop} (h : ∀ ts, ts.length = 1 → pre ts → tr_contraction_characters.den Γ (post ts) ts []) : Contract Tryz.prog Γ gtab (zcx k) pre post :=
  Contract.renum (zas (zor hg hs) 4 sg_contraction_characters Tryz.func83 (by kernel_rfl) (by kernel_rfl) fun ts hl hp => by rw [znq]; exact h ts hl hp) k
def sg_contraction_alone : Sig := ⟨107, 0, [(false, [(.int .i32)])], [(false, [((.slice false [(.int .u8)]), some 5)])]⟩
def zef (k : Nat) : Sig := ⟨sg_contraction_alone.f, k, sg_contraction_alone.args, sg_contraction_alone.res⟩
def zx3 : List (FuncId × Nat × Head) := []
def zx1 : List (FuncId × Nat × Nat × Plan) := []
noncomputable def cx_contraction_alone : Cx := ⟨Tryz.prog, gtab, [zci 0, zb7 1], [], zx3, zx1, []⟩
def tr_contraction_alone : Tree := (.call 0 [(.cons (.v 0) .nil)]
  (.call 1 [(.v 1)]
    (.ret (.v 2))))
set_option maxRecDepth 100000 in
theorem ztw : za4 cx_contraction_alone 4 sg_contraction_alone Tryz.f107 (Tryz.f107.body.getD .skip) = tr_contraction_alone := by kernel_rfl
theorem zt6 {Γ : CEnv} (hg : ∀ n, Γ.glob n = globT n) (hs : ∀ s ∈ cx_contraction_alone.sigs, Contract Tryz.prog Γ gtab s (Γ.pre s.no) (Γ.post s.no)) : CxOk cx_contraction_alone Γ := ⟨by kernel_rfl, hs, (fun x hx => by cases hx), (fun x hx => by cases hx)⟩
theorem zg7 {Γ : CEnv} (hg : ∀ n, Γ.glob n = globT n) (hs : ∀ s ∈ cx_contraction_alone.sigs, Contract Tryz.prog Γ gtab s (Γ.pre s.no) (Γ.post s.no)) (k : Nat) {pre : List TV → Prop} {post : List TV → TV → Prop} (h : ∀ ts, ts.length = 1 → pre ts → tr_contraction_alone.den Γ (post ts) ts []) : Contract Tryz.prog Γ gtab (zef k) pre post :=
  Contract.renum (zas (zt6 hg hs) 4 sg_contraction_alone Tryz.func107 (by kernel_rfl) (by kernel_rfl) fun ts hl hp => by rw [ztw]; exact h ts hl hp) k
def sg_contraction_begins : Sig := ⟨108, 0, [(false, [(.slice false [(.int .i32)])]), (false, [.str])], [(false, [(.bool, none)])]⟩
def zd0 (k : Nat) : Sig := ⟨sg_contraction_begins.f, k, sg_contraction_begins.args, sg_contraction_begins.res⟩
def zvz : List (FuncId × Nat × Head) := [(108, 4, ⟨[0, 1, 12, 13], [], [13], [], [], []⟩)]
def zvo : List (FuncId × Nat × Nat × Plan) := [(108, 6, 9, (.op true 0 (.op true 1 (.op true 2 (.op true 3 (.op true 4 (.op true 5 (.op true 6 (.op true 7 (.op true 8 .nil))))))))))]
noncomputable def cx_contraction_begins : Cx := ⟨Tryz.prog, gtab, [], [], zvz, zvo, []⟩
def tr_contraction_begins : Tree := (.br (.o2 .lti (.o1 .len (.v 0)) (.o1 .slen (.v 1)))
  (.ret (.bool false))
  (.loop [(.int 0)]
    (.br (.o2 .lti (.v 2) (.o1 .slen (.v 1)))
      (.req (.o2 .lei (.int 0) (.v 2)) (.req (.o2 .lti (.v 2) (.o1 .len (.v 0))) (.req (.o2 .lei (.int 0) (.v 2)) (.req (.o2 .lti (.v 2) (.o1 .slen (.v 1))) (.br (.o1 .no (.o2 .eqi (.o2 .idx (.v 0) (.v 2)) (.o1 (.wrap .i32) (.o2 .sidx (.v 1) (.v 2)))))
        (.ret (.bool false))
        (.back 0 [(.o2 (.add .i64) (.v 2) (.int 1))]))))))
      (.ret (.bool true)))))
set_option maxRecDepth 100000 in
theorem zsj : za4 cx_contraction_begins 4 sg_contraction_begins Tryz.f108 (Tryz.f108.body.getD .skip) = tr_contraction_begins := by kernel_rfl
theorem zsw {Γ : CEnv} (hg : ∀ n, Γ.glob n = globT n) (hs : ∀ s ∈ cx_contraction_begins.sigs, Contract Tryz.prog Γ gtab s (Γ.pre s.no) (Γ.post s.no)) : CxOk cx_contraction_begins Γ := ⟨by kernel_rfl, hs, (fun x hx => by cases hx), (fun x hx => by cases hx)⟩
theorem zgb {Γ : CEnv} (hg : ∀ n, Γ.glob n = globT n) (hs : ∀ s ∈ cx_contraction_begins.sigs, Contract Tryz.prog Γ gtab s (Γ.pre s.no) (Γ.post s.no)) (k : Nat) {pre : List TV → Prop} {post : List TV → TV → Prop} (h : ∀ ts, ts.length = 2 → pre ts → tr_contraction_begins.den Γ (post ts) ts []) : Contract Tryz.prog Γ gtab (zd0 k) pre post :=
  Contract.renum (zas (zsw hg hs) 4 sg_contraction_begins Tryz.func108 (by kernel_rfl) (by kernel_rfl) fun ts hl hp => by rw [zsj]; exact h ts hl hp) k
def sg_contraction_divide : Sig := ⟨84, 0, [(false, [(.slice false [(.int .i32)])])], [(false, [((.slice true [(.int .i64), (.slice false [(.int .u8)]), (.int .i64)]), some 150)])]⟩
def zd3 (k : Nat) : Sig := ⟨sg_contraction_divide.f, k, sg_contraction_divide.args, sg_contraction_divide.res⟩
def zvm : List (FuncId × Nat × Head) := [(84, 4, ⟨[0, 3, 4, 5], [.slot 3 true 150 true [(.int .i64), (.slice false [(.int .u8)]), (.int .i64)], .slot 4 true 185 true [.str, .str]], [5], [0], [], []⟩), (84, 9, ⟨[0, 3, 4, 5, 42, 43, 44], [.slot 3 true 150 true [(.int .i64), (.slice false [(.int .u8)]), (.int .i64)], .slot 4 true 185 true [.str, .str]], [44], [0], [], []⟩)]
def zu7 : List (FuncId × Nat × Nat × Plan) := [(84, 11, 7, (.op true 0 (.op true 1 (.op true 2 (.op true 3 (.op true 4 (.op false 5 (.op false 6 .nil)))))))), (84, 13, 17, (.op true 0 (.op true 1 (.op true 2 (.op true 4 (.op true 5 (.op true 6 (.op true 7 (.op true 8 (.op true 9 (.op true 10 (.op true 11 (.op true 12 (.op true 13 (.op true 14 (.alt 3 (.alt 15 (.op false 16 .nil) (.op false 16 (.op false 15 .nil))) (.op false 16 (.op false 3 (.op false 15 .nil))))))))))))))))))), (84, 14, 27, (.op true 0 (.op true 1 (.op true 2 (.op true 3 (.op true 4 (.op true 5 (.op true 6 (.op true 7 (.op true 8 (.op true 9 (.op true 10 (.op true 11 (.op true 12 (.op true 13 (.op true 14 (.op true 15 (.op true 16 (.op true 17 (.op true 18 (.op true 19 (.op true 20 (.op true 21 (.op true 22 (.op true 23 (.op true 24 (.op true 25 (.op true 26 .nil))))))))))))))))))))))))))))]
noncomputable def cx_contraction_divide : Cx := ⟨Tryz.prog, gtab, [zda 0, zef 1, zd0 2], [], zvm, zu7, []⟩
def tr_contraction_divide : Tree := (.req (.o2 .lei (.int 0) (.o2 (.add .i64) (.o1 .len (.v 0)) (.int 1))) (.req (.o2 .lei (.o2 (.add .i64) (.o1 .len (.v 0)) (.int 1)) (.o2 (.add .i64) (.o1 .len (.v 0)) (.int 1))) (.req (.o2 .lei (.o2 (.add .i64) (.o1 .len (.v 0)) (.int 1)) (.int 1099511627776)) (.call 0 []
  (.loop [(.o2 (.sub .i64) (.o1 .len (.v 0)) (.int 1)), (.o2 .repl (.o2 (.add .i64) (.o1 .len (.v 0)) (.int 1)) (.o1 .agg (.cons (.int 0) (.cons .nil (.cons (.int 0) .nil)))))]
    (.br (.o2 .lei (.int 0) (.v 2))
      (.req (.o2 .lei (.int 0) (.v 2)) (.req (.o2 .lti (.v 2) (.o1 .len (.v 0))) (.call 1 [(.o2 .idx (.v 0) (.v 2))]
        (.req (.o2 .lei (.int 0) (.o2 (.add .i64) (.v 2) (.int 1))) (.req (.o2 .lti (.o2 (.add .i64) (.v 2) (.int 1)) (.o1 .len (.v 3))) (.req (.o2 .lei (.int 0) (.v 2)) (.req (.o2 .lti (.v 2) (.o1 .len (.v 3))) (.loop [(.int 0), (.o3 .set (.v 3) (.v 2) (.o1 .agg (.cons (.int 1) (.cons (.v 4) (.cons (.o2 (.add .i64) (.o1 .len (.v 4)) (.o1 (.proj 2) (.o2 .idx (.v 3) (.o2 (.add .i64) (.v 2) (.int 1))))) .nil)))))]
          (.br (.o2 .lti (.v 5) (.o1 .len (.v 1)))
            (.req (.o2 .lei (.int 0) (.v 5)) (.req (.o2 .lti (.v 5) (.o1 .len (.v 1))) (.req (.o2 .lei (.int 0) (.v 2)) (.req (.o2 .lei (.v 2) (.o1 .len (.v 0))) (.call 2 [(.o3 .sub (.v 0) (.v 2) (.o1 .len (.v 0))), (.o1 (.proj 0) (.o2 .idx (.v 1) (.v 5)))]
              (.br (.o1 .no (.v 7))
                (.back 1 [(.o2 (.add .i64) (.v 5) (.int 1)), (.v 6)])
                (.req (.o2 .lei (.int 0) (.o2 (.add .i64) (.v 2) (.o1 .slen (.o1 (.proj 0) (.o2 .idx (.v 1) (.v 5)))))) (.req (.o2 .lti (.o2 (.add .i64) (.v 2) (.o1 .slen (.o1 (.proj 0) (.o2 .idx (.v 1) (.v 5))))) (.o1 .len (.v 6))) (.both
                  (.req (.o2 .lei (.o1 .slen (.o1 (.proj 1) (.o2 .idx (.v 1) (.v 5)))) (.int 1099511627776)) (.both
                    (.req (.o2 .lei (.int 0) (.v 2)) (.req (.o2 .lti (.v 2) (.o1 .len (.v 6))) (.br (.o2 .lti (.o2 (.add .i64) (.o1 .slen (.o1 (.proj 1) (.o2 .idx (.v 1) (.v 5)))) (.o1 (.proj 2) (.o2 .idx (.v 6) (.o2 (.add .i64) (.v 2) (.o1 .slen (.o1 (.proj 0) (.o2 .idx (.v 1) (.v 5)))))))) (.o1 (.proj 2) (.o2 .idx (.v 6) (.v 2))))
                      (.req (.o2 .lei (.int 0) (.v 2)) (.req (.o2 .lti (.v 2) (.o1 .len (.v 6))) (.back 1 [(.o2 (.add .i64) (.v 5) (.int 1)), (.o3 .set (.v 6) (.v 2) (.o1 .agg (.cons (.o1 .slen (.o1 (.proj 0) (.o2 .idx (.v 1) (.v 5)))) (.cons (.o1 .bytesOf (.o1 (.proj 1) (.o2 .idx (.v 1) (.v 5)))) (.cons (.o2 (.add .i64) (.o1 .slen (.o1 (.proj 1) (.o2 .idx (.v 1) (.v 5)))) (.o1 (.proj 2) (.o2 .idx (.v 6) (.o2 (.add .i64) (.v 2) (.o1 .slen (.o1 (.proj 0) (.o2 .idx (.v 1) (.v 5)))))))) .nil)))))])))
                      (.req (.o2 .lei (.int 0) (.v 2)) (.req (.o2 .lti (.v 2) (.o1 .len (.v 6))) (.br (.o2 .eqi (.o2 (.add .i64) (.o1 .slen (.o1 (.proj 1) (.o2 .idx (.v 1) (.v 5)))) (.o1 (.proj 2) (.o2 .idx (.v 6) (.o2 (.add .i64) (.v 2) (.o1 .slen (.o1 (.proj 0) (.o2 .idx (.v 1) (.v 5)))))))) (.o1 (.proj 2) (.o2 .idx (.v 6) (.v 2))))
                        (.req (.o2 .lei (.int 0) (.v 2)) (.req (.o2 .lti (.v 2) (.o1 .len (.v 6))) (.br (.o2 .lti (.o1 (.proj 0) (.o2 .idx (.v 6) (.v 2))) (.o1 .slen (.o1 (.proj 0) (.o2 .idx (.v 1) (.v 5)))))
                          (.req (.o2 .lei (.int 0) (.v 2)) (.req (.o2 .lti (.v 2) (.o1 .len (.v 6))) (.back 1 [(.o2 (.add .i64) (.v 5) (.int 1)), (.o3 .set (.v 6) (.v 2) (.o1 .agg (.cons (.o1 .slen (.o1 (.proj 0) (.o2 .idx (.v 1) (.v 5)))) (.cons (.o1 .bytesOf (.o1 (.proj 1) (.o2 .idx (.v 1) (.v 5)))) (.cons (.o2 (.add .i64) (.o1 .slen (.o1 (.proj 1) (.o2 .idx (.v 1) (.v 5)))) (.o1 (.proj 2) (.o2 .idx (.v 6) (.o2 (.add .i64) (.v 2) (.o1 .slen (.o1 (.proj 0) (.o2 .idx (.v 1) (.v 5)))))))) .nil)))))])))
                          (.back 1 [(.o2 (.add .i64) (.v 5) (.int 1)), (.v 6)]))))
                        (.back 1 [(.o2 (.add .i64) (.v 5) (.int 1)), (.v 6)])))))))
                    (.req (.o2 .lei (.int 0) (.v 2)) (.req (.o2 .lti (.v 2) (.o1 .len (.v 6))) (.br (.o2 .lti (.o2 (.add .i64) (.o1 .slen (.o1 (.proj 1) (.o2 .idx (.v 1) (.v 5)))) (.o1 (.proj 2) (.o2 .idx (.v 6) (.o2 (.add .i64) (.v 2) (.o1 .slen (.o1 (.proj 0) (.o2 .idx (.v 1) (.v 5)))))))) (.o1 (.proj 2) (.o2 .idx (.v 6) (.v 2))))
                      (.req (.o2 .lei (.int 0) (.v 2)) (.req (.o2 .lti (.v 2) (.o1 .len (.v 6))) (.back 1 [(.o2 (.add .i64) (.v 5) (.int 1)), (.o3 .set (.v 6) (.v 2) (.o1 .agg (.cons (.o1 .slen (.o1 (.proj 0) (.o2 .idx (.v 1) (.v 5)))) (.cons (.o1 .bytesOf (.o1 (.proj 1) (.o2 .idx (.v 1) (.v 5)))) (.cons (.o2 (.add .i64) (.o1 .slen (.o1 (.proj 1) (.o2 .idx (.v 1) (.v 5)))) (.o1 (.proj 2) (.o2 .idx (.v 6) (.o2 (.add .i64) (.v 2) (.o1 .slen (.o1 (.proj 0) (.o2 .idx (.v 1) (.v 5)))))))) .nil)))))])))
                      (.req (.o2 .lei (.int 0) (.v 2)) (.req (.o2 .lti (.v 2) (.o1 .len (.v 6))) (.br (.o2 .eqi (.o2 (.add .i64) (.o1 .slen (.o1 (.proj 1) (.o2 .idx (.v 1) (.v 5)))) (.o1 (.proj 2) (.o2 .idx (.v 6) (.o2 (.add .i64) (.v 2) (.o1 .slen (.o1 (.proj 0) (.o2 .idx (.v 1) (.v 5)))))))) (.o1 (.proj 2) (.o2 .idx (.v 6) (.v 2))))
                        (.req (.o2 .lei (.int 0) (.v 2)) (.req (.o2 .lti (.v 2) (.o1 .len (.v 6))) (.br (.o2 .lti (.o1 (.proj 0) (.o2 .idx (.v 6) (.v 2))) (.o1 .slen (.o1 (.proj 0) (.o2 .idx (.v 1) (.v 5)))))
                          (.req (.o2 .lei (.int 0) (.v 2)) (.req (.o2 .lti (.v 2) (.o1 .len (.v 6))) (.back 1 [(.o2 (.add .i64) (.v 5) (.int 1)), (.o3 .set (.v 6) (.v 2) (.o1 .agg (.cons (.o1 .slen (.o1 (.proj 0) (.o2 .idx (.v 1) (.v 5)))) (.cons (.o1 .bytesOf (.o1 (.proj 1) (.o2 .idx (.v 1) (.v 5)))) (.cons (.o2 (.add .i64) (.o1 .slen (.o1 (.proj 1) (.o2 .idx (.v 1) (.v 5)))) (.o1 (.proj 2) (.o2 .idx (.v 6) (.o2 (.add .i64) (.v 2) (.o1 .slen (.o1 (.proj 0) (.o2 .idx (.v 1) (.v 5)))))))) .nil)))))])))
                          (.back 1 [(.o2 (.add .i64) (.v 5) (.int 1)), (.v 6)]))))
                        (.back 1 [(.o2 (.add .i64) (.v 5) (.int 1)), (.v 6)])))))))))
                  (.req (.o2 .lei (.o1 .slen (.o1 (.proj 1) (.o2 .idx (.v 1) (.v 5)))) (.int 1099511627776)) (.req (.o2 .lei (.int 0) (.v 2)) (.req (.o2 .lti (.v 2) (.o1 .len (.v 6))) (.br (.o2 .lti (.o2 (.add .i64) (.o1 .slen (.o1 (.proj 1) (.o2 .idx (.v 1) (.v 5)))) (.o1 (.proj 2) (.o2 .idx (.v 6) (.o2 (.add .i64) (.v 2) (.o1 .slen (.o1 (.proj 0) (.o2 .idx (.v 1) (.v 5)))))))) (.o1 (.proj 2) (.o2 .idx (.v 6) (.v 2))))
                    (.req (.o2 .lei (.int 0) (.v 2)) (.req (.o2 .lti (.v 2) (.o1 .len (.v 6))) (.back 1 [(.o2 (.add .i64) (.v 5) (.int 1)), (.o3 .set (.v 6) (.v 2) (.o1 .agg (.cons (.o1 .slen (.o1 (.proj 0) (.o2 .idx (.v 1) (.v 5)))) (.cons (.o1 .bytesOf (.o1 (.proj 1) (.o2 .idx (.v 1) (.v 5)))) (.cons (.o2 (.add .i64) (.o1 .slen (.o1 (.proj 1) (.o2 .idx (.v 1) (.v 5)))) (.o1 (.proj 2) (.o2 .idx (.v 6) (.o2 (.add .i64) (.v 2) (.o1 .slen (.o1 (.proj 0) (.o2 .idx (.v 1) (.v 5)))))))) .nil)))))])))
                    (.req (.o2 .lei (.int 0) (.v 2)) (.req (.o2 .lti (.v 2) (.o1 .len (.v 6))) (.br (.o2 .eqi (.o2 (.add .i64) (.o1 .slen (.o1 (.proj 1) (.o2 .idx (.v 1) (.v 5)))) (.o1 (.proj 2) (.o2 .idx (.v 6) (.o2 (.add .i64) (.v 2) (.o1 .slen (.o1 (.proj 0) (.o2 .idx (.v 1) (.v 5)))))))) (.o1 (.proj 2) (.o2 .idx (.v 6) (.v 2))))
                      (.req (.o2 .lei (.int 0) (.v 2)) (.req (.o2 .lti (.v 2) (.o1 .len (.v 6))) (.br (.o2 .lti (.o1 (.proj 0) (.o2 .idx (.v 6) (.v 2))) (.o1 .slen (.o1 (.proj 0) (.o2 .idx (.v 1) (.v 5)))))
                        (.req (.o2 .lei (.int 0) (.v 2)) (.req (.o2 .lti (.v 2) (.o1 .len (.v 6))) (.back 1 [(.o2 (.add .i64) (.v 5) (.int 1)), (.o3 .set (.v 6) (.v 2) (.o1 .agg (.cons (.o1 .slen (.o1 (.proj 0) (.o2 .idx (.v 1) (.v 5)))) (.cons (.o1 .bytesOf (.o1 (.proj 1) (.o2 .idx (.v 1) (.v 5)))) (.cons (.o2 (.add .i64) (.o1 .slen (.o1 (.proj 1) (.o2 .idx (.v 1) (.v 5)))) (.o1 (.proj 2) (.o2 .idx (.v 6) (.o2 (.add .i64) (.v 2) (.o1 .slen (.o1 (.proj 0) (.o2 .idx (.v 1) (.v 5)))))))) .nil)))))])))
                        (.back 1 [(.o2 (.add .i64) (.v 5) (.int 1)), (.v 6)]))))
                      (.back 1 [(.o2 (.add .i64) (.v 5) (.int 1)), (.v 6)])))))))))))))))))
            (.back 0 [(.o2 (.sub .i64) (.v 2) (.int 1)), (.v 6)]))))))))))
      (.ret (.v 3))))))))
set_option maxRecDepth 100000 in
theorem zsc : za4 cx_contraction_divide 4 sg_contraction_divide Tryz.f84 (Tryz.f84.body.getD .skip) = tr_contraction_divide := by kernel_rfl
theorem ztc {Γ : CEnv} (hg : ∀ n, Γ.glob n = globT n) (hs : ∀ s ∈ cx_contraction_divide.sigs, Contract Tryz.prog Γ gtab s (Γ.pre s.no) (Γ.post s.no)) : CxOk cx_contraction_divide Γ := ⟨by kernel_rfl, hs, (fun x hx => by cases hx), (fun x hx => by cases hx)⟩
theorem zgg {Γ : CEnv} (hg : ∀ n, Γ.glob n = globT n) (hs : ∀ s ∈ cx_contraction_divide.sigs, Contract Tryz.prog Γ gtab s (Γ.pre s.no) (Γ.post s.no)) (k : Nat) {pre : List TV → Prop} {post : List TV → TV → Prop} (h : ∀ ts, ts.length = 1 → pre ts → tr_contraction_divide.den Γ (post ts) ts []) : Contract Tryz.prog Γ gtab (zd3 k) pre post :=
  Contract.renum (zas (ztc hg hs) 4 sg_contraction_divide Tryz.func84 (by kernel_rfl) (by kernel_rfl) fun ts hl hp => by rw [zsc]; exact h ts hl hp) k
def sg_contraction_Translate : Sig := ⟨48, 0, [(false, [.str])], [(false, [((.slice false [(.int .u8)]), some 5)]), (false, [((.slice false [(.int .i64)]), some 3)])]⟩
def zc8 (k : Nat) : Sig := ⟨sg_contraction_Translate.f, k, sg_contraction_Translate.args, sg_contraction_Translate.res⟩
def zqa : List (FuncId × Nat × Head) := [(48, 6, ⟨[4, 5, 6, 7, 8], [.slot 4 true 21 false [(.int .i32)], .slot 5 true 150 true [(.int .i64), (.slice false [(.int .u8)]), (.int .i64)], .slot 6 true 5 false [(.int .u8)], .slot 7 true 3 false [(.int .i64)]], [8], [3, 2], [], []⟩), (48, 10, ⟨[4, 5, 6, 7, 8, 36, 37], [.slot 4 true 21 false [(.int .i32)], .slot 5 true 150 true [(.int .i64), (.slice false [(.int .u8)]), (.int .i64)], .slot 6 true 5 false [(.int .u8)], .slot 7 true 3 false [(.int .i64)]], [37], [3], [], []⟩)]
def zp7 : List (FuncId × Nat × Nat × Plan) := []
noncomputable def cx_contraction_Translate : Cx := ⟨Tryz.prog, gtab, [zcx 0, zd3 1], [], zqa, zp7, []⟩
def tr_contraction_Translate : Tree := (.call 0 [(.v 0)]
  (.call 1 [(.v 1)]
    (.loop [(.int 0), .nil, .nil]
      (.br (.o2 .lti (.v 3) (.o1 .len (.v 1)))
        (.req (.o2 .lei (.int 0) (.v 3)) (.req (.o2 .lti (.v 3) (.o1 .len (.v 2))) (.req (.o2 .lei (.o1 .len (.o2 .app (.v 4) (.o1 (.proj 1) (.o2 .idx (.v 2) (.v 3))))) (.int 1099511627776)) (.req (.o2 .lei (.int 0) (.v 3)) (.req (.o2 .lti (.v 3) (.o1 .len (.v 2))) (.loop [(.int 0), (.v 5)]
          (.br (.o2 .lti (.v 6) (.o1 .len (.o1 (.proj 1) (.o2 .idx (.v 2) (.v 3)))))
            (.req (.o2 .lei (.o1 .len (.o2 .app (.v 7) (.cons (.v 3) .nil))) (.int 1099511627776)) (.back 1 [(.o2 (.add .i64) (.v 6) (.int 1)), (.o2 .app (.v 7) (.cons (.v 3) .nil))]))
            (.req (.o2 .lei (.int 0) (.v 3)) (.req (.o2 .lti (.v 3) (.o1 .len (.v 2))) (.back 0 [(.o2 (.add .i64) (.v 3) (.o1 (.proj 0) (.o2 .idx (.v 2) (.v 3)))), (.o2 .app (.v 4) (.o1 (.proj 1) (.o2 .idx (.v 2) (.v 3)))), (.v 7)]))))))))))
        (.ret (.o1 .agg (.cons (.v 4) (.cons (.v 5) .nil))))))))
set_option maxRecDepth 100000 in
theorem zo2 : za4 cx_contraction_Translate 4 sg_contraction_Translate Tryz.f48 (Tryz.f48.body.getD .skip) = tr_contraction_Translate := by kernel_rfl
theorem zo0 {Γ : CEnv} (hg : ∀ n, Γ.glob n = globT n) (hs : ∀ s ∈ cx_contraction_Translate.sigs, Contract Tryz.prog Γ gtab s (Γ.pre s.no) (Γ.post s.no)) : CxOk cx_contraction_Translate Γ := ⟨by kernel_rfl, hs, (fun x hx => by cases hx), (fun x hx => by cases hx)⟩
theorem zez {Γ : CEnv} (hg : ∀ n, Γ.glob n = globT n) (hs : ∀ s ∈ cx_contraction_Translate.sigs, Contract Tryz.prog Γ gtab s (Γ.pre s.no) (Γ.post s.no)) (k : Nat) {pre : List TV → Prop} {post : List TV → TV → Prop} (h : ∀ ts, ts.length = 1 → pre ts → tr_contraction_Translate.den Γ (post ts) ts []) : Contract Tryz.prog Γ gtab (zc8 k) pre post :=
  Contract.renum (zas (zo0 hg hs) 4 sg_contraction_Translate Tryz.func48 (by kernel_rfl) (by kernel_rfl) fun ts hl hp => by rw [zo2]; exact h ts hl hp) k
end Go.Proofs.YtlhagkbhojmjpaaGreatDoor


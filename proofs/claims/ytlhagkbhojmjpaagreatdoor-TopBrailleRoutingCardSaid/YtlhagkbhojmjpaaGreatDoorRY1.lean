/- Written by this repo's own program out of its texts. -/
import Derived.Test.YtlhagkbhojmjpaaGreatDoorRV1
namespace Go.Proofs.YtlhagkbhojmjpaaGreatDoor
set_option linter.unusedVariables false
set_option linter.unusedSimpArgs false
def sg_strings_CutPrefix : Sig := ⟨42, 0, [(false, [.str]), (false, [.str])], [(false, [(.str, none)]), (false, [(.bool, none)])]⟩
def qjj (k : Nat) : Sig := ⟨sg_strings_CutPrefix.f, k, sg_strings_CutPrefix.args, sg_strings_CutPrefix.res⟩
def qk1 : List (FuncId × Nat × Head) := []
def qkx : List (FuncId × Nat × Nat × Plan) := []
noncomputable def cx_strings_CutPrefix : Cx := ⟨Tryz.prog, gtabU, [], [(79, Tryz.f79), (80, Tryz.f80)], qk1, qkx, []⟩
def tr_strings_CutPrefix : Tree := (.br (.o2 .lei (.o1 .slen (.v 1)) (.o1 .slen (.v 0)))
  (.req (.o2 .lei (.int 0) (.o1 .slen (.v 1))) (.req (.o2 .lei (.o1 .slen (.v 1)) (.o1 .slen (.v 0))) (.br (.o1 .no (.o2 .eqs (.o3 .ssub (.v 0) (.int 0) (.o1 .slen (.v 1))) (.v 1)))
    (.ret (.o1 .agg (.cons (.v 0) (.cons (.bool false) .nil))))
    (.req (.o2 .lei (.int 0) (.o1 .slen (.v 1))) (.req (.o2 .lei (.o1 .slen (.v 1)) (.o1 .slen (.v 0))) (.ret (.o1 .agg (.cons (.o3 .ssub (.v 0) (.o1 .slen (.v 1)) (.o1 .slen (.v 0))) (.cons (.bool true) .nil)))))))))
  (.ret (.o1 .agg (.cons (.v 0) (.cons (.bool false) .nil)))))
set_option maxRecDepth 100000 in
theorem qkf : za4 cx_strings_CutPrefix 4 sg_strings_CutPrefix Tryz.f42 (Tryz.f42.body.getD .skip) = tr_strings_CutPrefix := by kernel_rfl
theorem qkh {Γ : CEnv} (hg : ∀ n, Γ.glob n = globT n) (hs : ∀ s ∈ cx_strings_CutPrefix.sigs, Contract Tryz.prog Γ gtabU s (Γ.pre s.no) (Γ.post s.no)) : CxOk cx_strings_CutPrefix Γ := ⟨by kernel_rfl, hs, (fun x hx => by
  simp only [cx_strings_CutPrefix, List.mem_cons, List.not_mem_nil, or_false] at hx
  rcases hx with rfl | rfl
  · exact ⟨Tryz.func79, by kernel_rfl⟩
  · exact ⟨Tryz.func80, by kernel_rfl⟩), (fun x hx => by cases hx)⟩
theorem contract_strings_CutPrefix {Γ : CEnv} (hg : ∀ n, Γ.glob n = globT n) (hs : ∀ s ∈ cx_strings_CutPrefix.sigs, Contract Tryz.prog Γ gtabU s (Γ.pre s.no) (Γ.post s.no)) (k : Nat) {pre : List TV → Prop} {post : List TV → TV → Prop} (h : ∀ ts, ts.length = 2 → pre ts → tr_strings_CutPrefix.den Γ (post ts) ts []) : Contract Tryz.prog Γ gtabU (qjj k) pre post :=
  Contract.renum (zas (qkh hg hs) 4 sg_strings_CutPrefix Tryz.func42 (by kernel_rfl) (by kernel_rfl) fun ts hl hp => by rw [qkf]; exact h ts hl hp) k
def sg_internal_strconv_small : Sig := ⟨164, 0, [(false, [(.int .i64)])], [(false, [(.str, none)])]⟩
def qir (k : Nat) : Sig := ⟨sg_internal_strconv_small.f, k, sg_internal_strconv_small.args, sg_internal_strconv_small.res⟩
def qj2 : List (FuncId × Nat × Head) := []
def qj4 : List (FuncId × Nat × Nat × Plan) := []
noncomputable def cx_internal_strconv_small : Cx := ⟨Tryz.prog, gtabU, [], [], qj2, qj4, []⟩
def tr_internal_strconv_small : Tree := (.br (.o2 .lti (.v 0) (.int 10))
  (.req (.o2 .lei (.int 0) (.v 0)) (.req (.o2 .lei (.v 0) (.o2 (.add .i64) (.v 0) (.int 1))) (.req (.o2 .lei (.int 0) (.o2 (.add .i64) (.v 0) (.int 1))) (.req (.o2 .lei (.o2 (.add .i64) (.v 0) (.int 1)) (.int 36)) (.ret (.o3 .ssub (.str [48, 49, 50, 51, 52, 53, 54, 55, 56, 57, 97, 98, 99, 100, 101, 102, 103, 104, 105, 106, 107, 108, 109, 110, 111, 112, 113, 114, 115, 116, 117, 118, 119, 120, 121, 122]) (.v 0) (.o2 (.add .i64) (.v 0) (.int 1))))))))
  (.req (.o2 .lei (.int 0) (.o2 (.mul .i64) (.v 0) (.int 2))) (.req (.o2 .lei (.o2 (.mul .i64) (.v 0) (.int 2)) (.o2 (.add .i64) (.o2 (.mul .i64) (.v 0) (.int 2)) (.int 2))) (.req (.o2 .lei (.int 0) (.o2 (.add .i64) (.o2 (.mul .i64) (.v 0) (.int 2)) (.int 2))) (.req (.o2 .lei (.o2 (.add .i64) (.o2 (.mul .i64) (.v 0) (.int 2)) (.int 2)) (.int 200)) (.ret (.o3 .ssub (.str [48, 48, 48, 49, 48, 50, 48, 51, 48, 52, 48, 53, 48, 54, 48, 55, 48, 56, 48, 57, 49, 48, 49, 49, 49, 50, 49, 51, 49, 52, 49, 53, 49, 54, 49, 55, 49, 56, 49, 57, 50, 48, 50, 49, 50, 50, 50, 51, 50, 52, 50, 53, 50, 54, 50, 55, 50, 56, 50, 57, 51, 48, 51, 49, 51, 50, 51, 51, 51, 52, 51, 53, 51, 54, 51, 55, 51, 56, 51, 57, 52, 48, 52, 49, 52, 50, 52, 51, 52, 52, 52, 53, 52, 54, 52, 55, 52, 56, 52, 57, 53, 48, 53, 49, 53, 50, 53, 51, 53, 52, 53, 53, 53, 54, 53, 55, 53, 56, 53, 57, 54, 48, 54, 49, 54, 50, 54, 51, 54, 52, 54, 53, 54, 54, 54, 55, 54, 56, 54, 57, 55, 48, 55, 49, 55, 50, 55, 51, 55, 52, 55, 53, 55, 54, 55, 55, 55, 56, 55, 57, 56, 48, 56, 49, 56, 50, 56, 51, 56, 52, 56, 53, 56, 54, 56, 55, 56, 56, 56, 57, 57, 48, 57, 49, 57, 50, 57, 51, 57, 52, 57, 53, 57, 54, 57, 55, 57, 56, 57, 57]) (.o2 (.mul .i64) (.v 0) (.int 2)) (.o2 (.add .i64) (.o2 (.mul .i64) (.v 0) (.int 2)) (.int 2)))))))))
set_option maxRecDepth 100000 in
theorem qjm : za4 cx_internal_strconv_small 4 sg_internal_strconv_small Tryz.f164 (Tryz.f164.body.getD .skip) = tr_internal_strconv_small := by kernel_rfl
theorem qjq {Γ : CEnv} (hg : ∀ n, Γ.glob n = globT n) (hs : ∀ s ∈ cx_internal_strconv_small.sigs, Contract Tryz.prog Γ gtabU s (Γ.pre s.no) (Γ.post s.no)) : CxOk cx_internal_strconv_small Γ := ⟨by kernel_rfl, hs, (fun x hx => by cases hx), (fun x hx => by cases hx)⟩
theorem qjb {Γ : CEnv} (hg : ∀ n, Γ.glob n = globT n) (hs : ∀ s ∈ cx_internal_strconv_small.sigs, Contract Tryz.prog Γ gtabU s (Γ.pre s.no) (Γ.post s.no)) (k : Nat) {pre : List TV → Prop} {post : List TV → TV → Prop} (h : ∀ ts, ts.length = 1 → pre ts → tr_internal_strconv_small.den Γ (post ts) ts []) : Contract Tryz.prog Γ gtabU (qir k) pre post :=
  Contract.renum (zas (qjq hg hs) 4 sg_internal_strconv_small Tryz.func164 (by kernel_rfl) (by kernel_rfl) fun ts hl hp => by rw [qjm]; exact h ts hl hp) k
def sg_internal_strconv_FormatInt : Sig := ⟨134, 0, [(false, [(.int .i64)]), (false, [(.int .i64)])], [(false, [(.str, none)])]⟩
def qil (k : Nat) : Sig := ⟨sg_internal_strconv_FormatInt.f, k, sg_internal_strconv_FormatInt.args, sg_internal_strconv_FormatInt.res⟩
def sg_strconv_Itoa : Sig := ⟨75, 0, [(false, [(.int .i64)])], [(false, [(.str, none)])]⟩
def qjr (k : Nat) : Sig := ⟨sg_strconv_Itoa.f, k, sg_strconv_Itoa.args, sg_strconv_Itoa.res⟩
def qmb : List (FuncId × Nat × Head) := []
def ql2 : List (FuncId × Nat × Nat × Plan) := []
noncomputable def cx_strconv_Itoa : Cx := ⟨Tryz.prog, gtabU, [qil 0], [(103, Tryz.f103)], qmb, ql2, []⟩
def tr_strconv_Itoa : Tree := (.call 0 [(.v 0), (.int 10)]
  (.ret (.v 1)))
set_option maxRecDepth 100000 in
theorem qlt : za4 cx_strconv_Itoa 4 sg_strconv_Itoa Tryz.f75 (Tryz.f75.body.getD .skip) = tr_strconv_Itoa := by kernel_rfl
theorem qlr {Γ : CEnv} (hg : ∀ n, Γ.glob n = globT n) (hs : ∀ s ∈ cx_strconv_Itoa.sigs, Contract Tryz.prog Γ gtabU s (Γ.pre s.no) (Γ.post s.no)) : CxOk cx_strconv_Itoa Γ := ⟨by kernel_rfl, hs, (fun x hx => by
  simp only [cx_strconv_Itoa, List.mem_cons, List.not_mem_nil, or_false] at hx
  rcases hx with rfl
  · exact ⟨Tryz.func103, by kernel_rfl⟩), (fun x hx => by cases hx)⟩
theorem qkq {Γ : CEnv} (hg : ∀ n, Γ.glob n = globT n) (hs : ∀ s ∈ cx_strconv_Itoa.sigs, Contract Tryz.prog Γ gtabU s (Γ.pre s.no) (Γ.post s.no)) (k : Nat) {pre : List TV → Prop} {post : List TV → TV → Prop} (h : ∀ ts, ts.length = 1 → pre ts → tr_strconv_Itoa.den Γ (post ts) ts []) : Contract Tryz.prog Γ gtabU (qjr k) pre post :=
  Contract.renum (zas (qlr hg hs) 4 sg_strconv_Itoa Tryz.func75 (by kernel_rfl) (by kernel_rfl) fun ts hl hp => by rw [qlt]; exact h ts hl hp) k
def sg_unicode_utf8_ValidRune : Sig := ⟨100, 0, [(false, [(.int .i32)])], [(false, [(.bool, none)])]⟩
def qih (k : Nat) : Sig := ⟨sg_unicode_utf8_ValidRune.f, k, sg_unicode_utf8_ValidRune.args, sg_unicode_utf8_ValidRune.res⟩
def qj0 : List (FuncId × Nat × Head) := []
def qjz : List (FuncId × Nat × Nat × Plan) := []
noncomputable def cx_unicode_utf8_ValidRune : Cx := ⟨Tryz.prog, gtabU, [], [], qj0, qjz, []⟩
def tr_unicode_utf8_ValidRune : Tree := (.br (.o2 .lei (.int 0) (.v 0))
  (.br (.o2 .lti (.v 0) (.int 55296))
    (.ret (.bool true))
    (.br (.o2 .lti (.int 57343) (.v 0))
      (.br (.o2 .lei (.v 0) (.int 1114111))
        (.ret (.bool true))
        (.ret (.bool false)))
      (.ret (.bool false))))
  (.br (.o2 .lti (.int 57343) (.v 0))
    (.br (.o2 .lei (.v 0) (.int 1114111))
      (.ret (.bool true))
      (.ret (.bool false)))
    (.ret (.bool false))))
set_option maxRecDepth 100000 in
theorem qjn : za4 cx_unicode_utf8_ValidRune 4 sg_unicode_utf8_ValidRune Tryz.f100 (Tryz.f100.body.getD .skip) = tr_unicode_utf8_ValidRune := by kernel_rfl
theorem qjp {Γ : CEnv} (hg : ∀ n, Γ.glob n = globT n) (hs : ∀ s ∈ cx_unicode_utf8_ValidRune.sigs, Contract Tryz.prog Γ gtabU s (Γ.pre s.no) (Γ.post s.no)) : CxOk cx_unicode_utf8_ValidRune Γ := ⟨by kernel_rfl, hs, (fun x hx => by cases hx), (fun x hx => by cases hx)⟩
theorem qjd {Γ : CEnv} (hg : ∀ n, Γ.glob n = globT n) (hs : ∀ s ∈ cx_unicode_utf8_ValidRune.sigs, Contract Tryz.prog Γ gtabU s (Γ.pre s.no) (Γ.post s.no)) (k : Nat) {pre : List TV → Prop} {post : List TV → TV → Prop} (h : ∀ ts, ts.length = 1 → pre ts → tr_unicode_utf8_ValidRune.den Γ (post ts) ts []) : Contract Tryz.prog Γ gtabU (qih k) pre post :=
  Contract.renum (zas (qjp hg hs) 4 sg_unicode_utf8_ValidRune Tryz.func100 (by kernel_rfl) (by kernel_rfl) fun ts hl hp => by rw [qjn]; exact h ts hl hp) k
def sg_unicode_utf8_decodeRuneInStringSlow : Sig := ⟨104, 0, [(false, [.str])], [(false, [((.int .i32), none)]), (false, [((.int .i64), none)])]⟩
def qiq (k : Nat) : Sig := ⟨sg_unicode_utf8_decodeRuneInStringSlow.f, k, sg_unicode_utf8_decodeRuneInStringSlow.args, sg_unicode_utf8_decodeRuneInStringSlow.res⟩
def sg_unicode_utf8_DecodeRuneInString : Sig := ⟨78, 0, [(false, [.str])], [(false, [((.int .i32), none)]), (false, [((.int .i64), none)])]⟩
def qig (k : Nat) : Sig := ⟨sg_unicode_utf8_DecodeRuneInString.f, k, sg_unicode_utf8_DecodeRuneInString.args, sg_unicode_utf8_DecodeRuneInString.res⟩
def qiy : List (FuncId × Nat × Head) := []
def qi1 : List (FuncId × Nat × Nat × Plan) := []
noncomputable def cx_unicode_utf8_DecodeRuneInString : Cx := ⟨Tryz.prog, gtabU, [qiq 0], [], qiy, qi1, []⟩
def tr_unicode_utf8_DecodeRuneInString : Tree := (.br (.o1 .no (.o2 .eqs (.v 0) (.str [])))
  (.req (.o2 .lti (.int 0) (.o1 .slen (.v 0))) (.br (.o2 .lti (.o2 .sidx (.v 0) (.int 0)) (.int 128))
    (.req (.o2 .lti (.int 0) (.o1 .slen (.v 0))) (.ret (.o1 .agg (.cons (.o1 (.wrap .i32) (.o2 .sidx (.v 0) (.int 0))) (.cons (.int 1) .nil)))))
    (.call 0 [(.v 0)]
      (.ret (.o1 .agg (.cons (.o1 (.proj 0) (.v 1)) (.cons (.o1 (.proj 1) (.v 1)) .nil)))))))
  (.call 0 [(.v 0)]
    (.ret (.o1 .agg (.cons (.o1 (.proj 0) (.v 1)) (.cons (.o1 (.proj 1) (.v 1)) .nil))))))
set_option maxRecDepth 100000 in
theorem qis : za4 cx_unicode_utf8_DecodeRuneInString 4 sg_unicode_utf8_DecodeRuneInString Tryz.f78 (Tryz.f78.body.getD .skip) = tr_unicode_utf8_DecodeRuneInString := by kernel_rfl
theorem qit {Γ : CEnv} (hg : ∀ n, Γ.glob n = globT n) (hs : ∀ s ∈ cx_unicode_utf8_DecodeRuneInString.sigs, Contract Tryz.prog Γ gtabU s (Γ.pre s.no) (Γ.post s.no)) : CxOk cx_unicode_utf8_DecodeRuneInString Γ := ⟨by kernel_rfl, hs, (fun x hx => by cases hx), (fun x hx => by cases hx)⟩
theorem qkk {Γ : CEnv} (hg : ∀ n, Γ.glob n = globT n) (hs : ∀ s ∈ cx_unicode_utf8_DecodeRuneInString.sigs, Contract Tryz.prog Γ gtabU s (Γ.pre s.no) (Γ.post s.no)) (k : Nat) {pre : List TV → Prop} {post : List TV → TV → Prop} (h : ∀ ts, ts.length = 1 → pre ts → tr_unicode_utf8_DecodeRuneInString.den Γ (post ts) ts []) : Contract Tryz.prog Γ gtabU (qig k) pre post :=
  Contract.renum (zas (qit hg hs) 4 sg_unicode_utf8_DecodeRuneInString Tryz.func78 (by kernel_rfl) (by kernel_rfl) fun ts hl hp => by rw [qis]; exact h ts hl hp) k
def sg_unicode_utf8_FullRuneInString : Sig := ⟨43, 0, [(false, [.str])], [(false, [(.bool, none)])]⟩
def qij (k : Nat) : Sig := ⟨sg_unicode_utf8_FullRuneInString.f, k, sg_unicode_utf8_FullRuneInString.args, sg_unicode_utf8_FullRuneInString.res⟩
def qi9 : List (FuncId × Nat × Head) := []
def qi4 : List (FuncId × Nat × Nat × Plan) := [(43, 8, 16, (.op true 0 (.op true 1 (.op true 2 (.op true 3 (.op true 4 (.op true 5 (.op true 6 (.op true 7 (.op true 8 (.op true 9 (.op true 10 (.op true 11 (.op true 12 (.op true 13 (.op true 14 (.op true 15 .nil)))))))))))))))))]
noncomputable def cx_unicode_utf8_FullRuneInString : Cx := ⟨Tryz.prog, gtabU, [], [], qi9, qi4, []⟩
def tr_unicode_utf8_FullRuneInString : Tree := (.br (.o2 .eqi (.o1 .slen (.v 0)) (.int 0))
  (.ret (.bool false))
  (.req (.o2 .lti (.int 0) (.o1 .slen (.v 0))) (.req (.o2 .lei (.int 256) (.o1 .len (.glob 0))) (.req (.o2 .lei (.int 0) (.o2 .sidx (.v 0) (.int 0))) (.req (.o2 .lti (.o2 .sidx (.v 0) (.int 0)) (.int 256)) (.br (.o2 .lei (.o1 (.wrap .i64) (.o2 (.and .u8) (.o2 .idx (.glob 0) (.o2 .sidx (.v 0) (.int 0))) (.int 7))) (.o1 .slen (.v 0)))
    (.ret (.bool true))
    (.req (.o2 .lei (.int 16) (.o1 .len (.glob 1))) (.req (.o2 .lei (.int 0) (.o2 (.shr .u8) (.o2 .idx (.glob 0) (.o2 .sidx (.v 0) (.int 0))) (.int 4))) (.req (.o2 .lti (.o2 (.shr .u8) (.o2 .idx (.glob 0) (.o2 .sidx (.v 0) (.int 0))) (.int 4)) (.int 16)) (.br (.o2 .lti (.int 1) (.o1 .slen (.v 0)))
      (.req (.o2 .lti (.int 1) (.o1 .slen (.v 0))) (.br (.o2 .lti (.o2 .sidx (.v 0) (.int 1)) (.o1 (.proj 0) (.o2 .idx (.glob 1) (.o2 (.shr .u8) (.o2 .idx (.glob 0) (.o2 .sidx (.v 0) (.int 0))) (.int 4)))))
        (.ret (.bool true))
        (.req (.o2 .lti (.int 1) (.o1 .slen (.v 0))) (.br (.o2 .lti (.o1 (.proj 1) (.o2 .idx (.glob 1) (.o2 (.shr .u8) (.o2 .idx (.glob 0) (.o2 .sidx (.v 0) (.int 0))) (.int 4)))) (.o2 .sidx (.v 0) (.int 1)))
          (.ret (.bool true))
          (.br (.o2 .lti (.int 2) (.o1 .slen (.v 0)))
            (.req (.o2 .lti (.int 2) (.o1 .slen (.v 0))) (.br (.o2 .lti (.o2 .sidx (.v 0) (.int 2)) (.int 128))
              (.ret (.bool true))
              (.req (.o2 .lti (.int 2) (.o1 .slen (.v 0))) (.br (.o2 .lti (.int 191) (.o2 .sidx (.v 0) (.int 2)))
                (.ret (.bool true))
                (.ret (.bool false))))))
            (.ret (.bool false)))))))
      (.br (.o2 .lti (.int 2) (.o1 .slen (.v 0)))
        (.req (.o2 .lti (.int 2) (.o1 .slen (.v 0))) (.br (.o2 .lti (.o2 .sidx (.v 0) (.int 2)) (.int 128))
          (.ret (.bool true))
          (.req (.o2 .lti (.int 2) (.o1 .slen (.v 0))) (.br (.o2 .lti (.int 191) (.o2 .sidx (.v 0) (.int 2)))
            (.ret (.bool true))
            (.ret (.bool false))))))
        (.ret (.bool false)))))))))))))
set_option maxRecDepth 100000 in
theorem qi2 : za4 cx_unicode_utf8_FullRuneInString 4 sg_unicode_utf8_FullRuneInString Tryz.f43 (Tryz.f43.body.getD .skip) = tr_unicode_utf8_FullRuneInString := by kernel_rfl
theorem qix {Γ : CEnv} (hg : ∀ n, Γ.glob n = globT n) (hs : ∀ s ∈ cx_unicode_utf8_FullRuneInString.sigs, Contract Tryz.prog Γ gtabU s (Γ.pre s.no) (Γ.post s.no)) : CxOk cx_unicode_utf8_FullRuneInString Γ := ⟨by kernel_rfl, hs, (fun x hx => by cases hx), (fun x hx => by cases hx)⟩
theorem qkt {Γ : CEnv} (hg : ∀ n, Γ.glob n = globT n) (hs : ∀ s ∈ cx_unicode_utf8_FullRuneInString.sigs, Contract Tryz.prog Γ gtabU s (Γ.pre s.no) (Γ.post s.no)) (k : Nat) {pre : List TV → Prop} {post : List TV → TV → Prop} (h : ∀ ts, ts.length = 1 → pre ts → tr_unicode_utf8_FullRuneInString.den Γ (post ts) ts []) : Contract Tryz.prog Γ gtabU (qij k) pre post :=
  Contract.renum (zas (qix hg hs) 4 sg_unicode_utf8_FullRuneInString Tryz.func43 (by kernel_rfl) (by kernel_rfl) fun ts hl hp => by rw [qi2]; exact h ts hl hp) k
def sg_slices_Containsstringstring : Sig := ⟨72, 0, [(false, [(.slice false [.str])]), (false, [.str])], [(false, [(.bool, none)])]⟩
def qic (k : Nat) : Sig := ⟨sg_slices_Containsstringstring.f, k, sg_slices_Containsstringstring.args, sg_slices_Containsstringstring.res⟩
def qjh : List (FuncId × Nat × Head) := [(102, 2, ⟨[0, 1, 7, 8], [], [8], [], [], []⟩)]
def qjf : List (FuncId × Nat × Nat × Plan) := []
noncomputable def cx_slices_Containsstringstring : Cx := ⟨Tryz.prog, gtabU, [], [(102, Tryz.f102)], qjh, qjf, []⟩
def tr_slices_Containsstringstring : Tree := (.loop [(.int 0)]
  (.br (.o2 .lti (.v 2) (.o1 .len (.v 0)))
    (.req (.o2 .lei (.int 0) (.v 2)) (.req (.o2 .lti (.v 2) (.o1 .len (.v 0))) (.br (.o2 .eqs (.v 1) (.o2 .idx (.v 0) (.v 2)))
      (.ret (.o2 .lei (.int 0) (.v 2)))
      (.back 0 [(.o2 (.add .i64) (.v 2) (.int 1))]))))
    (.ret (.bool false))))
set_option maxRecDepth 100000 in
theorem qi7 : za4 cx_slices_Containsstringstring 4 sg_slices_Containsstringstring Tryz.f72 (Tryz.f72.body.getD .skip) = tr_slices_Containsstringstring := by kernel_rfl
theorem qi6 {Γ : CEnv} (hg : ∀ n, Γ.glob n = globT n) (hs : ∀ s ∈ cx_slices_Containsstringstring.sigs, Contract Tryz.prog Γ gtabU s (Γ.pre s.no) (Γ.post s.no)) : CxOk cx_slices_Containsstringstring Γ := ⟨by kernel_rfl, hs, (fun x hx => by
  simp only [cx_slices_Containsstringstring, List.mem_cons, List.not_mem_nil, or_false] at hx
  rcases hx with rfl
  · exact ⟨Tryz.func102, by kernel_rfl⟩), (fun x hx => by cases hx)⟩
theorem qiu {Γ : CEnv} (hg : ∀ n, Γ.glob n = globT n) (hs : ∀ s ∈ cx_slices_Containsstringstring.sigs, Contract Tryz.prog Γ gtabU s (Γ.pre s.no) (Γ.post s.no)) (k : Nat) {pre : List TV → Prop} {post : List TV → TV → Prop} (h : ∀ ts, ts.length = 2 → pre ts → tr_slices_Containsstringstring.den Γ (post ts) ts []) : Contract Tryz.prog Γ gtabU (qic k) pre post :=
  Contract.renum (zas (qi6 hg hs) 4 sg_slices_Containsstringstring Tryz.func72 (by kernel_rfl) (by kernel_rfl) fun ts hl hp => by rw [qi7]; exact h ts hl hp) k
def sg_keyinput_Names : Sig := ⟨73, 0, [], [(false, [((.slice false [.str]), some 9)])]⟩
def qip (k : Nat) : Sig := ⟨sg_keyinput_Names.f, k, sg_keyinput_Names.args, sg_keyinput_Names.res⟩
def qlw : List (FuncId × Nat × Head) := [(73, 3, ⟨[1, 4], [.slot 1 true 9 false [.str]], [4], [0], [], []⟩)]
def qlq : List (FuncId × Nat × Nat × Plan) := []
noncomputable def cx_keyinput_Names : Cx := ⟨Tryz.prog, gtabU, [qjr 0], [], qlw, qlq, []⟩
def tr_keyinput_Names : Tree := (.loop [(.int 0), (.cons (.str [85, 112]) (.cons (.str [68, 111, 119, 110]) (.cons (.str [82, 105, 103, 104, 116]) (.cons (.str [76, 101, 102, 116]) (.cons (.str [72, 111, 109, 101]) (.cons (.str [69, 110, 100]) (.cons (.str [73, 110, 115, 101, 114, 116]) (.cons (.str [68, 101, 108, 101, 116, 101]) (.cons (.str [80, 97, 103, 101, 85, 112]) (.cons (.str [80, 97, 103, 101, 68, 111, 119, 110]) (.cons (.str [84, 97, 98]) (.cons (.str [69, 110, 116, 101, 114]) (.cons (.str [69, 115, 99, 97, 112, 101]) (.cons (.str [66, 97, 99, 107, 115, 112, 97, 99, 101]) .nil))))))))))))))]
  (.br (.o2 .lti (.v 0) (.int 12))
    (.call 0 [(.o2 (.add .i64) (.v 0) (.int 1))]
      (.req (.o2 .lei (.o1 .slen (.o2 .cat (.str [70]) (.v 2))) (.int 9223372036854775807)) (.req (.o2 .lei (.o1 .len (.o2 .app (.v 1) (.cons (.o2 .cat (.str [70]) (.v 2)) .nil))) (.int 1099511627776)) (.back 0 [(.o2 (.add .i64) (.v 0) (.int 1)), (.o2 .app (.v 1) (.cons (.o2 .cat (.str [70]) (.v 2)) .nil))]))))
    (.ret (.v 1))))
set_option maxRecDepth 100000 in
theorem qla : za4 cx_keyinput_Names 4 sg_keyinput_Names Tryz.f73 (Tryz.f73.body.getD .skip) = tr_keyinput_Names := by kernel_rfl
theorem qk7 {Γ : CEnv} (hg : ∀ n, Γ.glob n = globT n) (hs : ∀ s ∈ cx_keyinput_Names.sigs, Contract Tryz.prog Γ gtabU s (Γ.pre s.no) (Γ.post s.no)) : CxOk cx_keyinput_Names Γ := ⟨by kernel_rfl, hs, (fun x hx => by cases hx), (fun x hx => by cases hx)⟩
theorem qkd {Γ : CEnv} (hg : ∀ n, Γ.glob n = globT n) (hs : ∀ s ∈ cx_keyinput_Names.sigs, Contract Tryz.prog Γ gtabU s (Γ.pre s.no) (Γ.post s.no)) (k : Nat) {pre : List TV → Prop} {post : List TV → TV → Prop} (h : ∀ ts, ts.length = 0 → pre ts → tr_keyinput_Names.den Γ (post ts) ts []) : Contract Tryz.prog Γ gtabU (qip k) pre post :=
  Contract.renum (zas (qk7 hg hs) 4 sg_keyinput_Names Tryz.func73 (by kernel_rfl) (by kernel_rfl) fun ts hl hp => by rw [qla]; exact h ts hl hp) k
def sg_keyinput_modifier : Sig := ⟨74, 0, [(true, [.str, (.int .i32), .bool, .bool, .bool])], [(false, [((.int .i64), none)])]⟩
def qjk (k : Nat) : Sig := ⟨sg_keyinput_modifier.f, k, sg_keyinput_modifier.args, sg_keyinput_modifier.res⟩
def qkz : List (FuncId × Nat × Head) := []
def qk5 : List (FuncId × Nat × Nat × Plan) := []
noncomputable def cx_keyinput_modifier : Cx := ⟨Tryz.prog, gtabU, [], [], qkz, qk5, []⟩
def tr_keyinput_modifier : Tree := (.br (.o1 (.proj 4) (.v 0))
  (.br (.o1 (.proj 3) (.v 0))
    (.br (.o1 (.proj 2) (.v 0))
      (.ret (.int 8))
      (.ret (.int 4)))
    (.br (.o1 (.proj 2) (.v 0))
      (.ret (.int 6))
      (.ret (.int 2))))
  (.br (.o1 (.proj 3) (.v 0))
    (.br (.o1 (.proj 2) (.v 0))
      (.ret (.int 7))
      (.ret (.int 3)))
    (.br (.o1 (.proj 2) (.v 0))
      (.ret (.int 5))
      (.ret (.int 1)))))
set_option maxRecDepth 100000 in
theorem qkg : za4 cx_keyinput_modifier 4 sg_keyinput_modifier Tryz.f74 (Tryz.f74.body.getD .skip) = tr_keyinput_modifier := by kernel_rfl
theorem qkj {Γ : CEnv} (hg : ∀ n, Γ.glob n = globT n) (hs : ∀ s ∈ cx_keyinput_modifier.sigs, Contract Tryz.prog Γ gtabU s (Γ.pre s.no) (Γ.post s.no)) : CxOk cx_keyinput_modifier Γ := ⟨by kernel_rfl, hs, (fun x hx => by cases hx), (fun x hx => by cases hx)⟩
theorem qju {Γ : CEnv} (hg : ∀ n, Γ.glob n = globT n) (hs : ∀ s ∈ cx_keyinput_modifier.sigs, Contract Tryz.prog Γ gtabU s (Γ.pre s.no) (Γ.post s.no)) (k : Nat) {pre : List TV → Prop} {post : List TV → TV → Prop} (h : ∀ ts, ts.length = 1 → pre ts → tr_keyinput_modifier.den Γ (post ts) ts []) : Contract Tryz.prog Γ gtabU (qjk k) pre post :=
  Contract.renum (zas (qkj hg hs) 4 sg_keyinput_modifier Tryz.func74 (by kernel_rfl) (by kernel_rfl) fun ts hl hp => by rw [qkg]; exact h ts hl hp) k
def sg_keyinput_character : Sig := ⟨71, 0, [(true, [.str, (.int .i32), .bool, .bool, .bool])], [(false, [(.bool, none)])]⟩
def qio (k : Nat) : Sig := ⟨sg_keyinput_character.f, k, sg_keyinput_character.args, sg_keyinput_character.res⟩
def qkl : List (FuncId × Nat × Head) := []
def qkm : List (FuncId × Nat × Nat × Plan) := []
noncomputable def cx_keyinput_character : Cx := ⟨Tryz.prog, gtabU, [zcc 0, qih 1], [], qkl, qkm, []⟩
def tr_keyinput_character : Tree := (.br (.o1 (.proj 4) (.v 0))
  (.ret (.bool false))
  (.br (.o1 (.proj 2) (.v 0))
    (.br (.o2 .lei (.int 97) (.o1 (.proj 1) (.v 0)))
      (.br (.o2 .lei (.o1 (.proj 1) (.v 0)) (.int 122))
        (.br (.o1 .no (.o2 .eqi (.o1 (.proj 1) (.v 0)) (.int 105)))
          (.ret (.o1 .no (.o2 .eqi (.o1 (.proj 1) (.v 0)) (.int 109))))
          (.ret (.bool false)))
        (.ret (.bool false)))
      (.ret (.bool false)))
    (.call 1 [(.o1 (.proj 1) (.v 0))]
      (.br (.v 1)
        (.call 0 [(.o1 (.proj 1) (.v 0))]
          (.ret (.o2 .lei (.int 0) (.v 2))))
        (.ret (.bool false))))))
set_option maxRecDepth 100000 in
theorem qke : za4 cx_keyinput_character 4 sg_keyinput_character Tryz.f71 (Tryz.f71.body.getD .skip) = tr_keyinput_character := by kernel_rfl
theorem qkb {Γ : CEnv} (hg : ∀ n, Γ.glob n = globT n) (hs : ∀ s ∈ cx_keyinput_character.sigs, Contract Tryz.prog Γ gtabU s (Γ.pre s.no) (Γ.post s.no)) : CxOk cx_keyinput_character Γ := ⟨by kernel_rfl, hs, (fun x hx => by cases hx), (fun x hx => by cases hx)⟩
theorem qjo {Γ : CEnv} (hg : ∀ n, Γ.glob n = globT n) (hs : ∀ s ∈ cx_keyinput_character.sigs, Contract Tryz.prog Γ gtabU s (Γ.pre s.no) (Γ.post s.no)) (k : Nat) {pre : List TV → Prop} {post : List TV → TV → Prop} (h : ∀ ts, ts.length = 1 → pre ts → tr_keyinput_character.den Γ (post ts) ts []) : Contract Tryz.prog Γ gtabU (qio k) pre post :=
  Contract.renum (zas (qkb hg hs) 4 sg_keyinput_character Tryz.func71 (by kernel_rfl) (by kernel_rfl) fun ts hl hp => by rw [qke]; exact h ts hl hp) k
def sg_keyinput_Check : Sig := ⟨38, 0, [(true, [.str, (.int .i32), .bool, .bool, .bool])], [(false, [((.int .i64), none)])]⟩
def qif (k : Nat) : Sig := ⟨sg_keyinput_Check.f, k, sg_keyinput_Check.args, sg_keyinput_Check.res⟩
def qlp : List (FuncId × Nat × Head) := []
def qlo : List (FuncId × Nat × Nat × Plan) := [(38, 3, 5, (.op true 1 (.op true 2 (.op false 0 (.op false 3 (.op false 4 .nil))))))]
noncomputable def cx_keyinput_Check : Cx := ⟨Tryz.prog, gtabU, [qic 0, qip 1, qio 2], [], qlp, qlo, []⟩
def tr_keyinput_Check : Tree := (.br (.o2 .eqs (.o1 (.proj 0) (.v 0)) (.str []))
  (.call 2 [(.o1 .agg (.cons (.o1 (.proj 0) (.v 0)) (.cons (.o1 (.proj 1) (.v 0)) (.cons (.o1 (.proj 2) (.v 0)) (.cons (.o1 (.proj 3) (.v 0)) (.cons (.o1 (.proj 4) (.v 0)) .nil))))))]
    (.br (.o1 .no (.v 1))
      (.ret (.int 1))
      (.ret (.int 0))))
  (.br (.o2 .eqs (.o1 (.proj 0) (.v 0)) (.str [84, 97, 98]))
    (.br (.o2 .eqi (.o1 (.proj 1) (.v 0)) (.int 0))
      (.br (.o1 .no (.o1 (.proj 2) (.v 0)))
        (.br (.o1 (.proj 4) (.v 0))
          (.br (.o1 .no (.o1 .no (.o1 (.proj 3) (.v 0))))
            (.ret (.int 1))
            (.ret (.int 0)))
          (.ret (.int 0)))
        (.ret (.int 1)))
      (.ret (.int 1)))
    (.br (.o2 .eqs (.o1 (.proj 0) (.v 0)) (.str [69, 110, 116, 101, 114]))
      (.br (.o2 .eqi (.o1 (.proj 1) (.v 0)) (.int 0))
        (.br (.o1 .no (.o1 (.proj 2) (.v 0)))
          (.br (.o1 .no (.o1 .no (.o1 (.proj 4) (.v 0))))
            (.ret (.int 1))
            (.ret (.int 0)))
          (.ret (.int 1)))
        (.ret (.int 1)))
      (.br (.o2 .eqs (.o1 (.proj 0) (.v 0)) (.str [69, 115, 99, 97, 112, 101]))
        (.br (.o2 .eqi (.o1 (.proj 1) (.v 0)) (.int 0))
          (.br (.o1 .no (.o1 (.proj 2) (.v 0)))
            (.br (.o1 .no (.o1 .no (.o1 (.proj 4) (.v 0))))
              (.ret (.int 1))
              (.ret (.int 0)))
            (.ret (.int 1)))
          (.ret (.int 1)))
        (.br (.o2 .eqs (.o1 (.proj 0) (.v 0)) (.str [66, 97, 99, 107, 115, 112, 97, 99, 101]))
          (.br (.o2 .eqi (.o1 (.proj 1) (.v 0)) (.int 0))
            (.br (.o1 .no (.o1 (.proj 2) (.v 0)))
              (.br (.o1 .no (.o1 .no (.o1 (.proj 4) (.v 0))))
                (.ret (.int 1))
                (.ret (.int 0)))
              (.ret (.int 1)))
            (.ret (.int 1)))
          (.call 1 []
            (.call 0 [(.v 1), (.o1 (.proj 0) (.v 0))]
              (.br (.o1 .no (.v 2))
                (.ret (.int 6))
                (.br (.o1 .no (.o2 .eqi (.o1 (.proj 1) (.v 0)) (.int 0)))
                  (.ret (.int 1))
                  (.ret (.int 0)))))))))))
set_option maxRecDepth 100000 in
theorem qk8 : za4 cx_keyinput_Check 4 sg_keyinput_Check Tryz.f38 (Tryz.f38.body.getD .skip) = tr_keyinput_Check := by kernel_rfl
theorem qk9 {Γ : CEnv} (hg : ∀ n, Γ.glob n = globT n) (hs : ∀ s ∈ cx_keyinput_Check.sigs, Contract Tryz.prog Γ gtabU s (Γ.pre s.no) (Γ.post s.no)) : CxOk cx_keyinput_Check Γ := ⟨by kernel_rfl, hs, (fun x hx => by cases hx), (fun x hx => by cases hx)⟩
theorem qi3 {Γ : CEnv} (hg : ∀ n, Γ.glob n = globT n) (hs : ∀ s ∈ cx_keyinput_Check.sigs, Contract Tryz.prog Γ gtabU s (Γ.pre s.no) (Γ.post s.no)) (k : Nat) {pre : List TV → Prop} {post : List TV → TV → Prop} (h : ∀ ts, ts.length = 1 → pre ts → tr_keyinput_Check.den Γ (post ts) ts []) : Contract Tryz.prog Γ gtabU (qif k) pre post :=
  Contract.renum (zas (qk9 hg hs) 4 sg_keyinput_Check Tryz.func38 (by kernel_rfl) (by kernel_rfl) fun ts hl hp => by rw [qk8]; exact h ts hl hp) k
def sg_keyinput_bare : Sig := ⟨39, 0, [(true, [.str, (.int .i32), .bool, .bool, .bool]), (true, [.bool, .bool, .bool, .bool, .bool, .bool, .bool, .bool, (.int .u8), (.int .u8), (.int .i64)])], [(false, [(.str, none)])]⟩
def qji (k : Nat) : Sig := ⟨sg_keyinput_bare.f, k, sg_keyinput_bare.args, sg_keyinput_bare.res⟩
def qlz : List (FuncId × Nat × Head) := []
def qly : List (FuncId × Nat × Nat × Plan) := []
noncomputable def cx_keyinput_bare : Cx := ⟨Tryz.prog, gtabU, [], [], qlz, qly, []⟩
def tr_keyinput_bare : Tree := (.br (.o2 .eqs (.o1 (.proj 0) (.v 0)) (.str []))
  (.br (.o1 (.proj 2) (.v 0))
    (.ret (.o1 .strOf (.cons (.o2 (.add .u8) (.o1 (.wrap .u8) (.o2 (.sub .i32) (.o1 (.proj 1) (.v 0)) (.int 97))) (.int 1)) .nil)))
    (.ret (.o1 .ofRune (.o1 (.proj 1) (.v 0)))))
  (.br (.o2 .eqs (.o1 (.proj 0) (.v 0)) (.str [84, 97, 98]))
    (.ret (.str [9]))
    (.br (.o2 .eqs (.o1 (.proj 0) (.v 0)) (.str [69, 110, 116, 101, 114]))
      (.br (.o1 (.proj 1) (.v 1))
        (.ret (.str [13, 10]))
        (.ret (.str [13])))
      (.br (.o2 .eqs (.o1 (.proj 0) (.v 0)) (.str [69, 115, 99, 97, 112, 101]))
        (.ret (.str [27]))
        (.br (.o2 .eqs (.o1 (.proj 0) (.v 0)) (.str [66, 97, 99, 107, 115, 112, 97, 99, 101]))
          (.ret (.str [127]))
          (.ret (.str [])))))))
set_option maxRecDepth 100000 in
theorem qlj : za4 cx_keyinput_bare 4 sg_keyinput_bare Tryz.f39 (Tryz.f39.body.getD .skip) = tr_keyinput_bare := by kernel_rfl
theorem qld {Γ : CEnv} (hg : ∀ n, Γ.glob n = globT n) (hs : ∀ s ∈ cx_keyinput_bare.sigs, Contract Tryz.prog Γ gtabU s (Γ.pre s.no) (Γ.post s.no)) : CxOk cx_keyinput_bare Γ := ⟨by kernel_rfl, hs, (fun x hx => by cases hx), (fun x hx => by cases hx)⟩
theorem qki {Γ : CEnv} (hg : ∀ n, Γ.glob n = globT n) (hs : ∀ s ∈ cx_keyinput_bare.sigs, Contract Tryz.prog Γ gtabU s (Γ.pre s.no) (Γ.post s.no)) (k : Nat) {pre : List TV → Prop} {post : List TV → TV → Prop} (h : ∀ ts, ts.length = 2 → pre ts → tr_keyinput_bare.den Γ (post ts) ts []) : Contract Tryz.prog Γ gtabU (qji k) pre post :=
  Contract.renum (zas (qld hg hs) 4 sg_keyinput_bare Tryz.func39 (by kernel_rfl) (by kernel_rfl) fun ts hl hp => by rw [qlj]; exact h ts hl hp) k
def sg_keyinput_named : Sig := ⟨40, 0, [(true, [.str, (.int .i32), .bool, .bool, .bool]), (true, [.bool, .bool, .bool, .bool, .bool, .bool, .bool, .bool, (.int .u8), (.int .u8), (.int .i64)])], [(false, [(.str, none)])]⟩
def qj5 (k : Nat) : Sig := ⟨sg_keyinput_named.f, k, sg_keyinput_named.args, sg_keyinput_named.res⟩
def sg_keyinput_Encode : Sig := ⟨12, 0, [(true, [.str, (.int .i32), .bool, .bool, .bool]), (true, [.bool, .bool, .bool, .bool, .bool, .bool, .bool, .bool, (.int .u8), (.int .u8), (.int .i64)])], [(false, [(.str, none)]), (false, [((.int .i64), none)])]⟩
def qin (k : Nat) : Sig := ⟨sg_keyinput_Encode.f, k, sg_keyinput_Encode.args, sg_keyinput_Encode.res⟩
def qli : List (FuncId × Nat × Head) := []
def qlg : List (FuncId × Nat × Nat × Plan) := []
noncomputable def cx_keyinput_Encode : Cx := ⟨Tryz.prog, gtabU, [qif 0, qji 1, qj5 2], [], qli, qlg, []⟩
def tr_keyinput_Encode : Tree := (.call 0 [(.o1 .agg (.cons (.o1 (.proj 0) (.v 0)) (.cons (.o1 (.proj 1) (.v 0)) (.cons (.o1 (.proj 2) (.v 0)) (.cons (.o1 (.proj 3) (.v 0)) (.cons (.o1 (.proj 4) (.v 0)) .nil))))))]
  (.br (.o1 .no (.o2 .eqi (.v 2) (.int 0)))
    (.ret (.o1 .agg (.cons (.str []) (.cons (.v 2) .nil))))
    (.call 1 [(.o1 .agg (.cons (.o1 (.proj 0) (.v 0)) (.cons (.o1 (.proj 1) (.v 0)) (.cons (.o1 (.proj 2) (.v 0)) (.cons (.o1 (.proj 3) (.v 0)) (.cons (.o1 (.proj 4) (.v 0)) .nil)))))), (.o1 .agg (.cons (.o1 (.proj 0) (.v 1)) (.cons (.o1 (.proj 1) (.v 1)) (.cons (.o1 (.proj 2) (.v 1)) (.cons (.o1 (.proj 3) (.v 1)) (.cons (.o1 (.proj 4) (.v 1)) (.cons (.o1 (.proj 5) (.v 1)) (.cons (.o1 (.proj 6) (.v 1)) (.cons (.o1 (.proj 7) (.v 1)) (.cons (.o1 (.proj 8) (.v 1)) (.cons (.o1 (.proj 9) (.v 1)) (.cons (.o1 (.proj 10) (.v 1)) .nil))))))))))))]
      (.br (.o2 .eqs (.v 3) (.str []))
        (.call 2 [(.o1 .agg (.cons (.o1 (.proj 0) (.v 0)) (.cons (.o1 (.proj 1) (.v 0)) (.cons (.o1 (.proj 2) (.v 0)) (.cons (.o1 (.proj 3) (.v 0)) (.cons (.o1 (.proj 4) (.v 0)) .nil)))))), (.o1 .agg (.cons (.o1 (.proj 0) (.v 1)) (.cons (.o1 (.proj 1) (.v 1)) (.cons (.o1 (.proj 2) (.v 1)) (.cons (.o1 (.proj 3) (.v 1)) (.cons (.o1 (.proj 4) (.v 1)) (.cons (.o1 (.proj 5) (.v 1)) (.cons (.o1 (.proj 6) (.v 1)) (.cons (.o1 (.proj 7) (.v 1)) (.cons (.o1 (.proj 8) (.v 1)) (.cons (.o1 (.proj 9) (.v 1)) (.cons (.o1 (.proj 10) (.v 1)) .nil))))))))))))]
          (.ret (.o1 .agg (.cons (.v 4) (.cons (.int 0) .nil)))))
        (.br (.o2 .eqs (.o1 (.proj 0) (.v 0)) (.str [84, 97, 98]))
          (.br (.o1 (.proj 4) (.v 0))
            (.ret (.o1 .agg (.cons (.str [27, 91, 90]) (.cons (.int 0) .nil))))
            (.br (.o1 (.proj 3) (.v 0))
              (.req (.o2 .lei (.o1 .slen (.o2 .cat (.str [27]) (.v 3))) (.int 9223372036854775807)) (.ret (.o1 .agg (.cons (.o2 .cat (.str [27]) (.v 3)) (.cons (.int 0) .nil)))))
              (.ret (.o1 .agg (.cons (.v 3) (.cons (.int 0) .nil))))))
          (.br (.o1 (.proj 3) (.v 0))
            (.req (.o2 .lei (.o1 .slen (.o2 .cat (.str [27]) (.v 3))) (.int 9223372036854775807)) (.ret (.o1 .agg (.cons (.o2 .cat (.str [27]) (.v 3)) (.cons (.int 0) .nil)))))
            (.ret (.o1 .agg (.cons (.v 3) (.cons (.int 0) .nil))))))))))
set_option maxRecDepth 100000 in
theorem qk4 : za4 cx_keyinput_Encode 4 sg_keyinput_Encode Tryz.f12 (Tryz.f12.body.getD .skip) = tr_keyinput_Encode := by kernel_rfl
theorem qkw {Γ : CEnv} (hg : ∀ n, Γ.glob n = globT n) (hs : ∀ s ∈ cx_keyinput_Encode.sigs, Contract Tryz.prog Γ gtabU s (Γ.pre s.no) (Γ.post s.no)) : CxOk cx_keyinput_Encode Γ := ⟨by kernel_rfl, hs, (fun x hx => by cases hx), (fun x hx => by cases hx)⟩
theorem qj7 {Γ : CEnv} (hg : ∀ n, Γ.glob n = globT n) (hs : ∀ s ∈ cx_keyinput_Encode.sigs, Contract Tryz.prog Γ gtabU s (Γ.pre s.no) (Γ.post s.no)) (k : Nat) {pre : List TV → Prop} {post : List TV → TV → Prop} (h : ∀ ts, ts.length = 2 → pre ts → tr_keyinput_Encode.den Γ (post ts) ts []) : Contract Tryz.prog Γ gtabU (qin k) pre post :=
  Contract.renum (zas (qkw hg hs) 4 sg_keyinput_Encode Tryz.func12 (by kernel_rfl) (by kernel_rfl) fun ts hl hp => by rw [qk4]; exact h ts hl hp) k
def sg_keyinput_single : Sig := ⟨41, 0, [(false, [.str])], [(true, [(.str, none), ((.int .i32), none), (.bool, none), (.bool, none), (.bool, none)]), (false, [((.int .i64), none)])]⟩
def qjx (k : Nat) : Sig := ⟨sg_keyinput_single.f, k, sg_keyinput_single.args, sg_keyinput_single.res⟩
def qlb : List (FuncId × Nat × Head) := []
def qlm : List (FuncId × Nat × Nat × Plan) := []
noncomputable def cx_keyinput_single : Cx := ⟨Tryz.prog, gtabU, [qig 0, qif 1], [], qlb, qlm, []⟩
def tr_keyinput_single : Tree := (.br (.o2 .eqs (.v 0) (.str []))
  (.ret (.o1 .agg (.cons (.o1 .agg (.cons (.str []) (.cons (.int 0) (.cons (.bool false) (.cons (.bool false) (.cons (.bool false) .nil)))))) (.cons (.int 0) .nil))))
  (.req (.o2 .lti (.int 0) (.o1 .slen (.v 0))) (.br (.o2 .lei (.int 1) (.o2 .sidx (.v 0) (.int 0)))
    (.br (.o2 .lei (.o2 .sidx (.v 0) (.int 0)) (.int 26))
      (.call 1 [(.o1 .agg (.cons (.str []) (.cons (.o2 (.sub .i32) (.o2 (.add .i32) (.int 97) (.o1 (.wrap .i32) (.o2 .sidx (.v 0) (.int 0)))) (.int 1)) (.cons (.bool true) (.cons (.bool false) (.cons (.bool false) .nil))))))]
        (.br (.o1 .no (.o2 .eqi (.v 1) (.int 0)))
          (.ret (.o1 .agg (.cons (.o1 .agg (.cons (.str []) (.cons (.int 0) (.cons (.bool false) (.cons (.bool false) (.cons (.bool false) .nil)))))) (.cons (.int 0) .nil))))
          (.ret (.o1 .agg (.cons (.o1 .agg (.cons (.str []) (.cons (.o2 (.sub .i32) (.o2 (.add .i32) (.int 97) (.o1 (.wrap .i32) (.o2 .sidx (.v 0) (.int 0)))) (.int 1)) (.cons (.bool true) (.cons (.bool false) (.cons (.bool false) .nil)))))) (.cons (.int 1) .nil))))))
      (.call 0 [(.v 0)]
        (.br (.o1 .no (.o2 .eqi (.o1 (.proj 0) (.v 1)) (.int 65533)))
          (.call 1 [(.o1 .agg (.cons (.str []) (.cons (.o1 (.proj 0) (.v 1)) (.cons (.bool false) (.cons (.bool false) (.cons (.bool false) .nil))))))]
            (.br (.o2 .eqi (.v 2) (.int 0))
              (.ret (.o1 .agg (.cons (.o1 .agg (.cons (.str []) (.cons (.o1 (.proj 0) (.v 1)) (.cons (.bool false) (.cons (.bool false) (.cons (.bool false) .nil)))))) (.cons (.o1 (.proj 1) (.v 1)) .nil))))
              (.ret (.o1 .agg (.cons (.o1 .agg (.cons (.str []) (.cons (.int 0) (.cons (.bool false) (.cons (.bool false) (.cons (.bool false) .nil)))))) (.cons (.int 0) .nil))))))
          (.br (.o2 .lti (.int 1) (.o1 (.proj 1) (.v 1)))
            (.call 1 [(.o1 .agg (.cons (.str []) (.cons (.o1 (.proj 0) (.v 1)) (.cons (.bool false) (.cons (.bool false) (.cons (.bool false) .nil))))))]
              (.br (.o2 .eqi (.v 2) (.int 0))
                (.ret (.o1 .agg (.cons (.o1 .agg (.cons (.str []) (.cons (.o1 (.proj 0) (.v 1)) (.cons (.bool false) (.cons (.bool false) (.cons (.bool false) .nil)))))) (.cons (.o1 (.proj 1) (.v 1)) .nil))))
                (.ret (.o1 .agg (.cons (.o1 .agg (.cons (.str []) (.cons (.int 0) (.cons (.bool false) (.cons (.bool false) (.cons (.bool false) .nil)))))) (.cons (.int 0) .nil))))))
            (.ret (.o1 .agg (.cons (.o1 .agg (.cons (.str []) (.cons (.int 0) (.cons (.bool false) (.cons (.bool false) (.cons (.bool false) .nil)))))) (.cons (.int 0) .nil))))))))
    (.call 0 [(.v 0)]
      (.br (.o1 .no (.o2 .eqi (.o1 (.proj 0) (.v 1)) (.int 65533)))
        (.call 1 [(.o1 .agg (.cons (.str []) (.cons (.o1 (.proj 0) (.v 1)) (.cons (.bool false) (.cons (.bool false) (.cons (.bool false) .nil))))))]
          (.br (.o2 .eqi (.v 2) (.int 0))
            (.ret (.o1 .agg (.cons (.o1 .agg (.cons (.str []) (.cons (.o1 (.proj 0) (.v 1)) (.cons (.bool false) (.cons (.bool false) (.cons (.bool false) .nil)))))) (.cons (.o1 (.proj 1) (.v 1)) .nil))))
            (.ret (.o1 .agg (.cons (.o1 .agg (.cons (.str []) (.cons (.int 0) (.cons (.bool false) (.cons (.bool false) (.cons (.bool false) .nil)))))) (.cons (.int 0) .nil))))))
        (.br (.o2 .lti (.int 1) (.o1 (.proj 1) (.v 1)))
          (.call 1 [(.o1 .agg (.cons (.str []) (.cons (.o1 (.proj 0) (.v 1)) (.cons (.bool false) (.cons (.bool false) (.cons (.bool false) .nil))))))]
            (.br (.o2 .eqi (.v 2) (.int 0))
              (.ret (.o1 .agg (.cons (.o1 .agg (.cons (.str []) (.cons (.o1 (.proj 0) (.v 1)) (.cons (.bool false) (.cons (.bool false) (.cons (.bool false) .nil)))))) (.cons (.o1 (.proj 1) (.v 1)) .nil))))
              (.ret (.o1 .agg (.cons (.o1 .agg (.cons (.str []) (.cons (.int 0) (.cons (.bool false) (.cons (.bool false) (.cons (.bool false) .nil)))))) (.cons (.int 0) .nil))))))
          (.ret (.o1 .agg (.cons (.o1 .agg (.cons (.str []) (.cons (.int 0) (.cons (.bool false) (.cons (.bool false) (.cons (.bool false) .nil)))))) (.cons (.int 0) .nil))))))))))
set_option maxRecDepth 100000 in
theorem qk3 : za4 cx_keyinput_single 4 sg_keyinput_single Tryz.f41 (Tryz.f41.body.getD .skip) = tr_keyinput_single := by kernel_rfl
theorem qk2 {Γ : CEnv} (hg : ∀ n, Γ.glob n = globT n) (hs : ∀ s ∈ cx_keyinput_single.sigs, Contract Tryz.prog Γ gtabU s (Γ.pre s.no) (Γ.post s.no)) : CxOk cx_keyinput_single Γ := ⟨by kernel_rfl, hs, (fun x hx => by cases hx), (fun x hx => by cases hx)⟩
theorem contract_keyinput_single {Γ : CEnv} (hg : ∀ n, Γ.glob n = globT n) (hs : ∀ s ∈ cx_keyinput_single.sigs, Contract Tryz.prog Γ gtabU s (Γ.pre s.no) (Γ.post s.no)) (k : Nat) {pre : List TV → Prop} {post : List TV → TV → Prop} (h : ∀ ts, ts.length = 1 → pre ts → tr_keyinput_single.den Γ (post ts) ts []) : Contract Tryz.prog Γ gtabU (qjx k) pre post :=
  Contract.renum (zas (qk2 hg hs) 4 sg_keyinput_single Tryz.func41 (by kernel_rfl) (by kernel_rfl) fun ts hl hp => by rw [qk3]; exact h ts hl hp) k
def sg_keyinput_all : Sig := ⟨44, 0, [], [(false, [((.slice true [.str, (.int .i32), .bool, .bool, .bool]), some 42)])]⟩
def qkr (k : Nat) : Sig := ⟨sg_keyinput_all.f, k, sg_keyinput_all.args, sg_keyinput_all.res⟩
def ql5 : List (FuncId × Nat × Head) := [(44, 3, ⟨[1, 6, 7, 8], [.slot 6 true 9 false [.str], .slot 1 true 42 true [.str, (.int .i32), .bool, .bool, .bool]], [8], [1], [], []⟩), (44, 6, ⟨[1, 3, 6, 7, 8, 12], [.slot 1 true 42 true [.str, (.int .i32), .bool, .bool, .bool], .slot 6 true 9 false [.str]], [12], [0], [], []⟩)]
def ql6 : List (FuncId × Nat × Nat × Plan) := []
noncomputable def cx_keyinput_all : Cx := ⟨Tryz.prog, gtabU, [qip 0, qif 1], [], ql5, ql6, []⟩
def tr_keyinput_all : Tree := (.call 0 []
  (.loop [(.int 0), .nil]
    (.br (.o2 .lti (.v 1) (.o1 .len (.v 0)))
      (.req (.o2 .lei (.int 0) (.v 1)) (.req (.o2 .lti (.v 1) (.o1 .len (.v 0))) (.loop [(.int 0), (.v 2)]
        (.br (.o2 .lti (.v 3) (.int 8))
          (.call 1 [(.o1 .agg (.cons (.o2 .idx (.v 0) (.v 1)) (.cons (.int 0) (.cons (.o2 .lti (.int 0) (.o2 (.and .i64) (.v 3) (.int 4))) (.cons (.o2 .lti (.int 0) (.o2 (.and .i64) (.v 3) (.int 2))) (.cons (.o2 .lti (.int 0) (.o2 (.and .i64) (.v 3) (.int 1))) .nil))))))]
            (.br (.o2 .eqi (.v 5) (.int 0))
              (.req (.o2 .lei (.o1 .len (.o2 .app (.v 4) (.cons (.o1 .agg (.cons (.o2 .idx (.v 0) (.v 1)) (.cons (.int 0) (.cons (.o2 .lti (.int 0) (.o2 (.and .i64) (.v 3) (.int 4))) (.cons (.o2 .lti (.int 0) (.o2 (.and .i64) (.v 3) (.int 2))) (.cons (.o2 .lti (.int 0) (.o2 (.and .i64) (.v 3) (.int 1))) .nil)))))) .nil))) (.int 1099511627776)) (.back 1 [(.o2 (.add .i64) (.v 3) (.int 1)), (.o2 .app (.v 4) (.cons (.o1 .agg (.cons (.o2 .idx (.v 0) (.v 1)) (.cons (.int 0) (.cons (.o2 .lti (.int 0) (.o2 (.and .i64) (.v 3) (.int 4))) (.cons (.o2 .lti (.int 0) (.o2 (.and .i64) (.v 3) (.int 2))) (.cons (.o2 .lti (.int 0) (.o2 (.and .i64) (.v 3) (.int 1))) .nil)))))) .nil))]))
              (.back 1 [(.o2 (.add .i64) (.v 3) (.int 1)), (.v 4)])))
          (.back 0 [(.o2 (.add .i64) (.v 1) (.int 1)), (.v 4)])))))
      (.ret (.v 2)))))
set_option maxRecDepth 100000 in
theorem qlv : za4 cx_keyinput_all 4 sg_keyinput_all Tryz.f44 (Tryz.f44.body.getD .skip) = tr_keyinput_all := by kernel_rfl
theorem qls {Γ : CEnv} (hg : ∀ n, Γ.glob n = globT n) (hs : ∀ s ∈ cx_keyinput_all.sigs, Contract Tryz.prog Γ gtabU s (Γ.pre s.no) (Γ.post s.no)) : CxOk cx_keyinput_all Γ := ⟨by kernel_rfl, hs, (fun x hx => by cases hx), (fun x hx => by cases hx)⟩
theorem contract_keyinput_all {Γ : CEnv} (hg : ∀ n, Γ.glob n = globT n) (hs : ∀ s ∈ cx_keyinput_all.sigs, Contract Tryz.prog Γ gtabU s (Γ.pre s.no) (Γ.post s.no)) (k : Nat) {pre : List TV → Prop} {post : List TV → TV → Prop} (h : ∀ ts, ts.length = 0 → pre ts → tr_keyinput_all.den Γ (post ts) ts []) : Contract Tryz.prog Γ gtabU (qkr k) pre post :=
  Contract.renum (zas (qls hg hs) 4 sg_keyinput_all Tryz.func44 (by kernel_rfl) (by kernel_rfl) fun ts hl hp => by rw [qlv]; exact h ts hl hp) k
def sg_keyinput_Decode : Sig := ⟨13, 0, [(false, [.str]), (true, [.bool, .bool, .bool, .bool, .bool, .bool, .bool, .bool, (.int .u8), (.int .u8), (.int .i64)])], [(true, [(.str, none), ((.int .i32), none), (.bool, none), (.bool, none), (.bool, none)]), (false, [((.int .i64), none)]), (false, [((.int .i64), none)])]⟩
def qjy (k : Nat) : Sig := ⟨sg_keyinput_Decode.f, k, sg_keyinput_Decode.args, sg_keyinput_Decode.res⟩
def qlk : List (FuncId × Nat × Head) := [(13, 10, ⟨[0, 3, 4, 7, 8, 13, 47, 48, 49], [.slot 3 true 48 false [], .slot 4 true 42 false [], .slot 7 true 42 false [], .slot 47 true 42 true [.str, (.int .i32), .bool, .bool, .bool]], [13, 49, 8], [], [(2, 4), (2, 3), (2, 2), (2, 1), (2, 0)], []⟩)]
def qlf : List (FuncId × Nat × Nat × Plan) := []
noncomputable def cx_keyinput_Decode : Cx := ⟨Tryz.prog, gtabU, [zeh 0, qjj 1, qij 2, qin 3, qjx 4, qkr 5], [], qlk, qlf, []⟩
def tr_keyinput_Decode : Tree := (.call 4 [(.v 0)]
  (.call 1 [(.v 0), (.str [27])]
    (.br (.o1 (.proj 1) (.v 3))
      (.call 4 [(.o1 (.proj 0) (.v 3))]
        (.br (.o2 .lti (.int 0) (.o1 (.proj 1) (.v 4)))
          (.br (.o2 .eqs (.v 0) (.str []))
            (.call 5 []
              (.loop [(.o2 (.add .i64) (.o1 (.proj 1) (.v 4)) (.int 1)), (.bool true), (.int 0), (.o1 (.proj 0) (.o1 (.proj 0) (.v 4))), (.o1 (.proj 1) (.o1 (.proj 0) (.v 4))), (.o1 (.proj 2) (.o1 (.proj 0) (.v 4))), (.bool true), (.o1 (.proj 4) (.o1 (.proj 0) (.v 4)))]
                (.br (.o2 .lti (.v 8) (.o1 .len (.v 5)))
                  (.req (.o2 .lei (.int 0) (.v 8)) (.req (.o2 .lti (.v 8) (.o1 .len (.v 5))) (.call 3 [(.o1 .agg (.cons (.o1 (.proj 0) (.o2 .idx (.v 5) (.v 8))) (.cons (.o1 (.proj 1) (.o2 .idx (.v 5) (.v 8))) (.cons (.o1 (.proj 2) (.o2 .idx (.v 5) (.v 8))) (.cons (.o1 (.proj 3) (.o2 .idx (.v 5) (.v 8))) (.cons (.o1 (.proj 4) (.o2 .idx (.v 5) (.v 8))) .nil)))))), (.o1 .agg (.cons (.o1 (.proj 0) (.v 1)) (.cons (.o1 (.proj 1) (.v 1)) (.cons (.o1 (.proj 2) (.v 1)) (.cons (.o1 (.proj 3) (.v 1)) (.cons (.o1 (.proj 4) (.v 1)) (.cons (.o1 (.proj 5) (.v 1)) (.cons (.o1 (.proj 6) (.v 1)) (.cons (.o1 (.proj 7) (.v 1)) (.cons (.o1 (.proj 8) (.v 1)) (.cons (.o1 (.proj 9) (.v 1)) (.cons (.o1 (.proj 10) (.v 1)) .nil))))))))))))]
                    (.call 0 [(.v 0), (.o1 (.proj 0) (.v 14))]
                      (.br (.v 15)
                        (.br (.o2 .lti (.v 6) (.o1 .slen (.o1 (.proj 0) (.v 14))))
                          (.br (.v 7)
                            (.back 0 [(.o1 .slen (.o1 (.proj 0) (.v 14))), (.bool true), (.o2 (.add .i64) (.v 8) (.int 1)), (.o1 (.proj 0) (.o2 .idx (.v 5) (.v 8))), (.o1 (.proj 1) (.o2 .idx (.v 5) (.v 8))), (.o1 (.proj 2) (.o2 .idx (.v 5) (.v 8))), (.o1 (.proj 3) (.o2 .idx (.v 5) (.v 8))), (.o1 (.proj 4) (.o2 .idx (.v 5) (.v 8)))])
                            (.call 0 [(.o1 (.proj 0) (.v 14)), (.v 0)]
                              (.back 0 [(.o1 .slen (.o1 (.proj 0) (.v 14))), (.v 16), (.o2 (.add .i64) (.v 8) (.int 1)), (.o1 (.proj 0) (.o2 .idx (.v 5) (.v 8))), (.o1 (.proj 1) (.o2 .idx (.v 5) (.v 8))), (.o1 (.proj 2) (.o2 .idx (.v 5) (.v 8))), (.o1 (.proj 3) (.o2 .idx (.v 5) (.v 8))), (.o1 (.proj 4) (.o2 .idx (.v 5) (.v 8)))])))
                          (.br (.v 7)
                            (.back 0 [(.v 6), (.bool true), (.o2 (.add .i64) (.v 8) (.int 1)), (.v 9), (.v 10), (.v 11), (.v 12), (.v 13)])
                            (.call 0 [(.o1 (.proj 0) (.v 14)), (.v 0)]
                              (.back 0 [(.v 6), (.v 16), (.o2 (.add .i64) (.v 8) (.int 1)), (.v 9), (.v 10), (.v 11), (.v 12), (.v 13)]))))
                        (.br (.v 7)
                          (.back 0 [(.v 6), (.bool true), (.o2 (.add .i64) (.v 8) (.int 1)), (.v 9), (.v 10), (.v 11), (.v 12), (.v 13)])
                          (.call 0 [(.o1 (.proj 0) (.v 14)), (.v 0)]
                            (.back 0 [(.v 6), (.v 16), (.o2 (.add .i64) (.v 8) (.int 1)), (.v 9), (.v 10), (.v 11), (.v 12), (.v 13)]))))))))
                  (.br (.o2 .lti (.int 0) (.v 6))
                    (.ret (.o1 .agg (.cons (.o1 .agg (.cons (.v 9) (.cons (.v 10) (.cons (.v 11) (.cons (.v 12) (.cons (.v 13) .nil)))))) (.cons (.v 6) (.cons (.int 0) .nil)))))
                    (.br (.v 7)
                      (.ret (.o1 .agg (.cons (.o1 .agg (.cons (.str []) (.cons (.int 0) (.cons (.bool false) (.cons (.bool false) (.cons (.bool false) .nil)))))) (.cons (.int 0) (.cons (.int 4) .nil)))))
                      (.ret (.o1 .agg (.cons (.o1 .agg (.cons (.str []) (.cons (.int 0) (.cons (.bool false) (.cons (.bool false) (.cons (.bool false) .nil)))))) (.cons (.int 0) (.cons (.int 3) .nil))))))))))
            (.call 2 [(.v 0)]
              (.call 5 []
                (.loop [(.o2 (.add .i64) (.o1 (.proj 1) (.v 4)) (.int 1)), (.o1 .no (.v 5)), (.int 0), (.o1 (.proj 0) (.o1 (.proj 0) (.v 4))), (.o1 (.proj 1) (.o1 (.proj 0) (.v 4))), (.o1 (.proj 2) (.o1 (.proj 0) (.v 4))), (.bool true), (.o1 (.proj 4) (.o1 (.proj 0) (.v 4)))]
                  (.br (.o2 .lti (.v 9) (.o1 .len (.v 6)))
                    (.req (.o2 .lei (.int 0) (.v 9)) (.req (.o2 .lti (.v 9) (.o1 .len (.v 6))) (.call 3 [(.o1 .agg (.cons (.o1 (.proj 0) (.o2 .idx (.v 6) (.v 9))) (.cons (.o1 (.proj 1) (.o2 .idx (.v 6) (.v 9))) (.cons (.o1 (.proj 2) (.o2 .idx (.v 6) (.v 9))) (.cons (.o1 (.proj 3) (.o2 .idx (.v 6) (.v 9))) (.cons (.o1 (.proj 4) (.o2 .idx (.v 6) (.v 9))) .nil)))))), (.o1 .agg (.cons (.o1 (.proj 0) (.v 1)) (.cons (.o1 (.proj 1) (.v 1)) (.cons (.o1 (.proj 2) (.v 1)) (.cons (.o1 (.proj 3) (.v 1)) (.cons (.o1 (.proj 4) (.v 1)) (.cons (.o1 (.proj 5) (.v 1)) (.cons (.o1 (.proj 6) (.v 1)) (.cons (.o1 (.proj 7) (.v 1)) (.cons (.o1 (.proj 8) (.v 1)) (.cons (.o1 (.proj 9) (.v 1)) (.cons (.o1 (.proj 10) (.v 1)) .nil))))))))))))]
                      (.call 0 [(.v 0), (.o1 (.proj 0) (.v 15))]
                        (.br (.v 16)
                          (.br (.o2 .lti (.v 7) (.o1 .slen (.o1 (.proj 0) (.v 15))))
                            (.br (.v 8)
                              (.back 0 [(.o1 .slen (.o1 (.proj 0) (.v 15))), (.bool true), (.o2 (.add .i64) (.v 9) (.int 1)), (.o1 (.proj 0) (.o2 .idx (.v 6) (.v 9))), (.o1 (.proj 1) (.o2 .idx (.v 6) (.v 9))), (.o1 (.proj 2) (.o2 .idx (.v 6) (.v 9))), (.o1 (.proj 3) (.o2 .idx (.v 6) (.v 9))), (.o1 (.proj 4) (.o2 .idx (.v 6) (.v 9)))])
                              (.call 0 [(.o1 (.proj 0) (.v 15)), (.v 0)]
                                (.back 0 [(.o1 .slen (.o1 (.proj 0) (.v 15))), (.v 17), (.o2 (.add .i64) (.v 9) (.int 1)), (.o1 (.proj 0) (.o2 .idx (.v 6) (.v 9))), (.o1 (.proj 1) (.o2 .idx (.v 6) (.v 9))), (.o1 (.proj 2) (.o2 .idx (.v 6) (.v 9))), (.o1 (.proj 3) (.o2 .idx (.v 6) (.v 9))), (.o1 (.proj 4) (.o2 .idx (.v 6) (.v 9)))])))
                            (.br (.v 8)
                              (.back 0 [(.v 7), (.bool true), (.o2 (.add .i64) (.v 9) (.int 1)), (.v 10), (.v 11), (.v 12), (.v 13), (.v 14)])
                              (.call 0 [(.o1 (.proj 0) (.v 15)), (.v 0)]
                                (.back 0 [(.v 7), (.v 17), (.o2 (.add .i64) (.v 9) (.int 1)), (.v 10), (.v 11), (.v 12), (.v 13), (.v 14)]))))
                          (.br (.v 8)
                            (.back 0 [(.v 7), (.bool true), (.o2 (.add .i64) (.v 9) (.int 1)), (.v 10), (.v 11), (.v 12), (.v 13), (.v 14)])
                            (.call 0 [(.o1 (.proj 0) (.v 15)), (.v 0)]
                              (.back 0 [(.v 7), (.v 17), (.o2 (.add .i64) (.v 9) (.int 1)), (.v 10), (.v 11), (.v 12), (.v 13), (.v 14)]))))))))
                    (.br (.o2 .lti (.int 0) (.v 7))
                      (.ret (.o1 .agg (.cons (.o1 .agg (.cons (.v 10) (.cons (.v 11) (.cons (.v 12) (.cons (.v 13) (.cons (.v 14) .nil)))))) (.cons (.v 7) (.cons (.int 0) .nil)))))
                      (.br (.v 8)
                        (.ret (.o1 .agg (.cons (.o1 .agg (.cons (.str []) (.cons (.int 0) (.cons (.bool false) (.cons (.bool false) (.cons (.bool false) .nil)))))) (.cons (.int 0) (.cons (.int 4) .nil)))))
                        (.ret (.o1 .agg (.cons (.o1 .agg (.cons (.str []) (.cons (.int 0) (.cons (.bool false) (.cons (.bool false) (.cons (.bool false) .nil)))))) (.cons (.int 0) (.cons (.int 3) .nil))))))))))))
          (.br (.o2 .eqs (.v 0) (.str []))
            (.call 5 []
              (.loop [(.o1 (.proj 1) (.v 2)), (.bool true), (.int 0), (.o1 (.proj 0) (.o1 (.proj 0) (.v 2))), (.o1 (.proj 1) (.o1 (.proj 0) (.v 2))), (.o1 (.proj 2) (.o1 (.proj 0) (.v 2))), (.o1 (.proj 3) (.o1 (.proj 0) (.v 2))), (.o1 (.proj 4) (.o1 (.proj 0) (.v 2)))]
                (.br (.o2 .lti (.v 8) (.o1 .len (.v 5)))
                  (.req (.o2 .lei (.int 0) (.v 8)) (.req (.o2 .lti (.v 8) (.o1 .len (.v 5))) (.call 3 [(.o1 .agg (.cons (.o1 (.proj 0) (.o2 .idx (.v 5) (.v 8))) (.cons (.o1 (.proj 1) (.o2 .idx (.v 5) (.v 8))) (.cons (.o1 (.proj 2) (.o2 .idx (.v 5) (.v 8))) (.cons (.o1 (.proj 3) (.o2 .idx (.v 5) (.v 8))) (.cons (.o1 (.proj 4) (.o2 .idx (.v 5) (.v 8))) .nil)))))), (.o1 .agg (.cons (.o1 (.proj 0) (.v 1)) (.cons (.o1 (.proj 1) (.v 1)) (.cons (.o1 (.proj 2) (.v 1)) (.cons (.o1 (.proj 3) (.v 1)) (.cons (.o1 (.proj 4) (.v 1)) (.cons (.o1 (.proj 5) (.v 1)) (.cons (.o1 (.proj 6) (.v 1)) (.cons (.o1 (.proj 7) (.v 1)) (.cons (.o1 (.proj 8) (.v 1)) (.cons (.o1 (.proj 9) (.v 1)) (.cons (.o1 (.proj 10) (.v 1)) .nil))))))))))))]
                    (.call 0 [(.v 0), (.o1 (.proj 0) (.v 14))]
                      (.br (.v 15)
                        (.br (.o2 .lti (.v 6) (.o1 .slen (.o1 (.proj 0) (.v 14))))
                          (.br (.v 7)
                            (.back 0 [(.o1 .slen (.o1 (.proj 0) (.v 14))), (.bool true), (.o2 (.add .i64) (.v 8) (.int 1)), (.o1 (.proj 0) (.o2 .idx (.v 5) (.v 8))), (.o1 (.proj 1) (.o2 .idx (.v 5) (.v 8))), (.o1 (.proj 2) (.o2 .idx (.v 5) (.v 8))), (.o1 (.proj 3) (.o2 .idx (.v 5) (.v 8))), (.o1 (.proj 4) (.o2 .idx (.v 5) (.v 8)))])
                            (.call 0 [(.o1 (.proj 0) (.v 14)), (.v 0)]
                              (.back 0 [(.o1 .slen (.o1 (.proj 0) (.v 14))), (.v 16), (.o2 (.add .i64) (.v 8) (.int 1)), (.o1 (.proj 0) (.o2 .idx (.v 5) (.v 8))), (.o1 (.proj 1) (.o2 .idx (.v 5) (.v 8))), (.o1 (.proj 2) (.o2 .idx (.v 5) (.v 8))), (.o1 (.proj 3) (.o2 .idx (.v 5) (.v 8))), (.o1 (.proj 4) (.o2 .idx (.v 5) (.v 8)))])))
                          (.br (.v 7)
                            (.back 0 [(.v 6), (.bool true), (.o2 (.add .i64) (.v 8) (.int 1)), (.v 9), (.v 10), (.v 11), (.v 12), (.v 13)])
                            (.call 0 [(.o1 (.proj 0) (.v 14)), (.v 0)]
                              (.back 0 [(.v 6), (.v 16), (.o2 (.add .i64) (.v 8) (.int 1)), (.v 9), (.v 10), (.v 11), (.v 12), (.v 13)]))))
                        (.br (.v 7)
                          (.back 0 [(.v 6), (.bool true), (.o2 (.add .i64) (.v 8) (.int 1)), (.v 9), (.v 10), (.v 11), (.v 12), (.v 13)])
                          (.call 0 [(.o1 (.proj 0) (.v 14)), (.v 0)]
                            (.back 0 [(.v 6), (.v 16), (.o2 (.add .i64) (.v 8) (.int 1)), (.v 9), (.v 10), (.v 11), (.v 12), (.v 13)]))))))))
                  (.br (.o2 .lti (.int 0) (.v 6))
                    (.ret (.o1 .agg (.cons (.o1 .agg (.cons (.v 9) (.cons (.v 10) (.cons (.v 11) (.cons (.v 12) (.cons (.v 13) .nil)))))) (.cons (.v 6) (.cons (.int 0) .nil)))))
                    (.br (.v 7)
                      (.ret (.o1 .agg (.cons (.o1 .agg (.cons (.str []) (.cons (.int 0) (.cons (.bool false) (.cons (.bool false) (.cons (.bool false) .nil)))))) (.cons (.int 0) (.cons (.int 4) .nil)))))
                      (.ret (.o1 .agg (.cons (.o1 .agg (.cons (.str []) (.cons (.int 0) (.cons (.bool false) (.cons (.bool false) (.cons (.bool false) .nil)))))) (.cons (.int 0) (.cons (.int 3) .nil))))))))))
            (.call 2 [(.v 0)]
              (.call 5 []
                (.loop [(.o1 (.proj 1) (.v 2)), (.o1 .no (.v 5)), (.int 0), (.o1 (.proj 0) (.o1 (.proj 0) (.v 2))), (.o1 (.proj 1) (.o1 (.proj 0) (.v 2))), (.o1 (.proj 2) (.o1 (.proj 0) (.v 2))), (.o1 (.proj 3) (.o1 (.proj 0) (.v 2))), (.o1 (.proj 4) (.o1 (.proj 0) (.v 2)))]
                  (.br (.o2 .lti (.v 9) (.o1 .len (.v 6)))
                    (.req (.o2 .lei (.int 0) (.v 9)) (.req (.o2 .lti (.v 9) (.o1 .len (.v 6))) (.call 3 [(.o1 .agg (.cons (.o1 (.proj 0) (.o2 .idx (.v 6) (.v 9))) (.cons (.o1 (.proj 1) (.o2 .idx (.v 6) (.v 9))) (.cons (.o1 (.proj 2) (.o2 .idx (.v 6) (.v 9))) (.cons (.o1 (.proj 3) (.o2 .idx (.v 6) (.v 9))) (.cons (.o1 (.proj 4) (.o2 .idx (.v 6) (.v 9))) .nil)))))), (.o1 .agg (.cons (.o1 (.proj 0) (.v 1)) (.cons (.o1 (.proj 1) (.v 1)) (.cons (.o1 (.proj 2) (.v 1)) (.cons (.o1 (.proj 3) (.v 1)) (.cons (.o1 (.proj 4) (.v 1)) (.cons (.o1 (.proj 5) (.v 1)) (.cons (.o1 (.proj 6) (.v 1)) (.cons (.o1 (.proj 7) (.v 1)) (.cons (.o1 (.proj 8) (.v 1)) (.cons (.o1 (.proj 9) (.v 1)) (.cons (.o1 (.proj 10) (.v 1)) .nil))))))))))))]
                      (.call 0 [(.v 0), (.o1 (.proj 0) (.v 15))]
                        (.br (.v 16)
                          (.br (.o2 .lti (.v 7) (.o1 .slen (.o1 (.proj 0) (.v 15))))
                            (.br (.v 8)
                              (.back 0 [(.o1 .slen (.o1 (.proj 0) (.v 15))), (.bool true), (.o2 (.add .i64) (.v 9) (.int 1)), (.o1 (.proj 0) (.o2 .idx (.v 6) (.v 9))), (.o1 (.proj 1) (.o2 .idx (.v 6) (.v 9))), (.o1 (.proj 2) (.o2 .idx (.v 6) (.v 9))), (.o1 (.proj 3) (.o2 .idx (.v 6) (.v 9))), (.o1 (.proj 4) (.o2 .idx (.v 6) (.v 9)))])
                              (.call 0 [(.o1 (.proj 0) (.v 15)), (.v 0)]
                                (.back 0 [(.o1 .slen (.o1 (.proj 0) (.v 15))), (.v 17), (.o2 (.add .i64) (.v 9) (.int 1)), (.o1 (.proj 0) (.o2 .idx (.v 6) (.v 9))), (.o1 (.proj 1) (.o2 .idx (.v 6) (.v 9))), (.o1 (.proj 2) (.o2 .idx (.v 6) (.v 9))), (.o1 (.proj 3) (.o2 .idx (.v 6) (.v 9))), (.o1 (.proj 4) (.o2 .idx (.v 6) (.v 9)))])))
                            (.br (.v 8)
                              (.back 0 [(.v 7), (.bool true), (.o2 (.add .i64) (.v 9) (.int 1)), (.v 10), (.v 11), (.v 12), (.v 13), (.v 14)])
                              (.call 0 [(.o1 (.proj 0) (.v 15)), (.v 0)]
                                (.back 0 [(.v 7), (.v 17), (.o2 (.add .i64) (.v 9) (.int 1)), (.v 10), (.v 11), (.v 12), (.v 13), (.v 14)]))))
                          (.br (.v 8)
                            (.back 0 [(.v 7), (.bool true), (.o2 (.add .i64) (.v 9) (.int 1)), (.v 10), (.v 11), (.v 12), (.v 13), (.v 14)])
                            (.call 0 [(.o1 (.proj 0) (.v 15)), (.v 0)]
                              (.back 0 [(.v 7), (.v 17), (.o2 (.add .i64) (.v 9) (.int 1)), (.v 10), (.v 11), (.v 12), (.v 13), (.v 14)]))))))))
                    (.br (.o2 .lti (.int 0) (.v 7))
                      (.ret (.o1 .agg (.cons (.o1 .agg (.cons (.v 10) (.cons (.v 11) (.cons (.v 12) (.cons (.v 13) (.cons (.v 14) .nil)))))) (.cons (.v 7) (.cons (.int 0) .nil)))))
                      (.br (.v 8)
                        (.ret (.o1 .agg (.cons (.o1 .agg (.cons (.str []) (.cons (.int 0) (.cons (.bool false) (.cons (.bool false) (.cons (.bool false) .nil)))))) (.cons (.int 0) (.cons (.int 4) .nil)))))
                        (.ret (.o1 .agg (.cons (.o1 .agg (.cons (.str []) (.cons (.int 0) (.cons (.bool false) (.cons (.bool false) (.cons (.bool false) .nil)))))) (.cons (.int 0) (.cons (.int 3) .nil))))))))))))))
      (.br (.o2 .eqs (.v 0) (.str []))
        (.call 5 []
          (.loop [(.o1 (.proj 1) (.v 2)), (.bool true), (.int 0), (.o1 (.proj 0) (.o1 (.proj 0) (.v 2))), (.o1 (.proj 1) (.o1 (.proj 0) (.v 2))), (.o1 (.proj 2) (.o1 (.proj 0) (.v 2))), (.o1 (.proj 3) (.o1 (.proj 0) (.v 2))), (.o1 (.proj 4) (.o1 (.proj 0) (.v 2)))]
            (.br (.o2 .lti (.v 7) (.o1 .len (.v 4)))
              (.req (.o2 .lei (.int 0) (.v 7)) (.req (.o2 .lti (.v 7) (.o1 .len (.v 4))) (.call 3 [(.o1 .agg (.cons (.o1 (.proj 0) (.o2 .idx (.v 4) (.v 7))) (.cons (.o1 (.proj 1) (.o2 .idx (.v 4) (.v 7))) (.cons (.o1 (.proj 2) (.o2 .idx (.v 4) (.v 7))) (.cons (.o1 (.proj 3) (.o2 .idx (.v 4) (.v 7))) (.cons (.o1 (.proj 4) (.o2 .idx (.v 4) (.v 7))) .nil)))))), (.o1 .agg (.cons (.o1 (.proj 0) (.v 1)) (.cons (.o1 (.proj 1) (.v 1)) (.cons (.o1 (.proj 2) (.v 1)) (.cons (.o1 (.proj 3) (.v 1)) (.cons (.o1 (.proj 4) (.v 1)) (.cons (.o1 (.proj 5) (.v 1)) (.cons (.o1 (.proj 6) (.v 1)) (.cons (.o1 (.proj 7) (.v 1)) (.cons (.o1 (.proj 8) (.v 1)) (.cons (.o1 (.proj 9) (.v 1)) (.cons (.o1 (.proj 10) (.v 1)) .nil))))))))))))]
                (.call 0 [(.v 0), (.o1 (.proj 0) (.v 13))]
                  (.br (.v 14)
                    (.br (.o2 .lti (.v 5) (.o1 .slen (.o1 (.proj 0) (.v 13))))
                      (.br (.v 6)
                        (.back 0 [(.o1 .slen (.o1 (.proj 0) (.v 13))), (.bool true), (.o2 (.add .i64) (.v 7) (.int 1)), (.o1 (.proj 0) (.o2 .idx (.v 4) (.v 7))), (.o1 (.proj 1) (.o2 .idx (.v 4) (.v 7))), (.o1 (.proj 2) (.o2 .idx (.v 4) (.v 7))), (.o1 (.proj 3) (.o2 .idx (.v 4) (.v 7))), (.o1 (.proj 4) (.o2 .idx (.v 4) (.v 7)))])
                        (.call 0 [(.o1 (.proj 0) (.v 13)), (.v 0)]
                          (.back 0 [(.o1 .slen (.o1 (.proj 0) (.v 13))), (.v 15), (.o2 (.add .i64) (.v 7) (.int 1)), (.o1 (.proj 0) (.o2 .idx (.v 4) (.v 7))), (.o1 (.proj 1) (.o2 .idx (.v 4) (.v 7))), (.o1 (.proj 2) (.o2 .idx (.v 4) (.v 7))), (.o1 (.proj 3) (.o2 .idx (.v 4) (.v 7))), (.o1 (.proj 4) (.o2 .idx (.v 4) (.v 7)))])))
                      (.br (.v 6)
                        (.back 0 [(.v 5), (.bool true), (.o2 (.add .i64) (.v 7) (.int 1)), (.v 8), (.v 9), (.v 10), (.v 11), (.v 12)])
                        (.call 0 [(.o1 (.proj 0) (.v 13)), (.v 0)]
                          (.back 0 [(.v 5), (.v 15), (.o2 (.add .i64) (.v 7) (.int 1)), (.v 8), (.v 9), (.v 10), (.v 11), (.v 12)]))))
                    (.br (.v 6)
                      (.back 0 [(.v 5), (.bool true), (.o2 (.add .i64) (.v 7) (.int 1)), (.v 8), (.v 9), (.v 10), (.v 11), (.v 12)])
                      (.call 0 [(.o1 (.proj 0) (.v 13)), (.v 0)]
                        (.back 0 [(.v 5), (.v 15), (.o2 (.add .i64) (.v 7) (.int 1)), (.v 8), (.v 9), (.v 10), (.v 11), (.v 12)]))))))))
              (.br (.o2 .lti (.int 0) (.v 5))
                (.ret (.o1 .agg (.cons (.o1 .agg (.cons (.v 8) (.cons (.v 9) (.cons (.v 10) (.cons (.v 11) (.cons (.v 12) .nil)))))) (.cons (.v 5) (.cons (.int 0) .nil)))))
                (.br (.v 6)
                  (.ret (.o1 .agg (.cons (.o1 .agg (.cons (.str []) (.cons (.int 0) (.cons (.bool false) (.cons (.bool false) (.cons (.bool false) .nil)))))) (.cons (.int 0) (.cons (.int 4) .nil)))))
                  (.ret (.o1 .agg (.cons (.o1 .agg (.cons (.str []) (.cons (.int 0) (.cons (.bool false) (.cons (.bool false) (.cons (.bool false) .nil)))))) (.cons (.int 0) (.cons (.int 3) .nil))))))))))
        (.call 2 [(.v 0)]
          (.call 5 []
            (.loop [(.o1 (.proj 1) (.v 2)), (.o1 .no (.v 4)), (.int 0), (.o1 (.proj 0) (.o1 (.proj 0) (.v 2))), (.o1 (.proj 1) (.o1 (.proj 0) (.v 2))), (.o1 (.proj 2) (.o1 (.proj 0) (.v 2))), (.o1 (.proj 3) (.o1 (.proj 0) (.v 2))), (.o1 (.proj 4) (.o1 (.proj 0) (.v 2)))]
              (.br (.o2 .lti (.v 8) (.o1 .len (.v 5)))
                (.req (.o2 .lei (.int 0) (.v 8)) (.req (.o2 .lti (.v 8) (.o1 .len (.v 5))) (.call 3 [(.o1 .agg (.cons (.o1 (.proj 0) (.o2 .idx (.v 5) (.v 8))) (.cons (.o1 (.proj 1) (.o2 .idx (.v 5) (.v 8))) (.cons (.o1 (.proj 2) (.o2 .idx (.v 5) (.v 8))) (.cons (.o1 (.proj 3) (.o2 .idx (.v 5) (.v 8))) (.cons (.o1 (.proj 4) (.o2 .idx (.v 5) (.v 8))) .nil)))))), (.o1 .agg (.cons (.o1 (.proj 0) (.v 1)) (.cons (.o1 (.proj 1) (.v 1)) (.cons (.o1 (.proj 2) (.v 1)) (.cons (.o1 (.proj 3) (.v 1)) (.cons (.o1 (.proj 4) (.v 1)) (.cons (.o1 (.proj 5) (.v 1)) (.cons (.o1 (.proj 6) (.v 1)) (.cons (.o1 (.proj 7) (.v 1)) (.cons (.o1 (.proj 8) (.v 1)) (.cons (.o1 (.proj 9) (.v 1)) (.cons (.o1 (.proj 10) (.v 1)) .nil))))))))))))]
                  (.call 0 [(.v 0), (.o1 (.proj 0) (.v 14))]
                    (.br (.v 15)
                      (.br (.o2 .lti (.v 6) (.o1 .slen (.o1 (.proj 0) (.v 14))))
                        (.br (.v 7)
                          (.back 0 [(.o1 .slen (.o1 (.proj 0) (.v 14))), (.bool true), (.o2 (.add .i64) (.v 8) (.int 1)), (.o1 (.proj 0) (.o2 .idx (.v 5) (.v 8))), (.o1 (.proj 1) (.o2 .idx (.v 5) (.v 8))), (.o1 (.proj 2) (.o2 .idx (.v 5) (.v 8))), (.o1 (.proj 3) (.o2 .idx (.v 5) (.v 8))), (.o1 (.proj 4) (.o2 .idx (.v 5) (.v 8)))])
                          (.call 0 [(.o1 (.proj 0) (.v 14)), (.v 0)]
                            (.back 0 [(.o1 .slen (.o1 (.proj 0) (.v 14))), (.v 16), (.o2 (.add .i64) (.v 8) (.int 1)), (.o1 (.proj 0) (.o2 .idx (.v 5) (.v 8))), (.o1 (.proj 1) (.o2 .idx (.v 5) (.v 8))), (.o1 (.proj 2) (.o2 .idx (.v 5) (.v 8))), (.o1 (.proj 3) (.o2 .idx (.v 5) (.v 8))), (.o1 (.proj 4) (.o2 .idx (.v 5) (.v 8)))])))
                        (.br (.v 7)
                          (.back 0 [(.v 6), (.bool true), (.o2 (.add .i64) (.v 8) (.int 1)), (.v 9), (.v 10), (.v 11), (.v 12), (.v 13)])
                          (.call 0 [(.o1 (.proj 0) (.v 14)), (.v 0)]
                            (.back 0 [(.v 6), (.v 16), (.o2 (.add .i64) (.v 8) (.int 1)), (.v 9), (.v 10), (.v 11), (.v 12), (.v 13)]))))
                      (.br (.v 7)
                        (.back 0 [(.v 6), (.bool true), (.o2 (.add .i64) (.v 8) (.int 1)), (.v 9), (.v 10), (.v 11), (.v 12), (.v 13)])
                        (.call 0 [(.o1 (.proj 0) (.v 14)), (.v 0)]
                          (.back 0 [(.v 6), (.v 16), (.o2 (.add .i64) (.v 8) (.int 1)), (.v 9), (.v 10), (.v 11), (.v 12), (.v 13)]))))))))
                (.br (.o2 .lti (.int 0) (.v 6))
                  (.ret (.o1 .agg (.cons (.o1 .agg (.cons (.v 9) (.cons (.v 10) (.cons (.v 11) (.cons (.v 12) (.cons (.v 13) .nil)))))) (.cons (.v 6) (.cons (.int 0) .nil)))))
                  (.br (.v 7)
                    (.ret (.o1 .agg (.cons (.o1 .agg (.cons (.str []) (.cons (.int 0) (.cons (.bool false) (.cons (.bool false) (.cons (.bool false) .nil)))))) (.cons (.int 0) (.cons (.int 4) .nil)))))
                    (.ret (.o1 .agg (.cons (.o1 .agg (.cons (.str []) (.cons (.int 0) (.cons (.bool false) (.cons (.bool false) (.cons (.bool false) .nil)))))) (.cons (.int 0) (.cons (.int 3) .nil)))))))))))))))
set_option maxRecDepth 100000 in
theorem qky : za4 cx_keyinput_Decode 4 sg_keyinput_Decode Tryz.f13 (Tryz.f13.body.getD .skip) = tr_keyinput_Decode := by kernel_rfl
theorem qk0 {Γ : CEnv} (hg : ∀ n, Γ.glob n = globT n) (hs : ∀ s ∈ cx_keyinput_Decode.sigs, Contract Tryz.prog Γ gtabU s (Γ.pre s.no) (Γ.post s.no)) : CxOk cx_keyinput_Decode Γ := ⟨by kernel_rfl, hs, (fun x hx => by cases hx), (fun x hx => by cases hx)⟩
theorem contract_keyinput_Decode {Γ : CEnv} (hg : ∀ n, Γ.glob n = globT n) (hs : ∀ s ∈ cx_keyinput_Decode.sigs, Contract Tryz.prog Γ gtabU s (Γ.pre s.no) (Γ.post s.no)) (k : Nat) {pre : List TV → Prop} {post : List TV → TV → Prop} (h : ∀ ts, ts.length = 2 → pre ts → tr_keyinput_Decode.den Γ (post ts) ts []) : Contract Tryz.prog Γ gtabU (qjy k) pre post :=
  Contract.renum (zas (qk0 hg hs) 4 sg_keyinput_Decode Tryz.func13 (by kernel_rfl) (by kernel_rfl) fun ts hl hp => by rw [qky]; exact h ts hl hp) k
def sg_narratortop_TopBrailleRouting : Sig := ⟨3, 0, [(true, [(.int .i64), (.int .i64), (.slice false [(.slice true [.str, .bool, (.int .i64)])]), (.int .i64), (.int .i64), .bool]), (true, [(.int .i64), (.int .i64), (.int .i64), .bool]), (false, [(.int .u8)]), (false, [.bool])], [(false, [(.bool, none)])]⟩
def qi5 (k : Nat) : Sig := ⟨sg_narratortop_TopBrailleRouting.f, k, sg_narratortop_TopBrailleRouting.args, sg_narratortop_TopBrailleRouting.res⟩
def qi8 : List (FuncId × Nat × Head) := [(3, 35, ⟨[4, 5, 9, 10, 11, 12, 15, 16, 148, 149, 150], [.slot 4 true 24 false [], .slot 5 true 26 false [], .slot 9 true 30 false [], .slot 15 true 38 false [], .slot 148 true 42 true [.str, (.int .i32), .bool, .bool, .bool]], [150, 16], [], [], []⟩), (3, 18, ⟨[4, 5, 9, 10, 11, 12, 14, 15, 16, 17, 108, 109, 110], [.slot 4 true 24 false [], .slot 5 true 26 false [], .slot 9 true 30 false [], .slot 14 true 36 false [], .slot 15 true 38 false [], .slot 17 true 42 true [.str, (.int .i32), .bool, .bool, .bool]], [110, 16], [], [(4, 2), (4, 1), (4, 0)], []⟩)]
def qja : List (FuncId × Nat × Nat × Plan) := [(3, 43, 9999, .nil), (3, 44, 9, (.op true 0 (.op true 1 (.op true 2 (.op true 3 (.op true 4 (.op true 5 (.op true 6 (.alt 7 (.op false 8 .nil) (.op false 8 (.op false 7 .nil))))))))))), (3, 47, 38, (.op true 0 (.op true 1 (.op true 2 (.op true 3 (.op true 4 (.op true 5 (.op true 6 (.op true 7 (.op true 8 (.op true 9 (.op true 10 (.op true 11 (.op true 12 (.op true 13 (.op true 14 (.op true 15 (.op true 16 (.op true 17 (.op true 18 (.op true 19 (.op true 20 (.op true 21 (.op true 22 (.op true 23 (.op true 24 (.op true 26 (.op true 27 (.op true 28 (.op true 29 (.op true 30 (.op false 25 (.op false 31 (.op false 32 (.op false 33 (.op false 34 (.op false 35 (.op false 36 (.op false 37 .nil)))))))))))))))))))))))))))))))))))))))]
noncomputable def cx_narratortop_TopBrailleRouting : Cx := ⟨Tryz.prog, gtabU, [zbs 0, zby 1, qca 2, qb8 3, qcm 4, qb5 5, qdj 6, qfy 7, qii 8, qik 9, qin 10, qjy 11], [], qi8, qja, []⟩
def tr_narratortop_TopBrailleRouting : Tree := (.call 8 [(.o1 .agg (.cons (.o1 (.proj 0) (.v 0)) (.cons (.o1 (.proj 1) (.v 0)) (.cons (.o1 (.proj 2) (.v 0)) (.cons (.o1 (.proj 3) (.v 0)) (.cons (.o1 (.proj 4) (.v 0)) (.cons (.o1 (.proj 5) (.v 0)) .nil)))))))]
  (.br (.o1 .no (.v 4))
    (.call 9 []
      (.ret (.v 5)))
    (.br (.o2 .lti (.o1 (.proj 0) (.v 1)) (.int 1))
      (.call 9 []
        (.ret (.v 5)))
      (.br (.o2 .lti (.int 80) (.o1 (.proj 0) (.v 1)))
        (.call 9 []
          (.ret (.v 5)))
        (.call 5 [(.o1 .agg (.cons (.o1 (.proj 0) (.v 1)) (.cons (.int 0) (.cons (.int 0) (.cons (.bool true) .nil))))), (.o1 .agg (.cons (.o1 (.proj 0) (.v 0)) (.cons (.o1 (.proj 1) (.v 0)) (.cons (.o1 (.proj 2) (.v 0)) (.cons (.o1 (.proj 3) (.v 0)) (.cons (.o1 (.proj 4) (.v 0)) (.cons (.bool true) .nil))))))), (.o1 .agg (.cons (.int 0) (.cons (.bool false) (.cons (.bool false) (.cons (.int 0) (.cons (.v 3) (.cons (.int 0) .nil)))))))]
          (.req (.o1 .no (.o2 .eqi (.o2 .max (.int 1) (.o1 (.proj 0) (.v 5))) (.int 0))) (.call 3 [(.o1 .agg (.cons (.o1 (.proj 0) (.v 5)) (.cons (.o1 (.proj 1) (.v 5)) (.cons (.o1 (.proj 2) (.v 5)) (.cons (.o1 (.proj 3) (.v 5)) .nil))))), (.o1 .agg (.cons (.o1 (.proj 0) (.v 0)) (.cons (.o1 (.proj 1) (.v 0)) (.cons (.o1 (.proj 2) (.v 0)) (.cons (.o1 (.proj 3) (.v 0)) (.cons (.o1 (.proj 4) (.v 0)) (.cons (.bool true) .nil))))))), (.o1 .agg (.cons (.int 0) (.cons (.bool false) (.cons (.bool false) (.cons (.int 0) (.cons (.v 3) (.cons (.int 0) .nil))))))), (.o2 .rem (.o1 (.wrap .i64) (.v 2)) (.o2 .max (.int 1) (.o1 (.proj 0) (.v 5))))]
            (.br (.o1 .no (.o2 .eqi (.o1 (.proj 2) (.v 6)) (.int 0)))
              (.br (.o2 .eqi (.o1 (.proj 2) (.v 6)) (.int 2))
                (.call 9 []
                  (.ret (.v 7)))
                (.ret (.bool false)))
              (.br (.o1 .no (.o2 .eqi (.o1 (.proj 0) (.v 6)) (.o1 (.proj 3) (.v 0))))
                (.ret (.bool false))
                (.br (.o2 .lti (.o1 (.proj 1) (.v 6)) (.int 0))
                  (.ret (.bool false))
                  (.br (.o2 .lei (.o1 (.proj 0) (.v 0)) (.o1 (.proj 1) (.v 6)))
                    (.ret (.bool false))
                    (.call 4 [(.o1 .agg (.cons (.o1 (.proj 0) (.v 0)) (.cons (.o1 (.proj 1) (.v 0)) (.cons (.o1 (.proj 2) (.v 0)) (.cons (.o1 (.proj 3) (.v 0)) (.cons (.o1 (.proj 4) (.v 0)) (.cons (.bool true) .nil))))))), (.o1 (.proj 0) (.v 6)), (.o1 (.proj 1) (.v 6))]
                      (.loop [(.str []), (.int 0), (.o1 (.proj 3) (.v 0)), (.o1 (.proj 4) (.v 0)), (.bool false)]
                        (.br (.o2 .lti (.v 9) (.o1 .len (.v 7)))
                          (.req (.o2 .lei (.int 0) (.v 9)) (.req (.o2 .lti (.v 9) (.o1 .len (.v 7))) (.br (.o2 .eqs (.o1 (.proj 0) (.o2 .idx (.v 7) (.v 9))) (.str [82, 105, 103, 104, 116]))
                            (.call 6 [(.o1 .agg (.cons (.v 10) (.cons (.v 11) (.cons (.v 12) .nil)))), (.int 1), (.o1 .agg (.cons (.o1 (.proj 0) (.v 0)) (.cons (.o1 (.proj 1) (.v 0)) (.cons (.int 0) (.cons (.o1 (.proj 1) (.v 0)) (.cons (.bool false) .nil))))))]
                              (.call 10 [(.o1 .agg (.cons (.o1 (.proj 0) (.o2 .idx (.v 7) (.v 9))) (.cons (.o1 (.proj 1) (.o2 .idx (.v 7) (.v 9))) (.cons (.o1 (.proj 2) (.o2 .idx (.v 7) (.v 9))) (.cons (.o1 (.proj 3) (.o2 .idx (.v 7) (.v 9))) (.cons (.o1 (.proj 4) (.o2 .idx (.v 7) (.v 9))) .nil)))))), (.o1 .agg (.cons (.bool false) (.cons (.bool false) (.cons (.bool false) (.cons (.bool false) (.cons (.bool false) (.cons (.bool false) (.cons (.bool false) (.cons (.bool false) (.cons (.int 0) (.cons (.int 0) (.cons (.int 0) .nil))))))))))))]
                                (.br (.o1 .no (.o2 .eqi (.o1 (.proj 1) (.v 14)) (.int 0)))
                                  (.ret (.bool false))
                                  (.req (.o2 .lei (.o1 .slen (.o2 .cat (.v 8) (.o1 (.proj 0) (.v 14)))) (.int 9223372036854775807)) (.back 0 [(.o2 .cat (.v 8) (.o1 (.proj 0) (.v 14))), (.o2 (.add .i64) (.v 9) (.int 1)), (.o1 (.proj 0) (.v 13)), (.o1 (.proj 1) (.v 13)), (.o1 (.proj 2) (.v 13))])))))
                            (.br (.o2 .eqs (.o1 (.proj 0) (.o2 .idx (.v 7) (.v 9))) (.str [76, 101, 102, 116]))
                              (.call 6 [(.o1 .agg (.cons (.v 10) (.cons (.v 11) (.cons (.v 12) .nil)))), (.int (-1)), (.o1 .agg (.cons (.o1 (.proj 0) (.v 0)) (.cons (.o1 (.proj 1) (.v 0)) (.cons (.int 0) (.cons (.o1 (.proj 1) (.v 0)) (.cons (.bool false) .nil))))))]
                                (.call 10 [(.o1 .agg (.cons (.o1 (.proj 0) (.o2 .idx (.v 7) (.v 9))) (.cons (.o1 (.proj 1) (.o2 .idx (.v 7) (.v 9))) (.cons (.o1 (.proj 2) (.o2 .idx (.v 7) (.v 9))) (.cons (.o1 (.proj 3) (.o2 .idx (.v 7) (.v 9))) (.cons (.o1 (.proj 4) (.o2 .idx (.v 7) (.v 9))) .nil)))))), (.o1 .agg (.cons (.bool false) (.cons (.bool false) (.cons (.bool false) (.cons (.bool false) (.cons (.bool false) (.cons (.bool false) (.cons (.bool false) (.cons (.bool false) (.cons (.int 0) (.cons (.int 0) (.cons (.int 0) .nil))))))))))))]
                                  (.br (.o1 .no (.o2 .eqi (.o1 (.proj 1) (.v 14)) (.int 0)))
                                    (.ret (.bool false))
                                    (.req (.o2 .lei (.o1 .slen (.o2 .cat (.v 8) (.o1 (.proj 0) (.v 14)))) (.int 9223372036854775807)) (.back 0 [(.o2 .cat (.v 8) (.o1 (.proj 0) (.v 14))), (.o2 (.add .i64) (.v 9) (.int 1)), (.o1 (.proj 0) (.v 13)), (.o1 (.proj 1) (.v 13)), (.o1 (.proj 2) (.v 13))])))))
                              (.br (.o2 .eqs (.o1 (.proj 0) (.o2 .idx (.v 7) (.v 9))) (.str [85, 112]))
                                (.call 7 [(.o1 .agg (.cons (.v 10) (.cons (.v 11) (.cons (.v 12) .nil)))), (.int 1), (.o1 .agg (.cons (.o1 (.proj 0) (.v 0)) (.cons (.o1 (.proj 1) (.v 0)) (.cons (.int 0) (.cons (.o1 (.proj 1) (.v 0)) (.cons (.bool false) .nil))))))]
                                  (.call 10 [(.o1 .agg (.cons (.o1 (.proj 0) (.o2 .idx (.v 7) (.v 9))) (.cons (.o1 (.proj 1) (.o2 .idx (.v 7) (.v 9))) (.cons (.o1 (.proj 2) (.o2 .idx (.v 7) (.v 9))) (.cons (.o1 (.proj 3) (.o2 .idx (.v 7) (.v 9))) (.cons (.o1 (.proj 4) (.o2 .idx (.v 7) (.v 9))) .nil)))))), (.o1 .agg (.cons (.bool false) (.cons (.bool false) (.cons (.bool false) (.cons (.bool false) (.cons (.bool false) (.cons (.bool false) (.cons (.bool false) (.cons (.bool false) (.cons (.int 0) (.cons (.int 0) (.cons (.int 0) .nil))))))))))))]
                                    (.br (.o1 .no (.o2 .eqi (.o1 (.proj 1) (.v 14)) (.int 0)))
                                      (.ret (.bool false))
                                      (.req (.o2 .lei (.o1 .slen (.o2 .cat (.v 8) (.o1 (.proj 0) (.v 14)))) (.int 9223372036854775807)) (.back 0 [(.o2 .cat (.v 8) (.o1 (.proj 0) (.v 14))), (.o2 (.add .i64) (.v 9) (.int 1)), (.o1 (.proj 0) (.v 13)), (.o1 (.proj 1) (.v 13)), (.o1 (.proj 2) (.v 13))])))))
                                (.br (.o2 .eqs (.o1 (.proj 0) (.o2 .idx (.v 7) (.v 9))) (.str [68, 111, 119, 110]))
                                  (.call 7 [(.o1 .agg (.cons (.v 10) (.cons (.v 11) (.cons (.v 12) .nil)))), (.int (-1)), (.o1 .agg (.cons (.o1 (.proj 0) (.v 0)) (.cons (.o1 (.proj 1) (.v 0)) (.cons (.int 0) (.cons (.o1 (.proj 1) (.v 0)) (.cons (.bool false) .nil))))))]
                                    (.call 10 [(.o1 .agg (.cons (.o1 (.proj 0) (.o2 .idx (.v 7) (.v 9))) (.cons (.o1 (.proj 1) (.o2 .idx (.v 7) (.v 9))) (.cons (.o1 (.proj 2) (.o2 .idx (.v 7) (.v 9))) (.cons (.o1 (.proj 3) (.o2 .idx (.v 7) (.v 9))) (.cons (.o1 (.proj 4) (.o2 .idx (.v 7) (.v 9))) .nil)))))), (.o1 .agg (.cons (.bool false) (.cons (.bool false) (.cons (.bool false) (.cons (.bool false) (.cons (.bool false) (.cons (.bool false) (.cons (.bool false) (.cons (.bool false) (.cons (.int 0) (.cons (.int 0) (.cons (.int 0) .nil))))))))))))]
                                      (.br (.o1 .no (.o2 .eqi (.o1 (.proj 1) (.v 14)) (.int 0)))
                                        (.ret (.bool false))
                                        (.req (.o2 .lei (.o1 .slen (.o2 .cat (.v 8) (.o1 (.proj 0) (.v 14)))) (.int 9223372036854775807)) (.back 0 [(.o2 .cat (.v 8) (.o1 (.proj 0) (.v 14))), (.o2 (.add .i64) (.v 9) (.int 1)), (.o1 (.proj 0) (.v 13)), (.o1 (.proj 1) (.v 13)), (.o1 (.proj 2) (.v 13))])))))
                                  (.call 10 [(.o1 .agg (.cons (.o1 (.proj 0) (.o2 .idx (.v 7) (.v 9))) (.cons (.o1 (.proj 1) (.o2 .idx (.v 7) (.v 9))) (.cons (.o1 (.proj 2) (.o2 .idx (.v 7) (.v 9))) (.cons (.o1 (.proj 3) (.o2 .idx (.v 7) (.v 9))) (.cons (.o1 (.proj 4) (.o2 .idx (.v 7) (.v 9))) .nil)))))), (.o1 .agg (.cons (.bool false) (.cons (.bool false) (.cons (.bool false) (.cons (.bool false) (.cons (.bool false) (.cons (.bool false) (.cons (.bool false) (.cons (.bool false) (.cons (.int 0) (.cons (.int 0) (.cons (.int 0) .nil))))))))))))]
                                    (.br (.o1 .no (.o2 .eqi (.o1 (.proj 1) (.v 13)) (.int 0)))
                                      (.ret (.bool false))
                                      (.req (.o2 .lei (.o1 .slen (.o2 .cat (.v 8) (.o1 (.proj 0) (.v 13)))) (.int 9223372036854775807)) (.back 0 [(.o2 .cat (.v 8) (.o1 (.proj 0) (.v 13))), (.o2 (.add .i64) (.v 9) (.int 1)), (.v 10), (.v 11), (.v 12)]))))))))))
                          (.loop [(.v 8), (.int 0)]
                            (.br (.o2 .lti (.v 14) (.o1 .len (.v 7)))
                              (.req (.o2 .lei (.int 0) (.v 14)) (.req (.o2 .lti (.v 14) (.o1 .len (.v 7))) (.call 11 [(.v 13), (.o1 .agg (.cons (.bool false) (.cons (.bool false) (.cons (.bool false) (.cons (.bool false) (.cons (.bool false) (.cons (.bool false) (.cons (.bool false) (.cons (.bool false) (.cons (.int 0) (.cons (.int 0) (.cons (.int 0) .nil))))))))))))]
                                (.br (.o1 .no (.o2 .eqi (.o1 (.proj 2) (.v 15)) (.int 0)))
                                  (.ret (.bool false))
                                  (.br (.o1 .no (.o3 .ite (.o2 .eqs (.o1 (.proj 0) (.o1 (.proj 0) (.v 15))) (.o1 (.proj 0) (.o2 .idx (.v 7) (.v 14)))) (.o3 .ite (.o2 .eqi (.o1 (.proj 1) (.o1 (.proj 0) (.v 15))) (.o1 (.proj 1) (.o2 .idx (.v 7) (.v 14)))) (.o3 .ite (.o2 .eqb (.o1 (.proj 2) (.o1 (.proj 0) (.v 15))) (.o1 (.proj 2) (.o2 .idx (.v 7) (.v 14)))) (.o3 .ite (.o2 .eqb (.o1 (.proj 3) (.o1 (.proj 0) (.v 15))) (.o1 (.proj 3) (.o2 .idx (.v 7) (.v 14)))) (.o3 .ite (.o2 .eqb (.o1 (.proj 4) (.o1 (.proj 0) (.v 15))) (.o1 (.proj 4) (.o2 .idx (.v 7) (.v 14)))) (.bool true) (.bool false)) (.bool false)) (.bool false)) (.bool false)) (.bool false)))
                                    (.ret (.bool false))
                                    (.br (.o2 .lti (.o1 (.proj 1) (.v 15)) (.int 1))
                                      (.ret (.bool false))
                                      (.br (.o2 .lti (.o1 .slen (.v 13)) (.o1 (.proj 1) (.v 15)))
                                        (.ret (.bool false))
                                        (.req (.o2 .lei (.int 0) (.o1 (.proj 1) (.v 15))) (.req (.o2 .lei (.o1 (.proj 1) (.v 15)) (.o1 .slen (.v 13))) (.back 1 [(.o3 .ssub (.v 13) (.o1 (.proj 1) (.v 15)) (.o1 .slen (.v 13))), (.o2 (.add .i64) (.v 14) (.int 1))]))))))))))
                              (.req (.o2 .lei (.int 0) (.o1 (.proj 3) (.v 0))) (.req (.o2 .lti (.o1 (.proj 3) (.v 0)) (.o1 .len (.o1 (.proj 2) (.v 0)))) (.both
                                (.call 0 [(.o2 .idx (.o1 (.proj 2) (.v 0)) (.o1 (.proj 3) (.v 0))), (.o1 .agg (.cons (.int 0) (.cons (.bool false) (.cons (.bool false) (.cons (.int 0) (.cons (.v 3) (.cons (.int 0) .nil)))))))]
                                  (.call 5 [(.o1 .agg (.cons (.o1 (.proj 0) (.v 5)) (.cons (.o1 (.proj 1) (.v 5)) (.cons (.o1 (.proj 2) (.v 5)) (.cons (.o1 (.proj 3) (.v 5)) .nil))))), (.o1 .agg (.cons (.o1 (.proj 0) (.v 0)) (.cons (.o1 (.proj 1) (.v 0)) (.cons (.o1 (.proj 2) (.v 0)) (.cons (.v 10) (.cons (.v 11) (.cons (.bool true) .nil))))))), (.o1 .agg (.cons (.int 0) (.cons (.bool false) (.cons (.bool false) (.cons (.int 0) (.cons (.v 3) (.cons (.int 0) .nil)))))))]
                                    (.call 2 [(.o1 .agg (.cons (.o1 (.proj 0) (.v 16)) (.cons (.o1 (.proj 1) (.v 16)) (.cons (.o1 (.proj 2) (.v 16)) (.cons (.o1 (.proj 3) (.v 16)) .nil))))), (.o1 .agg (.cons (.o1 (.proj 0) (.v 0)) (.cons (.o1 (.proj 1) (.v 0)) (.cons (.o1 (.proj 2) (.v 0)) (.cons (.v 10) (.cons (.v 11) (.cons (.bool true) .nil))))))), (.o1 .agg (.cons (.int 0) (.cons (.bool false) (.cons (.bool false) (.cons (.int 0) (.cons (.v 3) (.cons (.int 0) .nil)))))))]
                                      (.br (.o2 .eqs (.v 13) (.str []))
                                        (.br (.o3 .ite (.o2 .eqi (.v 10) (.o1 (.proj 0) (.v 6))) (.o3 .ite (.o2 .eqi (.v 11) (.o1 (.proj 1) (.v 6))) (.o3 .ite (.o2 .eqb (.v 12) (.bool false)) (.bool true) (.bool false)) (.bool false)) (.bool false))
                                          (.br (.o2 .lei (.int 0) (.o1 (.proj 1) (.v 17)))
                                            (.br (.o2 .eqi (.o1 (.proj 1) (.v 16)) (.o1 (.proj 0) (.v 6)))
                                              (.call 1 [(.o1 .agg (.cons (.o1 (.proj 0) (.v 15)) (.cons (.o1 (.proj 1) (.v 15)) .nil))), (.o2 (.add .i64) (.o1 (.proj 2) (.v 16)) (.o1 (.proj 1) (.v 17)))]
                                                (.call 1 [(.o1 .agg (.cons (.o1 (.proj 0) (.v 15)) (.cons (.o1 (.proj 1) (.v 15)) .nil))), (.o2 (.add .i64) (.o1 (.proj 2) (.v 5)) (.o2 .rem (.o1 (.wrap .i64) (.v 2)) (.o2 .max (.int 1) (.o1 (.proj 0) (.v 5)))))]
                                                  (.br (.o2 .eqi (.v 18) (.v 19))
                                                    (.call 9 []
                                                      (.ret (.v 20)))
                                                    (.ret (.bool false)))))
                                              (.ret (.bool false)))
                                            (.ret (.bool false)))
                                          (.ret (.bool false)))
                                        (.ret (.bool false))))))
                                (.call 0 [(.o2 .idx (.o1 (.proj 2) (.v 0)) (.o1 (.proj 3) (.v 0))), (.o1 .agg (.cons (.int 0) (.cons (.bool false) (.cons (.bool false) (.cons (.int 0) (.cons (.v 3) (.cons (.int 0) .nil)))))))]
                                  (.call 5 [(.o1 .agg (.cons (.o1 (.proj 0) (.v 5)) (.cons (.o1 (.proj 1) (.v 5)) (.cons (.o1 (.proj 2) (.v 5)) (.cons (.o1 (.proj 3) (.v 5)) .nil))))), (.o1 .agg (.cons (.o1 (.proj 0) (.v 0)) (.cons (.o1 (.proj 1) (.v 0)) (.cons (.o1 (.proj 2) (.v 0)) (.cons (.v 10) (.cons (.v 11) (.cons (.bool true) .nil))))))), (.o1 .agg (.cons (.int 0) (.cons (.bool false) (.cons (.bool false) (.cons (.int 0) (.cons (.v 3) (.cons (.int 0) .nil)))))))]
                                    (.call 2 [(.o1 .agg (.cons (.o1 (.proj 0) (.v 16)) (.cons (.o1 (.proj 1) (.v 16)) (.cons (.o1 (.proj 2) (.v 16)) (.cons (.o1 (.proj 3) (.v 16)) .nil))))), (.o1 .agg (.cons (.o1 (.proj 0) (.v 0)) (.cons (.o1 (.proj 1) (.v 0)) (.cons (.o1 (.proj 2) (.v 0)) (.cons (.v 10) (.cons (.v 11) (.cons (.bool true) .nil))))))), (.o1 .agg (.cons (.int 0) (.cons (.bool false) (.cons (.bool false) (.cons (.int 0) (.cons (.v 3) (.cons (.int 0) .nil)))))))]
                                      (.br (.o2 .eqs (.v 13) (.str []))
                                        (.br (.o3 .ite (.o2 .eqi (.v 10) (.o1 (.proj 0) (.v 6))) (.o3 .ite (.o2 .eqi (.v 11) (.o1 (.proj 1) (.v 6))) (.o3 .ite (.o2 .eqb (.v 12) (.bool false)) (.bool true) (.bool false)) (.bool false)) (.bool false))
                                          (.br (.o2 .lei (.int 0) (.o1 (.proj 1) (.v 17)))
                                            (.br (.o2 .eqi (.o1 (.proj 1) (.v 16)) (.o1 (.proj 0) (.v 6)))
                                              (.call 1 [(.o1 .agg (.cons (.o1 (.proj 0) (.v 15)) (.cons (.o1 (.proj 1) (.v 15)) .nil))), (.o2 (.add .i64) (.o1 (.proj 2) (.v 16)) (.o1 (.proj 1) (.v 17)))]
                                                (.call 1 [(.o1 .agg (.cons (.o1 (.proj 0) (.v 15)) (.cons (.o1 (.proj 1) (.v 15)) .nil))), (.o2 (.add .i64) (.o1 (.proj 2) (.v 5)) (.o2 .rem (.o1 (.wrap .i64) (.v 2)) (.o2 .max (.int 1) (.o1 (.proj 0) (.v 5)))))]
                                                  (.br (.o2 .eqi (.v 18) (.v 19))
                                                    (.call 9 []
                                                      (.ret (.v 20)))
                                                    (.ret (.bool false)))))
                                              (.ret (.bool false)))
                                            (.ret (.bool false)))
                                          (.ret (.bool false)))
                                        (.ret (.bool false)))))))))))))))))))))))))
set_option maxRecDepth 100000 in
theorem qi0 : za4 cx_narratortop_TopBrailleRouting 4 sg_narratortop_TopBrailleRouting Tryz.f3 (Tryz.f3.body.getD .skip) = tr_narratortop_TopBrailleRouting := by kernel_rfl
theorem qiz {Γ : CEnv} (hg : ∀ n, Γ.glob n = globT n) (hs : ∀ s ∈ cx_narratortop_TopBrailleRouting.sigs, Contract Tryz.prog Γ gtabU s (Γ.pre s.no) (Γ.post s.no)) : CxOk cx_narratortop_TopBrailleRouting Γ := ⟨by kernel_rfl, hs, (fun x hx => by cases hx), (fun x hx => by cases hx)⟩
theorem qkv {Γ : CEnv} (hg : ∀ n, Γ.glob n = globT n) (hs : ∀ s ∈ cx_narratortop_TopBrailleRouting.sigs, Contract Tryz.prog Γ gtabU s (Γ.pre s.no) (Γ.post s.no)) (k : Nat) {pre : List TV → Prop} {post : List TV → TV → Prop} (h : ∀ ts, ts.length = 4 → pre ts → tr_narratortop_TopBrailleRouting.den Γ (post ts) ts []) : Contract Tryz.prog Γ gtabU (qi5 k) pre post :=
  Contract.renum (zas (qiz hg hs) 4 sg_narratortop_TopBrailleRouting Tryz.func3 (by kernel_rfl) (by kernel_rfl) fun ts hl hp => by rw [qi0]; exact h ts hl hp) k
end Go.Proofs.YtlhagkbhojmjpaaGreatDoor


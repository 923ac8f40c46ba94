/- The plain law of clusters. -/
import Derived.Test.YtnbbepgmnbmfdaaDoorWid
import Derived.Test.YtnbbepgmnbmfdaaDoorEnc
namespace Go.Proofs.YtnbbepgmnbmfdaaDoor
set_option linter.unusedSimpArgs false
set_option linter.unusedVariables false
set_option linter.unusedSectionVars false

/-! ### Widths -/
theorem mark_ge {r : Int} (h : markZ r = true) : 768 ≤ r ∧ r ≤ 65071 := by
  unfold markZ inTab marksL' at h
  simp at h
  omega
theorem mark_ch {r : Int} (h : markZ r = true) : isCh r := by
  unfold markZ inTab marksL' at h
  simp at h
  unfold isCh
  omega
theorem width_mark {r : Int} (h : markZ r = true) : widthZ r = 0 := by
  have := mark_ge h
  unfold widthZ
  rw [if_neg (by omega), h]
  rfl
theorem width_cases (r : Int) : (widthZ r = -1 ∧ markZ r = false) ∨ (widthZ r = 0 ∧ markZ r = true) ∨ (1 ≤ widthZ r ∧ widthZ r ≤ 2 ∧ markZ r = false) := by
  cases hm : markZ r with
  | true => right; left; exact ⟨width_mark hm, rfl⟩
  | false =>
    unfold widthZ
    rw [hm]
    split
    · left; exact ⟨rfl, rfl⟩
    · right; right
      simp only [Bool.false_eq_true, if_false]
      split <;> exact ⟨by omega, by omega, trivial⟩
theorem width_zero {r : Int} : widthZ r = 0 ↔ markZ r = true := by
  rcases width_cases r with ⟨h, k⟩ | ⟨h, k⟩ | ⟨h, h', k⟩
  · rw [k]; simp [h]
  · rw [k]; simp [h]
  · rw [k]; simp; omega
theorem width_chZ {r : Int} (h : 0 < widthZ r) : widthZ (chZ r) = widthZ r := by
  unfold chZ
  by_cases hc : isCh r
  · rw [if_pos hc]
  · rw [if_neg hc]
    have e : widthZ 65533 = 1 := by decide
    rw [e]
    unfold isCh at hc
    unfold widthZ at h ⊢
    by_cases h1 : r < 32 ∨ (127 ≤ r ∧ r ≤ 159)
    · rw [if_pos h1] at h; omega
    · rw [if_neg h1]
      have hm : markZ r = false := by
        cases hm : markZ r with
        | false => rfl
        | true => have := mark_ch hm; unfold isCh at this; omega
      have hw : inTab wideL' r = false := by
        unfold inTab wideL'
        simp
        omega
      rw [hm, hw]
      rfl
theorem mark_chZ {r : Int} (h : markZ r = true) : chZ r = r := chZ_of (mark_ch h)

/-! ### Clusters -/
/-- A base and up to three marks. -/
def Cl (c : List Int) : Prop := ∃ b ms, c = b :: ms ∧ 0 < widthZ b ∧ (∀ m ∈ ms, markZ m = true) ∧ ms.length ≤ 3
theorem Cl.len {c : List Int} (h : Cl c) : 1 ≤ c.length ∧ c.length ≤ 4 := by
  obtain ⟨b, ms, rfl, _, _, h⟩ := h
  simp; omega
def stepS (out : List (List Int)) (r : Int) : List (List Int) :=
  if markZ r = true then (match out.getLast? with
    | none => [[32, r]]
    | some c => if c.length ≤ 3 then out.dropLast ++ [c ++ [r]] else out)
  else if 0 < widthZ r then out ++ [[r]] else out
def splitF (out : List (List Int)) (l : List Int) : List (List Int) := l.foldl stepS out
def splitZ (l : List Int) : List (List Int) := splitF [] l
theorem step_nil {r : Int} (h : markZ r = true) : stepS [] r = [[32, r]] := by unfold stepS; rw [if_pos h]; rfl
theorem step_mark {o : List (List Int)} {c : List Int} {r : Int} (h : markZ r = true) (hc : c.length ≤ 3) : stepS (o ++ [c]) r = o ++ [c ++ [r]] := by
  unfold stepS
  rw [if_pos h, List.getLast?_concat]
  dsimp only
  rw [if_pos hc, List.dropLast_concat]
theorem step_full {o : List (List Int)} {c : List Int} {r : Int} (h : markZ r = true) (hc : ¬ c.length ≤ 3) : stepS (o ++ [c]) r = o ++ [c] := by
  unfold stepS
  rw [if_pos h, List.getLast?_concat]
  dsimp only
  rw [if_neg hc]
theorem step_base {o : List (List Int)} {r : Int} (h : 0 < widthZ r) : stepS o r = o ++ [[r]] := by
  unfold stepS
  have : ¬ markZ r = true := fun hm => by have := width_mark hm; omega
  rw [if_neg this, if_pos h]
theorem step_ctrl {o : List (List Int)} {r : Int} (h : widthZ r < 0) : stepS o r = o := by
  unfold stepS
  have : ¬ markZ r = true := fun hm => by have := width_mark hm; omega
  rw [if_neg this, if_neg (by omega)]
theorem last_cases (o : List (List Int)) : o = [] ∨ ∃ p c, o = p ++ [c] := by
  rcases List.eq_nil_or_concat o with h | ⟨p, c, h⟩
  · exact .inl h
  · exact .inr ⟨p, c, by rw [h, List.concat_eq_append]⟩
theorem width32 : widthZ 32 = 1 := by decide
theorem step_inv {o : List (List Int)} {r : Int} (h : ∀ c ∈ o, Cl c) : ∀ c ∈ stepS o r, Cl c := by
  rcases width_cases r with ⟨hw, hm⟩ | ⟨hw, hm⟩ | ⟨hw, _, hm⟩
  · rw [step_ctrl (by omega)]; exact h
  · rcases last_cases o with rfl | ⟨p, c, rfl⟩
    · rw [step_nil hm]
      intro c hc
      simp only [List.mem_singleton] at hc
      subst hc
      exact ⟨32, [r], rfl, by rw [width32]; omega, fun m hm' => by simp at hm'; subst hm'; exact hm, by simp⟩
    · by_cases hl : c.length ≤ 3
      · rw [step_mark hm hl]
        intro d hd
        rcases List.mem_append.1 hd with hd | hd
        · exact h d (List.mem_append.2 (.inl hd))
        · simp only [List.mem_singleton] at hd
          subst hd
          obtain ⟨b, ms, rfl, h1, h2, h3⟩ := h c (by simp)
          refine ⟨b, ms ++ [r], rfl, h1, fun m hm' => ?_, by simp at hl ⊢; omega⟩
          rcases List.mem_append.1 hm' with hm' | hm'
          · exact h2 m hm'
          · simp at hm'; subst hm'; exact hm
      · rw [step_full hm hl]; exact h
  · rw [step_base (by omega)]
    intro d hd
    rcases List.mem_append.1 hd with hd | hd
    · exact h d hd
    · simp only [List.mem_singleton] at hd
      subst hd
      exact ⟨r, [], rfl, by omega, fun m hm' => (by cases hm'), by simp⟩
theorem splitF_inv : ∀ (l : List Int) {o : List (List Int)}, (∀ c ∈ o, Cl c) → ∀ c ∈ splitF o l, Cl c
  | [], o, h => h
  | r :: l, o, h => splitF_inv l (o := stepS o r) (step_inv h)
theorem split_inv (l : List Int) : ∀ c ∈ splitZ l, Cl c := splitF_inv l (fun c hc => by cases hc)
theorem splitF_append (o : List (List Int)) (l m : List Int) : splitF o (l ++ m) = splitF (splitF o l) m := by simp [splitF, List.foldl_append]
theorem splitZ_snoc (l : List Int) (r : Int) : splitZ (l ++ [r]) = stepS (splitZ l) r := by unfold splitZ; rw [splitF_append]; rfl
theorem stepS_len (o : List (List Int)) (r : Int) : (stepS o r).length ≤ o.length + 1 := by
  rcases width_cases r with ⟨hw, hm⟩ | ⟨hw, hm⟩ | ⟨hw, _, hm⟩
  · rw [step_ctrl (by omega)]; omega
  · rcases last_cases o with rfl | ⟨p, c, rfl⟩
    · rw [step_nil hm]; simp
    · by_cases hl : c.length ≤ 3
      · rw [step_mark hm hl]; simp
      · rw [step_full hm hl]; simp
  · rw [step_base (by omega)]; simp
theorem splitF_len : ∀ (l : List Int) (o : List (List Int)), (splitF o l).length ≤ o.length + l.length
  | [], o => by simp [splitF]
  | r :: l, o => by
    have h1 := splitF_len l (stepS o r)
    have h2 := stepS_len o r
    have e : splitF o (r :: l) = splitF (stepS o r) l := rfl
    rw [e, List.length_cons]
    omega
theorem split_len (l : List Int) : (splitZ l).length ≤ l.length := by have := splitF_len l []; simpa [splitZ] using this

/-! ### Independence -/
theorem step_app {p o : List (List Int)} {r : Int} (h : o ≠ []) : stepS (p ++ o) r = p ++ stepS o r ∧ stepS o r ≠ [] := by
  rcases last_cases o with rfl | ⟨q, c, rfl⟩
  · exact absurd rfl h
  · rcases width_cases r with ⟨hw, hm⟩ | ⟨hw, hm⟩ | ⟨hw, _, hm⟩
    · rw [step_ctrl (by omega), step_ctrl (by omega)]; exact ⟨rfl, h⟩
    · rw [← List.append_assoc]
      by_cases hl : c.length ≤ 3
      · rw [step_mark hm hl, step_mark hm hl]; exact ⟨by simp, by simp⟩
      · rw [step_full hm hl, step_full hm hl]; exact ⟨by simp, by simp⟩
    · rw [step_base (by omega), step_base (by omega)]; exact ⟨by simp, by simp⟩
theorem splitF_app : ∀ (l : List Int) {p o : List (List Int)}, o ≠ [] → splitF (p ++ o) l = p ++ splitF o l
  | [], p, o, h => rfl
  | r :: l, p, o, h => by
    obtain ⟨h1, h2⟩ := step_app (p := p) (r := r) h
    have e1 : splitF (p ++ o) (r :: l) = splitF (stepS (p ++ o) r) l := rfl
    have e2 : splitF o (r :: l) = splitF (stepS o r) l := rfl
    rw [e1, e2, h1]
    exact splitF_app l h2
theorem splitF_ctrl : ∀ (l : List Int) (o : List (List Int)), (∀ r ∈ l, widthZ r < 0) → splitF o l = o
  | [], o, _ => rfl
  | r :: l, o, h => by
    have e : splitF o (r :: l) = splitF (stepS o r) l := rfl
    rw [e, step_ctrl (h r (by simp))]
    exact splitF_ctrl l o fun x hx => h x (by simp [hx])
/-- The condition of the law: some leading control characters, then a base, or nothing. -/
theorem split_indep (a : List Int) {b c : List Int} {r : Int} (hb : ∀ x ∈ b, widthZ x < 0) (hr : 0 < widthZ r) : splitZ (a ++ (b ++ r :: c)) = splitZ a ++ splitZ (b ++ r :: c) := by
  have e : ∀ o, splitF o (b ++ r :: c) = o ++ splitF [[r]] c := fun o => by
    rw [splitF_append, splitF_ctrl b o hb]
    have e : splitF o (r :: c) = splitF (stepS o r) c := rfl
    rw [e, step_base hr]
    exact splitF_app c (by simp)
  unfold splitZ
  rw [splitF_append, e, e []]
  rfl
theorem split_indep' (a : List Int) {b : List Int} (hb : ∀ x ∈ b, widthZ x < 0) : splitZ (a ++ b) = splitZ a ++ splitZ b := by
  unfold splitZ
  rw [splitF_append, splitF_ctrl b _ hb, splitF_ctrl b _ hb, List.append_nil]

/-! ### A cluster's characters split into it alone -/
theorem splitF_marks : ∀ (ms : List Int) (p : List (List Int)) (c : List Int), (∀ m ∈ ms, markZ m = true) → c.length + ms.length ≤ 4 → splitF (p ++ [c]) ms = p ++ [c ++ ms]
  | [], p, c, _, _ => by simp [splitF]
  | m :: ms, p, c, h, hl => by
    simp only [List.length_cons] at hl
    have e : splitF (p ++ [c]) (m :: ms) = splitF (stepS (p ++ [c]) m) ms := rfl
    rw [e, step_mark (h m (by simp)) (by omega), splitF_marks ms p (c ++ [m]) (fun x hx => h x (by simp [hx])) (by simp; omega)]
    simp
theorem splitF_cl {c : List Int} (h : Cl c) (p : List (List Int)) : splitF p c = p ++ [c] := by
  obtain ⟨b, ms, rfl, h1, h2, h3⟩ := h
  have e : splitF p (b :: ms) = splitF (stepS p b) ms := rfl
  rw [e, step_base h1, splitF_marks ms p [b] h2 (by simp; omega)]
  rfl
theorem splitF_cls : ∀ (cs p : List (List Int)), (∀ c ∈ cs, Cl c) → splitF p cs.flatten = p ++ cs
  | [], p, _ => by simp [splitF]
  | c :: cs, p, h => by
    rw [List.flatten_cons, splitF_append, splitF_cl (h c (by simp)), splitF_cls cs _ fun x hx => h x (by simp [hx])]
    simp
theorem split_cls {cs : List (List Int)} (h : ∀ c ∈ cs, Cl c) : splitZ cs.flatten = cs := splitF_cls cs [] h
theorem cl_chZ {c : List Int} (h : Cl c) : Cl (c.map chZ) := by
  obtain ⟨b, ms, rfl, h1, h2, h3⟩ := h
  refine ⟨chZ b, ms.map chZ, rfl, by rw [width_chZ h1]; exact h1, fun m hm => ?_, by simpa using h3⟩
  obtain ⟨x, hx, rfl⟩ := List.mem_map.1 hm
  rw [mark_chZ (h2 x hx)]
  exact h2 x hx

/-! ### Strings -/
def strs (l : List (List UInt8)) : TV := .list (l.map .str)
theorem strs_inj {a b : List (List UInt8)} (h : strs a = strs b) : a = b := by
  unfold strs at h
  simp only [TV.list.injEq] at h
  have := congrArg (List.map TV.asStr) h
  simpa [List.map_map, Function.comp_def, TV.asStr] using this
theorem strs_eq {a b : List (List UInt8)} : strs a = strs b ↔ a = b := ⟨strs_inj, fun h => by rw [h]⟩
theorem strs_asList (l : List (List UInt8)) : (strs l).asList = l.map .str := rfl
theorem strs_len (l : List (List UInt8)) : (strs l).asList.length = l.length := by rw [strs_asList, List.length_map]
theorem strs_snoc (l : List (List UInt8)) (s : List UInt8) : TV.list (l.map TV.str ++ [.str s]) = strs (l ++ [s]) := by simp [strs]
theorem strs_get (l : List (List UInt8)) (s : List UInt8) : ((l ++ [s]).map TV.str).getD l.length (.int 0) = .str s := by
  rw [List.map_append, List.getD_eq_getElem?_getD, List.getElem?_append_right (by simp)]
  simp
theorem strs_set (l : List (List UInt8)) (s t : List UInt8) : ((l ++ [s]).map TV.str).set l.length (.str t) = (l ++ [t]).map TV.str := by
  rw [List.map_append, List.set_append_right _ _ (by simp)]
  simp
theorem strs_getD (l : List (List UInt8)) {i : Nat} (h : i < l.length) : (l.map TV.str).getD i (.int 0) = .str (l.getD i []) := by
  rw [List.getD_eq_getElem?_getD, List.getElem?_map, List.getD_eq_getElem?_getD, List.getElem?_eq_getElem h]
  rfl
def encS (c : List Int) : List UInt8 := unbs (encZ c)
theorem encS_append (a b : List Int) : encS (a ++ b) = encS a ++ encS b := by unfold encS; rw [encZ_append]; simp [unbs]
theorem encS_chZ (c : List Int) : encS (c.map chZ) = encS c := by unfold encS; rw [encZ_chZ]
theorem bs_encS (c : List Int) : bs (encS c) = encZ c := bs_unbs fun b hb => encZ_byte hb
theorem encS_len (c : List Int) : c.length ≤ (encS c).length ∧ (encS c).length ≤ 4 * c.length := by unfold encS; rw [unbs_len]; exact encZ_len c
theorem dec_encS (c : List Int) : dec (bs (encS c)) = (c.map chZ, []) := by rw [bs_encS, dec_encZ_any]
theorem valid_encS (c : List Int) : validB (encS c) := ⟨c.map chZ, chZs_ch c, by rw [bs_encS, encZ_chZ]⟩
theorem encS_flatten (cs : List (List Int)) : (cs.map encS).flatten = encS cs.flatten := by
  induction cs with
  | nil => rfl
  | cons c cs ih => rw [List.map_cons, List.flatten_cons, List.flatten_cons, encS_append, ih]
/-- The characters of a string. -/
def runesS (s : List UInt8) : List Int := (dec (bs s)).1
theorem runes_encS (c : List Int) : runesS (encS c) = c.map chZ := by unfold runesS; rw [dec_encS]
theorem encS_runes {s : List UInt8} (h : validB s) : encS (runesS s) = s := by
  unfold encS runesS
  rw [(validB_dec h).2.2.1]
  exact unbs_bs s
theorem runes_len (s : List UInt8) : (runesS s).length ≤ s.length := by unfold runesS; have := dec_len (bs s); rw [bs_length] at this; omega
theorem runes_ch (s : List UInt8) : Chars (runesS s) := dec_chars s
theorem runes_nil {s : List UInt8} (h : validB s) : runesS s = [] ↔ s = [] := ⟨fun e => by have := encS_runes h; rw [e] at this; exact this.symm, fun e => by subst e; rfl⟩

/-! ### Check -/
def headZ (l : List Int) : Int := l.getD 0 0
def checkR (l : List Int) : Int := if widthZ (headZ l) < 1 ∨ ¬ ((l.drop 1).all markZ = true) then 9 else if 4 < l.length then 5 else 0
def checkZ (s : List UInt8) : Int := if s = [] ∨ ¬ Lib.validD s = true then 3 else checkR (runesS s)
theorem check_iff {s : List UInt8} : checkZ s = 0 ↔ validB s ∧ Cl (runesS s) := by
  unfold checkZ
  by_cases h : s = [] ∨ ¬ Lib.validD s = true
  · rw [if_pos h]
    refine ⟨fun h => by omega, fun ⟨h1, h2⟩ => ?_⟩
    rcases h with h | h
    · subst h
      have := h2.len
      have e : runesS [] = [] := rfl
      rw [e] at this
      simp at this
    · exact absurd ((validD_iff s).2 h1) h
  · rw [if_neg h]
    have h1 : s ≠ [] := fun e => h (.inl e)
    have h2 : validB s := (validD_iff s).1 (Classical.byContradiction fun e => h (.inr e))
    have hne : runesS s ≠ [] := fun e => h1 ((runes_nil h2).1 e)
    cases hr : runesS s with
    | nil => exact absurd hr hne
    | cons b ms =>
      unfold checkR headZ
      simp only [List.getD_cons_zero, List.drop_succ_cons, List.drop_zero, List.length_cons, List.all_eq_true]
      by_cases hc : widthZ b < 1 ∨ ¬ (∀ x ∈ ms, markZ x = true)
      · rw [if_pos hc]
        refine ⟨fun h => by omega, fun ⟨_, b', ms', e, k1, k2, _⟩ => ?_⟩
        simp only [List.cons.injEq] at e
        obtain ⟨rfl, rfl⟩ := e
        rcases hc with hc | hc
        · omega
        · exact absurd k2 hc
      · rw [if_neg hc]
        have k1 : 0 < widthZ b := by
          rcases Int.lt_or_le 0 (widthZ b) with h | h
          · exact h
          · exact absurd (.inl (by omega)) hc
        have k2 : ∀ x ∈ ms, markZ x = true := Classical.byContradiction fun e => hc (.inr e)
        split
        · refine ⟨fun h => by omega, fun ⟨_, b', ms', e, _, _, k3⟩ => ?_⟩
          simp only [List.cons.injEq] at e
          obtain ⟨rfl, rfl⟩ := e
          omega
        · exact ⟨fun _ => ⟨h2, b, ms, rfl, k1, k2, by omega⟩, fun _ => rfl⟩
theorem check_cases (s : List UInt8) : checkZ s = 0 ∨ checkZ s = 3 ∨ checkZ s = 9 ∨ checkZ s = 5 := by
  unfold checkZ checkR
  split
  · right; left; rfl
  · split
    · right; right; left; rfl
    · split
      · right; right; right; rfl
      · left; rfl
theorem check_encS {c : List Int} (h : Cl c) : checkZ (encS c) = 0 := check_iff.2 ⟨valid_encS c, by rw [runes_encS]; exact cl_chZ h⟩
def widthS (s : List UInt8) : Int := if checkZ s = 0 then widthZ (headZ (runesS s)) else 0
def baseS (s : List UInt8) : Int := if checkZ s = 0 then headZ (runesS s) else 0
def marksS (s : List UInt8) : List Int := if checkZ s = 0 then (runesS s).drop 1 else []
def attachT (s : List UInt8) (m : Int) : TV := if checkZ s = 0 then (if markZ m = true then (if 3 ≤ (marksS s).length then .agg [.str [], .int 5] else .agg [.str (s ++ encS [m]), .int 0]) else .agg [.str [], .int 9]) else .agg [.str [], .int (checkZ s)]
theorem width_encS {c : List Int} (h : Cl c) : widthS (encS c) = widthZ (headZ c) := by
  unfold widthS
  rw [if_pos (check_encS h), runes_encS]
  obtain ⟨b, ms, rfl, h1, _⟩ := h
  exact width_chZ h1
end Go.Proofs.YtnbbepgmnbmfdaaDoor

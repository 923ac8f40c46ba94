/- The contracts of strings.IndexByte, and of unicode/utf8.ValidString where its tables are laid. -/
import Derived.Shelf.Small.Strs
import Derived.Shelf.Unicode.ValidAny
import Derived.Test.YtccpepheooleoaaDoorLay
import Derived.Test.YtccpepheooleoaaDoorEnt
import Derived.Test.YtccpepheooleoaaDoorV1
namespace Go.Proofs.YtccpepheooleoaaDoor
set_option linter.unusedSimpArgs false
set_option linter.unusedVariables false
set_option linter.unusedSectionVars false
open Go.RowKit

def sibL : Law := ⟨fun ts => ∃ (s : List UInt8) (c : Int), ts = [.str s, .int c] ∧ (s.length ≤ 1000000), fun ts r => ∀ (s : List UInt8) (c : Int), ts = [.str s, .int c] → r = .int (Lib.indexByte s c.toNat.toUInt8)⟩
theorem sib_pre {s : List UInt8} {c : Int} (h : s.length ≤ 1000000) : sibL.pre [.str s, .int c] := ⟨s, c, rfl, h⟩
theorem sib_fin {s : List UInt8} {c : Int} {r : TV} (h : r = .int (Lib.indexByte s c.toNat.toUInt8)) : sibL.post [.str s, .int c] r := fun s₁ c₁ e => by
  simp only [List.cons.injEq, TV.str.injEq, TV.int.injEq, TV.bool.injEq, TV.agg.injEq, TV.list.injEq, ints_eq, and_true, true_and, and_assoc] at e; obtain ⟨rfl, rfl⟩ := e
  exact h
theorem sib_all {s : List UInt8} {c : Int} {Q : TV → Prop} : (∀ r, sibL.post [.str s, .int c] r → Q r) ↔ Q (.int (Lib.indexByte s c.toNat.toUInt8)) := ⟨fun h => h _ (sib_fin rfl), fun h r hr => by rw [hr _ _ rfl]; exact h⟩
theorem sib_c (k : Nat) : Contract Tryd.prog (mkEnv globT []) gtab (sn_strings_IndexByte k) sibL.pre sibL.post :=
  Contract.leaf ⟨_, Tryd.f38.body.getD .skip, Tryd.func38, by kernel_rfl, by kernel_rfl⟩ fun w ts vs hg ha hp => by
    obtain ⟨s, c, rfl, hp⟩ := hp
    obtain ⟨v0, vs0, e0, h0, ha⟩ := argsRep_cons_inv ha
    obtain ⟨v1, vs1, e1, h1, ha⟩ := argsRep_cons_inv ha
    obtain ⟨_, e2⟩ := argsRep_nil_inv ha
    have h0 := argRep_str h0
    have h1 := argRep_int h1
    subst h0 h1 e2 e1
    have ev : vs = #[.string ⟨s.toArray⟩, .int .u8 c] := by apply Array.toList_inj.1; rw [e0]
    subst ev
    refine ⟨.int (Lib.indexByte s c.toNat.toUInt8), .int .i64 (Lib.indexByte s c.toNat.toUInt8), fun M => .int _ (.int _), sib_fin rfl, ?_⟩
    exact (Any.strings_IndexByte lays_indexByte ⟨s.toArray⟩ c w).mono fun e w' ⟨he, hw⟩ => ⟨by rw [he], by rw [hw]; exact Below.refl _ _⟩
theorem indexByte_lt : ∀ (l : List UInt8) (c : UInt8), Lib.indexByte l c < l.length
  | [], _ => by simp [Lib.indexByte]
  | b :: l, c => by
    have := indexByte_lt l c
    unfold Lib.indexByte
    simp only [List.length_cons]
    split
    · omega
    · split <;> omega

/-! ### utf8.ValidString -/
theorem glob_cell {w : World} {g : Nat} {ag : Bool} {cs : List CT} {T : TV} (h : RepT (full w) (.slice ag cs) T (.slice (some ⟨g, 0, none⟩) T.asList.length T.asList.length)) (i : Nat) (hi : i < T.asList.length) (c : Nat) (hc : c < cs.length) :
    ∃ u, w.cell? ⟨g, i * cs.length + c, none⟩ = some u ∧ RepT (full w) cs[c] (elemCell ag (T.asList.getD i (.int 0)) c) u := by
  obtain ⟨a, cap, xs, e0, _, _, _, hr, hcl⟩ := RepT.reads (w := w) (fun _ _ h => h) h
  obtain ⟨u, h1, h2⟩ := hr.2 i hi c hc
  obtain ⟨g', off, h3, h4⟩ := hcl _ u h1
  injection e0 with e1
  rw [← e1] at h3
  injection h3 with h3
  injection h3 with h5 h6
  subst h5 h6
  rw [Nat.zero_add] at h4
  refine ⟨u, h4, ?_⟩
  rw [List.getD_eq_getElem?_getD, List.getElem?_eq_getElem hi]
  exact h2
theorem first_get {c : Nat} (hc : c < 256) : (firstT').asList.getD c (.int 0) = .int (Lib.firstT c) := by
  unfold firstT'
  rw [ints_asList, ints_get]
  simp [Lib.firstTab, List.getD, hc]
theorem first_len : (firstT').asList.length = 256 := by unfold firstT'; rw [ints_len]; simp [Lib.firstTab]
theorem accept_get {i : Nat} (hi : i < 16) : acceptT.asList.getD i (.int 0) = .agg [.int (Lib.accLo i), .int (Lib.accHi i)] := by
  unfold acceptT
  simp [asList_list, List.getD, hi]
theorem accept_len : acceptT.asList.length = 16 := by unfold acceptT; simp [TV.asList]
theorem utf8Tabs_glob {w : World} (h : GlobOk (mkEnv globT []) gtabU w) : Lib.Utf8Tabs 1 2 w := by
  have hf := (h 1 false [.int .u8] (by unfold gtabU; simp)).1
  have ha := (h 2 true [.int .u8, .int .u8] (by unfold gtabU; simp)).1
  have ef : (mkEnv globT []).glob 1 = firstT' := rfl
  have ea : (mkEnv globT []).glob 2 = acceptT := rfl
  rw [ef] at hf
  rw [ea] at ha
  refine ⟨fun c hc => ?_, fun i hi => ?_⟩
  · obtain ⟨u, h1, h2⟩ := glob_cell hf c (by rw [first_len]; exact hc) 0 (by simp)
    simp only [List.length_singleton, Nat.mul_one, Nat.add_zero] at h1
    rw [h1]
    rw [first_get hc] at h2
    simp only [elemCell, List.getElem_cons_zero] at h2
    cases h2
    rfl
  · obtain ⟨u0, h1, h2⟩ := glob_cell ha i (by rw [accept_len]; exact hi) 0 (by simp)
    obtain ⟨u1, h3, h4⟩ := glob_cell ha i (by rw [accept_len]; exact hi) 1 (by simp)
    rw [accept_get hi] at h2 h4
    simp only [List.length_cons, List.length_nil, Nat.zero_add, Nat.reduceAdd, Nat.add_zero, Nat.mul_comm i 2] at h1 h3
    constructor
    · rw [h1]
      simp only [List.getElem_cons_zero] at h2
      cases h2
      rfl
    · rw [h3]
      simp only [List.getElem_cons_succ, List.getElem_cons_zero] at h4
      cases h4
      rfl

def validSL : Law := ⟨fun ts => ∃ (s : List UInt8), ts = [.str s] ∧ (s.length ≤ 9223372036854775807), fun ts r => ∀ (s : List UInt8), ts = [.str s] → r = .bool (Lib.validD s)⟩
theorem validS_pre {s : List UInt8} (h : s.length ≤ 9223372036854775807) : validSL.pre [.str s] := ⟨s, rfl, h⟩
theorem validS_fin {s : List UInt8} {r : TV} (h : r = .bool (Lib.validD s)) : validSL.post [.str s] r := fun s₁ e => by
  simp only [List.cons.injEq, TV.str.injEq, TV.int.injEq, TV.bool.injEq, TV.agg.injEq, TV.list.injEq, ints_eq, and_true, true_and, and_assoc] at e; subst e
  exact h
theorem validS_all {s : List UInt8} {Q : TV → Prop} : (∀ r, validSL.post [.str s] r → Q r) ↔ Q (.bool (Lib.validD s)) := ⟨fun h => h _ (validS_fin rfl), fun h r hr => by rw [hr _ rfl]; exact h⟩
theorem validS_c (k : Nat) : Contract Tryd.prog (mkEnv globT []) gtabU (sn_unicode_utf8_ValidString k) validSL.pre validSL.post :=
  Contract.leaf ⟨_, Tryd.f29.body.getD .skip, Tryd.func29, by kernel_rfl, by kernel_rfl⟩ fun w ts vs hg ha hp => by
    obtain ⟨s, rfl, hp⟩ := hp
    obtain ⟨v0, vs0, e0, h0, ha⟩ := argsRep_cons_inv ha
    obtain ⟨_, e2⟩ := argsRep_nil_inv ha
    have h0 := argRep_str h0
    subst h0 e2
    have ev : vs = #[.string ⟨s.toArray⟩] := by apply Array.toList_inj.1; rw [e0]
    subst ev
    refine ⟨.bool (Lib.validD s), .bool (Lib.validD s), fun M => .bool (.bool _), validS_fin rfl, ?_⟩
    exact Any.utf8_ValidString lays_validString ⟨s.toArray⟩ w (by simpa [ByteArray.size] using hp) (utf8Tabs_glob hg)
#print axioms validS_c
end Go.Proofs.YtccpepheooleoaaDoor

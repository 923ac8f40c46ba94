/- The contract of unicode/utf8.ValidString where its tables are laid; the tables, laid. -/
import Derived.Shelf.Unicode.ValidAny
import Derived.Test.YtlldpcmdmipggaaDoorLay
import Derived.Test.YtlldpcmdmipggaaDoorEnt
import Derived.Test.YtlldpcmdmipggaaDoorOq
namespace Go.Proofs.YtlldpcmdmipggaaDoor
set_option linter.unusedSimpArgs false
set_option linter.unusedVariables false
set_option linter.unusedSectionVars false
open Go.RowKit

/-! ### utf8.ValidString -/
theorem glob_cell {w : World} {g : Nat} {ag : Bool} {cs : List CT} {T : TV} (h : RepT (full w) (.slice ag cs) T (.slice (some ⟨g, 0, none⟩) T.asList.length T.asList.length)) (i : Nat) (hi : i < T.asList.length) (c : Nat) (hc : c < cs.length) :
    ∃ u, w.cell? ⟨g, i * cs.length + c, none⟩ = some u ∧ RepT (full w) cs[c] (elemCell ag (T.asList.getD i (.int 0)) c) u := by
  obtain ⟨a, cap, xs, e0, _, _, _, hr, hcl⟩ := RepT.reads (w := w) (fun _ _ h => h) h
  obtain ⟨u, h1, h2⟩ := hr.2 i hi c hc
  obtain ⟨g', off, h3, h4⟩ := hcl _ u h1
  injection e0 with e1
  rw [← e1] at h3
  injection h3 with h3
  injection h3 with h5 h6
  subst h5 h6
  rw [Nat.zero_add] at h4
  refine ⟨u, h4, ?_⟩
  rw [List.getD_eq_getElem?_getD, List.getElem?_eq_getElem hi]
  exact h2
theorem first_get {c : Nat} (hc : c < 256) : (firstT').asList.getD c (.int 0) = .int (Lib.firstT c) := by
  unfold firstT'
  rw [ints_asList, ints_get]
  simp [Lib.firstTab, List.getD, hc]
theorem first_len : (firstT').asList.length = 256 := by unfold firstT'; rw [ints_len]; simp [Lib.firstTab]
theorem accept_get {i : Nat} (hi : i < 16) : acceptT.asList.getD i (.int 0) = .agg [.int (Lib.accLo i), .int (Lib.accHi i)] := by
  unfold acceptT
  simp [asList_list, List.getD, hi]
theorem accept_len : acceptT.asList.length = 16 := by unfold acceptT; simp [TV.asList]
theorem utf8Tabs_glob {w : World} (h : GlobOk (mkEnv globT []) gtabU w) : Lib.Utf8Tabs 1 2 w := by
  have hf := (h 1 false [.int .u8] (by simp [gtabU, gtab])).1
  have ha := (h 2 true [.int .u8, .int .u8] (by simp [gtabU, gtab])).1
  have ef : (mkEnv globT []).glob 1 = firstT' := rfl
  have ea : (mkEnv globT []).glob 2 = acceptT := rfl
  rw [ef] at hf
  rw [ea] at ha
  refine ⟨fun c hc => ?_, fun i hi => ?_⟩
  · obtain ⟨u, h1, h2⟩ := glob_cell hf c (by rw [first_len]; exact hc) 0 (by simp)
    simp only [List.length_singleton, Nat.mul_one, Nat.add_zero] at h1
    rw [h1]
    rw [first_get hc] at h2
    simp only [elemCell, List.getElem_cons_zero] at h2
    cases h2
    rfl
  · obtain ⟨u0, h1, h2⟩ := glob_cell ha i (by rw [accept_len]; exact hi) 0 (by simp)
    obtain ⟨u1, h3, h4⟩ := glob_cell ha i (by rw [accept_len]; exact hi) 1 (by simp)
    rw [accept_get hi] at h2 h4
    simp only [List.length_cons, List.length_nil, Nat.zero_add, Nat.reduceAdd, Nat.add_zero, Nat.mul_comm i 2] at h1 h3
    constructor
    · rw [h1]
      simp only [List.getElem_cons_zero] at h2
      cases h2
      rfl
    · rw [h3]
      simp only [List.getElem_cons_succ, List.getElem_cons_zero] at h4
      cases h4
      rfl

def validSL : Law := ⟨fun ts => ∃ (s : List UInt8), ts = [.str s] ∧ (s.length ≤ 9223372036854775807), fun ts z₀ => ∀ (s : List UInt8), ts = [.str s] → z₀ = .bool (Lib.validD s)⟩
theorem validS_pre {s : List UInt8} (h : s.length ≤ 9223372036854775807) : validSL.pre [.str s] := ⟨s, rfl, h⟩
theorem validS_fin {s : List UInt8} {z₀ : TV} (h : z₀ = .bool (Lib.validD s)) : validSL.post [.str s] z₀ := fun s₁ e => by
  simp only [List.cons.injEq, TV.str.injEq, TV.int.injEq, TV.bool.injEq, TV.agg.injEq, TV.list.injEq, ints_eq, and_true, true_and, and_assoc] at e; subst e
  exact h
theorem validS_all {s : List UInt8} {Q : TV → Prop} : (∀ z₀, validSL.post [.str s] z₀ → Q z₀) ↔ Q (.bool (Lib.validD s)) := ⟨fun h => h _ (validS_fin rfl), fun h z₀ hr => by rw [hr _ rfl]; exact h⟩
theorem validS_c (k : Nat) : Contract Tryd.prog (mkEnv globT []) gtabU (sn_unicode_utf8_ValidString k) validSL.pre validSL.post :=
  Contract.leaf ⟨_, Tryd.f44.body.getD .skip, Tryd.func44, by kernel_rfl, by kernel_rfl⟩ fun w ts vs hg ha hp => by
    obtain ⟨s, rfl, hp⟩ := hp
    obtain ⟨v0, vs0, e0, h0, ha⟩ := argsRep_cons_inv ha
    obtain ⟨_, e2⟩ := argsRep_nil_inv ha
    have h0 := argRep_str h0
    subst h0 e2
    have ev : vs = #[.string ⟨s.toArray⟩] := by apply Array.toList_inj.1; rw [e0]
    subst ev
    refine ⟨.bool (Lib.validD s), .bool (Lib.validD s), fun M => .bool (.bool _), validS_fin rfl, ?_⟩
    exact Any.utf8_ValidString lays_validString ⟨s.toArray⟩ w (by simpa [ByteArray.size] using hp) (utf8Tabs_glob hg)

/-! ### The tables, laid -/
theorem rep_of_cells {W : World} {g : Nat} {ag : Bool} {cs : List CT} {T : TV} (hcs : 0 < cs.length) (hmax : T.asList.length ≤ maxLen)
    (h : ∀ i, i < T.asList.length → ∀ c (hc : c < cs.length), ∃ u, W.cell? ⟨g, i * cs.length + c, none⟩ = some u ∧ RepT (full W) cs[c] (elemCell ag (T.asList.getD i (.int 0)) c) u) :
    RepT (full W) (.slice ag cs) T (.slice (some ⟨g, 0, none⟩) T.asList.length T.asList.length) := by
  refine Reads.full (M := full W) ⟨some ⟨g, 0, none⟩, T.asList.length, (List.range (T.asList.length * cs.length)).map fun j => (W.cell? ⟨g, j, none⟩).getD undef, rfl, Nat.le_refl _, hmax, (fun h => by cases h), ⟨by simp, fun i hi c hc => ?_⟩, fun j u hu => ⟨g, 0, rfl, ?_⟩⟩ (fun _ _ h => h) hcs
  · obtain ⟨u, h1, h2⟩ := h i hi c hc
    refine ⟨u, ?_, ?_⟩
    · rw [List.getElem?_map, List.getElem?_range (idx_lt hi hc)]
      simp [h1]
    · rw [List.getD_eq_getElem?_getD, List.getElem?_eq_getElem hi] at h2
      exact h2
  · rw [List.getElem?_map] at hu
    have hj : j < T.asList.length * cs.length := by
      by_cases hj : j < T.asList.length * cs.length
      · exact hj
      · rw [List.getElem?_eq_none (by simpa using hj)] at hu; cases hu
    rw [List.getElem?_range hj] at hu
    simp only [Option.map_some, Option.some.injEq] at hu
    obtain ⟨i, c, hi, hc, rfl⟩ := idx_split hj
    obtain ⟨v, h1, _⟩ := h i hi c hc
    rw [h1] at hu
    rw [Nat.zero_add, h1, ← hu]
    rfl
theorem rep_first {W : World} (h : Lib.Utf8Tabs 1 2 W) : RepT (full W) (.slice false [.int .u8]) firstT' (.slice (some ⟨1, 0, none⟩) (firstT').asList.length (firstT').asList.length) ∧ 0 < (firstT').asList.length := by
  refine ⟨rep_of_cells (by simp) (by rw [first_len]; decide) fun i hi c hc => ?_, by rw [first_len]; decide⟩
  rw [first_len] at hi
  have : c = 0 := by simp at hc; exact hc
  subst this
  refine ⟨_, by simpa using h.1 i hi, ?_⟩
  rw [first_get hi]
  exact .int _ (.int _)
theorem rep_accept {W : World} (h : Lib.Utf8Tabs 1 2 W) : RepT (full W) (.slice true [.int .u8, .int .u8]) acceptT (.slice (some ⟨2, 0, none⟩) acceptT.asList.length acceptT.asList.length) ∧ 0 < acceptT.asList.length := by
  refine ⟨rep_of_cells (by simp) (by rw [accept_len]; decide) fun i hi c hc => ?_, by rw [accept_len]; decide⟩
  rw [accept_len] at hi
  obtain ⟨k0, k1⟩ := h.2 i hi
  rw [accept_get hi]
  rw [Nat.mul_comm] at k0 k1
  match c, hc with
  | 0, _ => exact ⟨_, k0, .int _ (.int _)⟩
  | 1, _ => exact ⟨_, k1, .int _ (.int _)⟩
  | c + 2, hc => have : c + 2 < 2 := hc; omega
set_option maxRecDepth 100000 in
theorem first_pinned : Lib.firstData = Go.Pinned.utf8First := by kernel_rfl
theorem tabs_of {l : List (String × DataW Unit)} {W : World} (h : laidMet Tryd.prog l W) (h1 : ("unicode/utf8.first", Lib.firstData) ∈ l) (h2 : ("unicode/utf8.acceptRanges", Lib.acceptData) ∈ l) : Lib.Utf8Tabs 1 2 W :=
  utf8Tabs_of_readsT (U8Types.of196 lays_validString) ⟨by kernel_rfl, by kernel_rfl, by kernel_rfl, by kernel_rfl, by kernel_rfl, by kernel_rfl, by kernel_rfl⟩ (Lib.laidMet.reads h h1) (Lib.laidMet.reads h h2)
end Go.Proofs.YtlldpcmdmipggaaDoor

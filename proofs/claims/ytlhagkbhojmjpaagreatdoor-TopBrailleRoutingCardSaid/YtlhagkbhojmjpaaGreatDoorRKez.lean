/- Written by this repo's own program out of its texts. -/
import Derived.Test.YtlhagkbhojmjpaaGreatDoorRKey
namespace Go.Proofs.YtlhagkbhojmjpaaGreatDoor
set_option linter.unusedSimpArgs false
set_option linter.unusedVariables false
set_option linter.unusedSectionVars false
open Go.RowKit
def chkB (n : List UInt8) (c a s : Bool) : Bool := if n = [84, 97, 98] then !c && !(s && a) else if n = [69, 110, 116, 101, 114] ∨ n = [69, 115, 99, 97, 112, 101] ∨ n = [66, 97, 99, 107, 115, 112, 97, 99, 101] then !c && !s else true
theorem names_ne : ∀ n ∈ namesL, ¬ n = [] := by decide +kernel
def pvruL : Law := ⟨fun ts => ∃ (r : Int), ts = [.int r] ∧ (0 ≤ r ∧ r < 55296), fun ts z₀ => ∀ (r : Int), ts = [.int r] → z₀ = .bool true⟩
theorem pvru_pre {r : Int} (h : 0 ≤ r ∧ r < 55296) : pvruL.pre [.int r] := ⟨r, rfl, h⟩
theorem pvru_fin {r : Int} {z₀ : TV} (h : z₀ = .bool true) : pvruL.post [.int r] z₀ := fun r₁ e => by
  simp only [List.cons.injEq, TV.str.injEq, TV.int.injEq, TV.bool.injEq, TV.agg.injEq, TV.list.injEq, zat, and_true, true_and, and_assoc] at e; subst e
  exact h
theorem pvru_all {r : Int} {Q : TV → Prop} : (∀ z₀, pvruL.post [.int r] z₀ → Q z₀) ↔ Q (.bool true) := ⟨fun h => h _ (pvru_fin rfl), fun h z₀ hr => by rw [hr _ rfl]; exact h⟩
theorem pvru_c (k : Nat) : Contract Tryz.prog (mkEnv globT []) gtabU (qih k) pvruL.pre pvruL.post := Contract.env (Γ := mkEnv globT []) (qjd (fun _ => rfl) (fun s hs => by
    cases hs) k (by
  rintro ts hl ⟨r, rfl, hp⟩
  have hfin : ∀ z₀ : TV, z₀ = .bool true → pvruL.post [.int r] z₀ := fun z₀ hz₀ => pvru_fin hz₀
  generalize pvruL.post [.int r] = R at hfin ⊢
  unfold tr_unicode_utf8_ValidRune
  simp only [Tree.den, E.den, P1.den, P2.den, P3.den, qa, qb, qc, qd, qe, qf, qg, qh, zac, zab, zad, zaa, zae, TV.cell, zah, zai, zag, zaf, qi, qj, qk, ql, qm, qn, ne_eq, qo, qp, forall_eq, qs, qt, Int.reduceToNat, qu, exists_eq_left']
  exact ⟨fun _ => ⟨fun _ => hfin _ rfl, fun h => absurd hp.2 h⟩, fun h => absurd hp.1 h⟩)) rfl
theorem wz27 : za5 27 < 0 := by decide +kernel
theorem wz91 : ¬ za5 91 < 0 := by decide +kernel
def pchrL : Law := ⟨fun ts => ∃ (n : List UInt8) (r : Int) (c : Bool) (a : Bool) (s : Bool), ts = [.agg [.str n, .int r, .bool c, .bool a, .bool s]] ∧ (n = [] ∧ c = false ∧ a = false ∧ s = false ∧ (r = 27 ∨ r = 91)), fun ts z₀ => ∀ (n : List UInt8) (r : Int) (c : Bool) (a : Bool) (s : Bool), ts = [.agg [.str n, .int r, .bool c, .bool a, .bool s]] → z₀ = .bool (decide (r = 91))⟩
theorem pchr_pre {n : List UInt8} {r : Int} {c : Bool} {a : Bool} {s : Bool} (h : n = [] ∧ c = false ∧ a = false ∧ s = false ∧ (r = 27 ∨ r = 91)) : pchrL.pre [.agg [.str n, .int r, .bool c, .bool a, .bool s]] := ⟨n, r, c, a, s, rfl, h⟩
theorem pchr_fin {n : List UInt8} {r : Int} {c : Bool} {a : Bool} {s : Bool} {z₀ : TV} (h : z₀ = .bool (decide (r = 91))) : pchrL.post [.agg [.str n, .int r, .bool c, .bool a, .bool s]] z₀ := fun n₁ r₁ c₁ a₁ s₁ e => by
  simp only [List.cons.injEq, TV.str.injEq, TV.int.injEq, TV.bool.injEq, TV.agg.injEq, TV.list.injEq, zat, and_true, true_and, and_assoc] at e; obtain ⟨rfl, rfl, rfl, rfl, rfl⟩ := e
  exact h
theorem pchr_all {n : List UInt8} {r : Int} {c : Bool} {a : Bool} {s : Bool} {Q : TV → Prop} : (∀ z₀, pchrL.post [.agg [.str n, .int r, .bool c, .bool a, .bool s]] z₀ → Q z₀) ↔ Q (.bool (decide (r = 91))) := ⟨fun h => h _ (pchr_fin rfl), fun h z₀ hr => by rw [hr _ _ _ _ _ rfl]; exact h⟩
theorem pchr_c (k : Nat) : Contract Tryz.prog (mkEnv globT []) gtabU (qio k) pchrL.pre pchrL.post := Contract.env (Γ := mkEnv globT [widthL, pvruL]) (qjo (fun _ => rfl) (fun s hs => by
    simp only [cx_keyinput_character, List.mem_cons, List.not_mem_nil, or_false] at hs
    rcases hs with rfl | rfl
    · exact Contract.inEnv rfl (zv5 0) rfl
    · exact Contract.inEnv rfl (pvru_c 1) rfl) k (by
  rintro ts hl ⟨n, r, c, a, s, rfl, hp⟩
  have hfin : ∀ z₀ : TV, z₀ = .bool (decide (r = 91)) → pchrL.post [.agg [.str n, .int r, .bool c, .bool a, .bool s]] z₀ := fun z₀ hz₀ => pchr_fin hz₀
  generalize pchrL.post [.agg [.str n, .int r, .bool c, .bool a, .bool s]] = R at hfin ⊢
  unfold tr_keyinput_character
  obtain ⟨rfl, rfl, rfl, rfl, hr⟩ := hp
  have w1 := wz27
  have w2 := wz91
  have e : decide (0 ≤ za5 r) = decide (r = 91) := by
    rcases hr with rfl | rfl
    · rw [decide_eq_false (by omega)]; rfl
    · rw [decide_eq_true (by omega)]; rfl
  simp only [Tree.den, E.den, P1.den, P2.den, P3.den, qa, qb, qc, qd, qe, qf, qg, qh, zac, zab, zad, zaa, zae, TV.cell, zah, zai, zag, zaf, qi, qj, qk, ql, qm, qn, ne_eq, qo, qp, forall_eq, qs, qt, Int.reduceToNat, qu, exists_eq_left', pvru_all, zcf]
  exact ⟨fun h => absurd h (by simp), fun _ => ⟨fun h => absurd h (by simp), fun _ => ⟨pvru_pre ⟨by omega, by omega⟩, fun _ => ⟨zc0 trivial, hfin _ (congrArg TV.bool e)⟩, fun h => absurd h (by simp)⟩⟩⟩)) rfl
def pchkL : Law := ⟨fun ts => ∃ (n : List UInt8) (c : Bool) (a : Bool) (s : Bool), ts = [.agg [.str n, .int 0, .bool c, .bool a, .bool s]] ∧ (n ∈ namesL), fun ts z₀ => ∀ (n : List UInt8) (c : Bool) (a : Bool) (s : Bool), ts = [.agg [.str n, .int 0, .bool c, .bool a, .bool s]] → z₀ = .int (if chkB n c a s = true then 0 else 1)⟩
theorem pchk_pre {n : List UInt8} {c : Bool} {a : Bool} {s : Bool} (h : n ∈ namesL) : pchkL.pre [.agg [.str n, .int 0, .bool c, .bool a, .bool s]] := ⟨n, c, a, s, rfl, h⟩
theorem pchk_fin {n : List UInt8} {c : Bool} {a : Bool} {s : Bool} {z₀ : TV} (h : z₀ = .int (if chkB n c a s = true then 0 else 1)) : pchkL.post [.agg [.str n, .int 0, .bool c, .bool a, .bool s]] z₀ := fun n₁ c₁ a₁ s₁ e => by
  simp only [List.cons.injEq, TV.str.injEq, TV.int.injEq, TV.bool.injEq, TV.agg.injEq, TV.list.injEq, zat, and_true, true_and, and_assoc] at e; obtain ⟨rfl, rfl, rfl, rfl⟩ := e
  exact h
theorem pchk_all {n : List UInt8} {c : Bool} {a : Bool} {s : Bool} {Q : TV → Prop} : (∀ z₀, pchkL.post [.agg [.str n, .int 0, .bool c, .bool a, .bool s]] z₀ → Q z₀) ↔ Q (.int (if chkB n c a s = true then 0 else 1)) := ⟨fun h => h _ (pchk_fin rfl), fun h z₀ hr => by rw [hr _ _ _ _ rfl]; exact h⟩
theorem pchk_c (k : Nat) : Contract Tryz.prog (mkEnv globT []) gtabU (qif k) pchkL.pre pchkL.post := Contract.env (Γ := mkEnv globT [pconL, pnmsL, pchrL]) (qi3 (fun _ => rfl) (fun s hs => by
    simp only [cx_keyinput_Check, List.mem_cons, List.not_mem_nil, or_false] at hs
    rcases hs with rfl | rfl | rfl
    · exact Contract.inEnv rfl (pcon_c 0) rfl
    · exact Contract.inEnv rfl (pnms_c 1) rfl
    · exact Contract.inEnv rfl (pchr_c 2) rfl) k (by
  rintro ts hl ⟨n, c, a, s, rfl, hp⟩
  have hfin : ∀ z₀ : TV, z₀ = .int (if chkB n c a s = true then 0 else 1) → pchkL.post [.agg [.str n, .int 0, .bool c, .bool a, .bool s]] z₀ := fun z₀ hz₀ => pchk_fin hz₀
  generalize pchkL.post [.agg [.str n, .int 0, .bool c, .bool a, .bool s]] = R at hfin ⊢
  unfold tr_keyinput_Check
  have h0 := names_ne n hp
  have q := pcon_pre (l := namesL) (v := n) ⟨by decide, hp⟩
  simp only [Tree.den, E.den, P1.den, P2.den, P3.den, qa, qb, qc, qd, qe, qf, qg, qh, zac, zab, zad, zaa, zae, TV.cell, zah, zai, zag, zaf, qi, qj, qk, ql, qm, qn, ne_eq, qo, qp, forall_eq, qs, qt, Int.reduceToNat, qu, exists_eq_left', h0, pnms_all, pcon_all]
  refine ⟨False.elim, fun _ => ⟨fun h1 => ?_, fun h1 => ⟨fun h2 => ?_, fun h2 => ⟨fun h3 => ?_, fun h3 => ⟨fun h4 => ?_, fun h4 => ?_⟩⟩⟩⟩⟩
  · have ex : chkB n c a s = (!c && !(s && a)) := by unfold chkB; rw [if_pos h1]
    rw [ex] at hfin
    cases c <;> cases a <;> cases s <;> (simp at hfin ⊢; exact hfin)
  · have ex : chkB n c a s = (!c && !s) := by unfold chkB; rw [if_neg h1, if_pos (Or.inl h2 : n = [69, 110, 116, 101, 114] ∨ n = [69, 115, 99, 97, 112, 101] ∨ n = [66, 97, 99, 107, 115, 112, 97, 99, 101])]
    rw [ex] at hfin
    cases c <;> cases s <;> (simp at hfin ⊢; exact hfin)
  · have ex : chkB n c a s = (!c && !s) := by unfold chkB; rw [if_neg h1, if_pos (Or.inr (Or.inl h3) : n = [69, 110, 116, 101, 114] ∨ n = [69, 115, 99, 97, 112, 101] ∨ n = [66, 97, 99, 107, 115, 112, 97, 99, 101])]
    rw [ex] at hfin
    cases c <;> cases s <;> (simp at hfin ⊢; exact hfin)
  · have ex : chkB n c a s = (!c && !s) := by unfold chkB; rw [if_neg h1, if_pos (Or.inr (Or.inr h4) : n = [69, 110, 116, 101, 114] ∨ n = [69, 115, 99, 97, 112, 101] ∨ n = [66, 97, 99, 107, 115, 112, 97, 99, 101])]
    rw [ex] at hfin
    cases c <;> cases s <;> (simp at hfin ⊢; exact hfin)
  · have ex : chkB n c a s = true := by unfold chkB; rw [if_neg h1, if_neg (fun h : n = [69, 110, 116, 101, 114] ∨ n = [69, 115, 99, 97, 112, 101] ∨ n = [66, 97, 99, 107, 115, 112, 97, 99, 101] => h.elim h2 fun h => h.elim h3 h4)]
    rw [ex] at hfin
    exact ⟨pnms_pre, q, False.elim, fun _ => ⟨fun h => absurd trivial h, fun _ => hfin _ rfl⟩⟩)) rfl
def pckrL : Law := ⟨fun ts => ∃ (r : Int) (c : Bool) (a : Bool) (s : Bool), ts = [.agg [.str [], .int r, .bool c, .bool a, .bool s]] ∧ (c = false ∧ a = false ∧ s = false ∧ (r = 27 ∨ r = 91)), fun ts z₀ => ∀ (r : Int) (c : Bool) (a : Bool) (s : Bool), ts = [.agg [.str [], .int r, .bool c, .bool a, .bool s]] → z₀ = .int (if r = 91 then 0 else 1)⟩
theorem pckr_pre {r : Int} {c : Bool} {a : Bool} {s : Bool} (h : c = false ∧ a = false ∧ s = false ∧ (r = 27 ∨ r = 91)) : pckrL.pre [.agg [.str [], .int r, .bool c, .bool a, .bool s]] := ⟨r, c, a, s, rfl, h⟩
theorem pckr_fin {r : Int} {c : Bool} {a : Bool} {s : Bool} {z₀ : TV} (h : z₀ = .int (if r = 91 then 0 else 1)) : pckrL.post [.agg [.str [], .int r, .bool c, .bool a, .bool s]] z₀ := fun r₁ c₁ a₁ s₁ e => by
  simp only [List.cons.injEq, TV.str.injEq, TV.int.injEq, TV.bool.injEq, TV.agg.injEq, TV.list.injEq, zat, and_true, true_and, and_assoc] at e; obtain ⟨rfl, rfl, rfl, rfl⟩ := e
  exact h
theorem pckr_all {r : Int} {c : Bool} {a : Bool} {s : Bool} {Q : TV → Prop} : (∀ z₀, pckrL.post [.agg [.str [], .int r, .bool c, .bool a, .bool s]] z₀ → Q z₀) ↔ Q (.int (if r = 91 then 0 else 1)) := ⟨fun h => h _ (pckr_fin rfl), fun h z₀ hr => by rw [hr _ _ _ _ rfl]; exact h⟩
theorem pckr_c (k : Nat) : Contract Tryz.prog (mkEnv globT []) gtabU (qif k) pckrL.pre pckrL.post := Contract.env (Γ := mkEnv globT [pconL, pnmsL, pchrL]) (qi3 (fun _ => rfl) (fun s hs => by
    simp only [cx_keyinput_Check, List.mem_cons, List.not_mem_nil, or_false] at hs
    rcases hs with rfl | rfl | rfl
    · exact Contract.inEnv rfl (pcon_c 0) rfl
    · exact Contract.inEnv rfl (pnms_c 1) rfl
    · exact Contract.inEnv rfl (pchr_c 2) rfl) k (by
  rintro ts hl ⟨r, c, a, s, rfl, hp⟩
  have hfin : ∀ z₀ : TV, z₀ = .int (if r = 91 then 0 else 1) → pckrL.post [.agg [.str [], .int r, .bool c, .bool a, .bool s]] z₀ := fun z₀ hz₀ => pckr_fin hz₀
  generalize pckrL.post [.agg [.str [], .int r, .bool c, .bool a, .bool s]] = R at hfin ⊢
  unfold tr_keyinput_Check
  obtain ⟨rfl, rfl, rfl, hr⟩ := hp
  have q := pchr_pre (n := []) (r := r) (c := false) (a := false) (s := false) ⟨rfl, rfl, rfl, rfl, hr⟩
  simp only [Tree.den, E.den, P1.den, P2.den, P3.den, qa, qb, qc, qd, qe, qf, qg, qh, zac, zab, zad, zaa, zae, TV.cell, zah, zai, zag, zaf, qi, qj, qk, ql, qm, qn, ne_eq, qo, qp, forall_eq, qs, qt, Int.reduceToNat, qu, exists_eq_left', pchr_all]
  refine ⟨fun _ => ⟨q, fun h => hfin _ ?_, fun h => hfin _ ?_⟩, fun h => absurd trivial h⟩
  · rw [if_neg (by simpa using h)]
  · rw [if_pos (by simpa using h)])) rfl
def bareK (n : List UInt8) : List UInt8 := if n = [84, 97, 98] then [9] else if n = [69, 110, 116, 101, 114] then [13] else if n = [69, 115, 99, 97, 112, 101] then [27] else if n = [66, 97, 99, 107, 115, 112, 97, 99, 101] then [127] else []
def pbarL : Law := ⟨fun ts => ∃ (n : List UInt8) (c : Bool) (a : Bool) (s : Bool), ts = [.agg [.str n, .int 0, .bool c, .bool a, .bool s], .agg [.bool false, .bool false, .bool false, .bool false, .bool false, .bool false, .bool false, .bool false, .int 0, .int 0, .int 0]] ∧ (n ∈ namesL), fun ts z₀ => ∀ (n : List UInt8) (c : Bool) (a : Bool) (s : Bool), ts = [.agg [.str n, .int 0, .bool c, .bool a, .bool s], .agg [.bool false, .bool false, .bool false, .bool false, .bool false, .bool false, .bool false, .bool false, .int 0, .int 0, .int 0]] → z₀ = .str (bareK n)⟩
theorem pbar_pre {n : List UInt8} {c : Bool} {a : Bool} {s : Bool} (h : n ∈ namesL) : pbarL.pre [.agg [.str n, .int 0, .bool c, .bool a, .bool s], .agg [.bool false, .bool false, .bool false, .bool false, .bool false, .bool false, .bool false, .bool false, .int 0, .int 0, .int 0]] := ⟨n, c, a, s, rfl, h⟩
theorem pbar_fin {n : List UInt8} {c : Bool} {a : Bool} {s : Bool} {z₀ : TV} (h : z₀ = .str (bareK n)) : pbarL.post [.agg [.str n, .int 0, .bool c, .bool a, .bool s], .agg [.bool false, .bool false, .bool false, .bool false, .bool false, .bool false, .bool false, .bool false, .int 0, .int 0, .int 0]] z₀ := fun n₁ c₁ a₁ s₁ e => by
  simp only [List.cons.injEq, TV.str.injEq, TV.int.injEq, TV.bool.injEq, TV.agg.injEq, TV.list.injEq, zat, and_true, true_and, and_assoc] at e; obtain ⟨rfl, rfl, rfl, rfl⟩ := e
  exact h
theorem pbar_all {n : List UInt8} {c : Bool} {a : Bool} {s : Bool} {Q : TV → Prop} : (∀ z₀, pbarL.post [.agg [.str n, .int 0, .bool c, .bool a, .bool s], .agg [.bool false, .bool false, .bool false, .bool false, .bool false, .bool false, .bool false, .bool false, .int 0, .int 0, .int 0]] z₀ → Q z₀) ↔ Q (.str (bareK n)) := ⟨fun h => h _ (pbar_fin rfl), fun h z₀ hr => by rw [hr _ _ _ _ rfl]; exact h⟩
theorem pbar_c (k : Nat) : Contract Tryz.prog (mkEnv globT []) gtabU (qji k) pbarL.pre pbarL.post := Contract.env (Γ := mkEnv globT []) (qki (fun _ => rfl) (fun s hs => by
    cases hs) k (by
  rintro ts hl ⟨n, c, a, s, rfl, hp⟩
  have hfin : ∀ z₀ : TV, z₀ = .str (bareK n) → pbarL.post [.agg [.str n, .int 0, .bool c, .bool a, .bool s], .agg [.bool false, .bool false, .bool false, .bool false, .bool false, .bool false, .bool false, .bool false, .int 0, .int 0, .int 0]] z₀ := fun z₀ hz₀ => pbar_fin hz₀
  generalize pbarL.post [.agg [.str n, .int 0, .bool c, .bool a, .bool s], .agg [.bool false, .bool false, .bool false, .bool false, .bool false, .bool false, .bool false, .bool false, .int 0, .int 0, .int 0]] = R at hfin ⊢
  unfold tr_keyinput_bare
  have h0 := names_ne n hp
  unfold bareK at hfin
  simp only [Tree.den, E.den, P1.den, P2.den, P3.den, qa, qb, qc, qd, qe, qf, qg, qh, zac, zab, zad, zaa, zae, TV.cell, zah, zai, zag, zaf, qi, qj, qk, ql, qm, qn, ne_eq, qo, qp, forall_eq, qs, qt, Int.reduceToNat, qu, exists_eq_left', h0]
  refine ⟨False.elim, fun _ => ⟨fun h1 => hfin _ ?_, fun h1 => ⟨fun h2 => ?_, fun h2 => ⟨fun h3 => hfin _ ?_, fun h3 => ⟨fun h4 => hfin _ ?_, fun h4 => hfin _ ?_⟩⟩⟩⟩⟩
  · rw [if_pos h1]
  · rw [if_neg h1, if_pos h2] at hfin
    first | exact hfin _ rfl | exact ⟨fun h => absurd h (by simp), fun _ => hfin _ rfl⟩
  · rw [if_neg h1, if_neg h2, if_pos h3]
  · rw [if_neg h1, if_neg h2, if_neg h3, if_pos h4]
  · rw [if_neg h1, if_neg h2, if_neg h3, if_neg h4])) rfl
def encK (n : List UInt8) (c a s : Bool) : List UInt8 := if bareK n = [] then qle n c a s else if n = [84, 97, 98] ∧ s = true then [27, 91, 90] else if a = true then 27 :: bareK n else bareK n
theorem names_tab : ∀ n ∈ namesL, bareK n = [] → n ∈ namedTab.map (·.1) := by decide +kernel
theorem bareK_len (n : List UInt8) : (bareK n).length ≤ 1 := by
  unfold bareK
  repeat' split
  all_goals decide
def pencL : Law := ⟨fun ts => ∃ (n : List UInt8) (c : Bool) (a : Bool) (s : Bool), ts = [.agg [.str n, .int 0, .bool c, .bool a, .bool s], .agg [.bool false, .bool false, .bool false, .bool false, .bool false, .bool false, .bool false, .bool false, .int 0, .int 0, .int 0]] ∧ (n ∈ namesL ∧ chkB n c a s = true), fun ts z₀ => ∀ (n : List UInt8) (c : Bool) (a : Bool) (s : Bool), ts = [.agg [.str n, .int 0, .bool c, .bool a, .bool s], .agg [.bool false, .bool false, .bool false, .bool false, .bool false, .bool false, .bool false, .bool false, .int 0, .int 0, .int 0]] → z₀ = .agg [.str (encK n c a s), .int 0]⟩
theorem penc_pre {n : List UInt8} {c : Bool} {a : Bool} {s : Bool} (h : n ∈ namesL ∧ chkB n c a s = true) : pencL.pre [.agg [.str n, .int 0, .bool c, .bool a, .bool s], .agg [.bool false, .bool false, .bool false, .bool false, .bool false, .bool false, .bool false, .bool false, .int 0, .int 0, .int 0]] := ⟨n, c, a, s, rfl, h⟩
theorem penc_fin {n : List UInt8} {c : Bool} {a : Bool} {s : Bool} {z₀ : TV} (h : z₀ = .agg [.str (encK n c a s), .int 0]) : pencL.post [.agg [.str n, .int 0, .bool c, .bool a, .bool s], .agg [.bool false, .bool false, .bool false, .bool false, .bool false, .bool false, .bool false, .bool false, .int 0, .int 0, .int 0]] z₀ := fun n₁ c₁ a₁ s₁ e => by
  simp only [List.cons.injEq, TV.str.injEq, TV.int.injEq, TV.bool.injEq, TV.agg.injEq, TV.list.injEq, zat, and_true, true_and, and_assoc] at e; obtain ⟨rfl, rfl, rfl, rfl⟩ := e
  exact h
theorem penc_all {n : List UInt8} {c : Bool} {a : Bool} {s : Bool} {Q : TV → Prop} : (∀ z₀, pencL.post [.agg [.str n, .int 0, .bool c, .bool a, .bool s], .agg [.bool false, .bool false, .bool false, .bool false, .bool false, .bool false, .bool false, .bool false, .int 0, .int 0, .int 0]] z₀ → Q z₀) ↔ Q (.agg [.str (encK n c a s), .int 0]) := ⟨fun h => h _ (penc_fin rfl), fun h z₀ hr => by rw [hr _ _ _ _ rfl]; exact h⟩
theorem penc_c (k : Nat) : Contract Tryz.prog (mkEnv globT []) gtabU (qin k) pencL.pre pencL.post := Contract.env (Γ := mkEnv globT [pchkL, pbarL, pnamL]) (qj7 (fun _ => rfl) (fun s hs => by
    simp only [cx_keyinput_Encode, List.mem_cons, List.not_mem_nil, or_false] at hs
    rcases hs with rfl | rfl | rfl
    · exact Contract.inEnv rfl (pchk_c 0) rfl
    · exact Contract.inEnv rfl (pbar_c 1) rfl
    · exact Contract.inEnv rfl (pnam_c 2) rfl) k (by
  rintro ts hl ⟨n, c, a, s, rfl, hp⟩
  have hfin : ∀ z₀ : TV, z₀ = .agg [.str (encK n c a s), .int 0] → pencL.post [.agg [.str n, .int 0, .bool c, .bool a, .bool s], .agg [.bool false, .bool false, .bool false, .bool false, .bool false, .bool false, .bool false, .bool false, .int 0, .int 0, .int 0]] z₀ := fun z₀ hz₀ => penc_fin hz₀
  generalize pencL.post [.agg [.str n, .int 0, .bool c, .bool a, .bool s], .agg [.bool false, .bool false, .bool false, .bool false, .bool false, .bool false, .bool false, .bool false, .int 0, .int 0, .int 0]] = R at hfin ⊢
  unfold tr_keyinput_Encode
  obtain ⟨hn, hc⟩ := hp
  have hl := bareK_len n
  unfold encK at hfin
  simp only [Tree.den, E.den, P1.den, P2.den, P3.den, qa, qb, qc, qd, qe, qf, qg, qh, zac, zab, zad, zaa, zae, TV.cell, zah, zai, zag, zaf, qi, qj, qk, ql, qm, qn, ne_eq, qo, qp, forall_eq, qs, qt, Int.reduceToNat, qu, exists_eq_left', pchk_all, hc, pbar_all, pnam_all, if_true]
  refine ⟨pchk_pre hn, fun h => absurd trivial h, fun _ => ⟨pbar_pre hn, fun h1 => ⟨pnam_pre (names_tab n hn h1), hfin _ (by rw [if_pos h1])⟩, fun h1 => ⟨fun h2 => ⟨fun h3 => hfin _ ?_, fun h3 => ⟨fun h4 => ⟨?_, hfin _ ?_⟩, fun h4 => hfin _ ?_⟩⟩, fun h2 => ⟨fun h4 => ⟨?_, hfin _ ?_⟩, fun h4 => hfin _ ?_⟩⟩⟩⟩
  · rw [if_neg h1, if_pos ⟨h2, h3⟩]
  · omega
  · rw [if_neg h1, if_neg (fun h => by rw [h.2] at h3; cases h3), if_pos h4]
  · rw [if_neg h1, if_neg (fun h => by rw [h.2] at h3; cases h3), if_neg (by rw [h4]; decide)]
  · omega
  · rw [if_neg h1, if_neg (fun h => h2 h.1), if_pos h4]
  · rw [if_neg h1, if_neg (fun h => h2 h.1), if_neg (by rw [h4]; decide)])) rfl
end Go.Proofs.YtlhagkbhojmjpaaGreatDoor


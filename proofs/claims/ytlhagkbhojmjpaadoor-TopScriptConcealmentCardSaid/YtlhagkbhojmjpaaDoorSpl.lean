/- Scripts, in plain terms; the contracts of package scriptcode. -/
import Derived.Test.YtlhagkbhojmjpaaDoorS1
import Derived.Test.YtlhagkbhojmjpaaDoorSvo
namespace Go.Proofs.YtlhagkbhojmjpaaDoor
set_option linter.unusedSimpArgs false
set_option linter.unusedVariables false
set_option linter.unusedSectionVars false

abbrev Ins := Int × Int
def insT (x : Ins) : TV := .agg [.int x.1, .int x.2]
def scrT (l : List Ins) : TV := .list (l.map insT)
theorem scrT_inj {a b : List Ins} (h : scrT a = scrT b) : a = b := by
  unfold scrT at h
  simp only [TV.list.injEq] at h
  exact List.map_inj_right (fun x y h => by unfold insT at h; simp only [TV.agg.injEq, List.cons.injEq, TV.int.injEq, and_true] at h; exact Prod.ext h.1 h.2) |>.1 h
theorem scrT_eq {a b : List Ins} : scrT a = scrT b ↔ a = b := ⟨scrT_inj, fun h => by rw [h]⟩
theorem glsS_eq {a b : List Gl} : glsT a = glsT b ↔ a = b := zzx


theorem scrT_len (l : List Ins) : (scrT l).asList.length = l.length := by rw [scrT, TV.asList, List.length_map]
theorem scrT_asList (l : List Ins) : (scrT l).asList = l.map insT := rfl
def xx (l : List Ins) (i : Nat) : Ins := l.getD i (0, 0)
theorem scr_get {l : List Ins} {i : Nat} (h : i < l.length) : (l.map insT).getD i (.int 0) = insT (xx l i) := by
  unfold xx
  rw [List.getD_eq_getElem?_getD, List.getElem?_map, List.getD_eq_getElem?_getD, List.getElem?_eq_getElem h]
  rfl
def loB (op : Int) (i : Int) : Int := if op = 1 then -999999999 else if op = 17 then i + 1 else if op = 18 then i + 1 else 0
def hiB (op : Int) (n : Int) : Int := if op = 1 then 999999999 else if op = 17 then n else if op = 18 then n else 0
def insE (n i : Nat) (x : Ins) : Int := if x.1 < 0 ∨ 21 ≤ x.1 then 9 else if x.2 < loB x.1 i ∨ hiB x.1 n < x.2 then 2 else 0
def chkR (n : Nat) : List Ins → Nat → Int
  | [], _ => 0
  | x :: l, i => if insE n i x = 0 then chkR n l (i + 1) else insE n i x
def chkS (l : List Ins) : Int := if 500 < l.length then 5 else chkR l.length l 0
theorem chkR_zero {n : Nat} : ∀ {l : List Ins} {i : Nat}, chkR n l i = 0 → ∀ j, j < l.length → insE n (i + j) (xx l j) = 0
  | [], _, _, j, hj => by simp at hj
  | x :: l, i, h, j, hj => by
    unfold chkR at h
    by_cases hx : insE n i x = 0
    · rw [if_pos hx] at h
      cases j with
      | zero => exact hx
      | succ j =>
        have := chkR_zero h j (by simpa using hj)
        rw [show i + (j + 1) = i + 1 + j by omega]
        exact this
    · rw [if_neg hx] at h
      exact absurd h hx
structure InsOk (n i : Nat) (x : Ins) : Prop where
  o0 : 0 ≤ x.1
  o1 : x.1 ≤ 20
  j : x.1 = 17 ∨ x.1 = 18 → (i : Int) + 1 ≤ x.2 ∧ x.2 ≤ n
  p : x.1 = 1 → -999999999 ≤ x.2 ∧ x.2 ≤ 999999999
theorem insE_zero {n i : Nat} {x : Ins} (h : insE n i x = 0) : InsOk n i x := by
  unfold insE at h
  split at h
  · omega
  · rename_i h1
    split at h
    · omega
    · rename_i h2
      refine ⟨by omega, by omega, fun hj => ?_, fun hp => ?_⟩
      · rcases hj with e | e <;> rw [e] at h2 <;> (unfold loB hiB at h2; simp at h2; omega)
      · rw [hp] at h2; unfold loB hiB at h2; simp at h2; omega
theorem chkS_ok {l : List Ins} (h : chkS l = 0) : l.length ≤ 500 ∧ ∀ i, i < l.length → InsOk l.length i (xx l i) := by
  unfold chkS at h
  split at h
  · omega
  · refine ⟨by omega, fun i hi => ?_⟩
    have := chkR_zero h i hi
    rw [Nat.zero_add] at this
    exact insE_zero this

def snmL : List (List UInt8) := [[104, 97, 108, 116], [112, 117, 115, 104], [114, 111, 119], [108, 101, 110, 103, 116, 104], [99, 104, 97, 114], [115, 116, 121, 108, 101], [99, 108, 97, 115, 115], [119, 97, 105, 116], [97, 100, 100], [115, 117, 98], [109, 117, 108], [101, 113, 117, 97, 108], [108, 101, 115, 115], [110, 111, 116], [100, 117, 112], [100, 114, 111, 112], [115, 119, 97, 112], [106, 117, 109, 112], [106, 117, 109, 112, 122, 101, 114, 111], [115, 101, 116, 99, 108, 97, 115, 115], [115, 101, 116, 119, 97, 105, 116]]
theorem snm_len' : snmL.length = 21 := rfl
theorem snm_len : (TV.list (snmL.map TV.str)).asList.length = 21 := rfl
def snamL : Law := ⟨fun ts => ts = [], fun ts z₀ => ts = [] → z₀ = .list (snmL.map TV.str)⟩
theorem snam_pre : snamL.pre [] := rfl
theorem snam_fin {z₀ : TV} (h : z₀ = .list (snmL.map TV.str)) : snamL.post [] z₀ := fun _ => h
theorem snam_all {Q : TV → Prop} : (∀ z₀, snamL.post [] z₀ → Q z₀) ↔ Q (.list (snmL.map TV.str)) := ⟨fun h => h _ fun _ => rfl, fun h z₀ hr => by rw [hr rfl]; exact h⟩
theorem snam_c (k : Nat) : Contract Tryd.prog (mkEnv globT []) gtab (qmm k) snamL.pre snamL.post := Contract.env (Γ := mkEnv globT []) (qm4 (fun _ => rfl) (fun s hs => by
    cases hs) k (by
  rintro ts hl rfl
  have hfin : ∀ z₀ : TV, z₀ = .list (snmL.map TV.str) → snamL.post [] z₀ := fun z₀ hz₀ => snam_fin hz₀
  generalize snamL.post [] = R at hfin ⊢
  unfold tr_scriptcode_Names
  simp only [Tree.den, E.den, P1.den, P2.den, P3.den, qa, qb, qc, qd, qe, qf, qg, qh, zac, zab, zad, zaa, zae, TV.cell, zah, zai, zag, zaf, qi, qj, qk, ql, qm, qn, ne_eq, qo, qp, forall_eq, qs, qt, Int.reduceToNat, qu, exists_eq_left']
  exact hfin _ rfl)) rfl
def sbndL : Law := ⟨fun ts => ∃ (op : Int) (i : Int) (n : Int), ts = [.int op, .int i, .int n] ∧ (0 ≤ i ∧ i ≤ 1000000), fun ts z₀ => ∀ (op : Int) (i : Int) (n : Int), ts = [.int op, .int i, .int n] → z₀ = .agg [.int (loB op i), .int (hiB op n)]⟩
theorem sbnd_pre {op : Int} {i : Int} {n : Int} (h : 0 ≤ i ∧ i ≤ 1000000) : sbndL.pre [.int op, .int i, .int n] := ⟨op, i, n, rfl, h⟩
theorem sbnd_fin {op : Int} {i : Int} {n : Int} {z₀ : TV} (h : z₀ = .agg [.int (loB op i), .int (hiB op n)]) : sbndL.post [.int op, .int i, .int n] z₀ := fun op₁ i₁ n₁ e => by
  simp only [List.cons.injEq, TV.str.injEq, TV.int.injEq, TV.bool.injEq, TV.agg.injEq, TV.list.injEq, zat, and_true, true_and, and_assoc] at e; obtain ⟨rfl, rfl, rfl⟩ := e
  exact h
theorem sbnd_all {op : Int} {i : Int} {n : Int} {Q : TV → Prop} : (∀ z₀, sbndL.post [.int op, .int i, .int n] z₀ → Q z₀) ↔ Q (.agg [.int (loB op i), .int (hiB op n)]) := ⟨fun h => h _ (sbnd_fin rfl), fun h z₀ hr => by rw [hr _ _ _ rfl]; exact h⟩
theorem sbnd_c (k : Nat) : Contract Tryd.prog (mkEnv globT []) gtab (qml k) sbndL.pre sbndL.post := Contract.env (Γ := mkEnv globT []) (qmz (fun _ => rfl) (fun s hs => by
    cases hs) k (by
  rintro ts hl ⟨op, i, n, rfl, hp⟩
  have hfin : ∀ z₀ : TV, z₀ = .agg [.int (loB op i), .int (hiB op n)] → sbndL.post [.int op, .int i, .int n] z₀ := fun z₀ hz₀ => sbnd_fin hz₀
  generalize sbndL.post [.int op, .int i, .int n] = R at hfin ⊢
  unfold tr_scriptcode_bounds
  have e : IntKind.wrap .i64 (i + 1) = i + 1 := wrap_i64 (by omega) (by omega)
  unfold loB hiB at hfin
  simp only [Tree.den, E.den, P1.den, P2.den, P3.den, qa, qb, qc, qd, qe, qf, qg, qh, zac, zab, zad, zaa, zae, TV.cell, zah, zai, zag, zaf, qi, qj, qk, ql, qm, qn, ne_eq, qo, qp, forall_eq, qs, qt, Int.reduceToNat, qu, exists_eq_left', e]
  refine ⟨fun h1 => hfin _ ?_, fun h1 => ⟨fun h2 => hfin _ ?_, fun h2 => ⟨fun h3 => hfin _ ?_, fun h3 => hfin _ ?_⟩⟩⟩
  · rw [if_pos h1, if_pos h1]
  · rw [if_neg h1, if_neg h1, if_pos h2, if_pos h2]
  · rw [if_neg h1, if_neg h1, if_neg h2, if_neg h2, if_pos h3, if_pos h3]
  · rw [if_neg h1, if_neg h1, if_neg h2, if_neg h2, if_neg h3, if_neg h3])) rfl
def CkI' (l : List Ins) (xs : List TV) : Prop := ∃ i : Nat, xs = [.int i] ∧ i ≤ l.length ∧ chkR l.length l 0 = chkR l.length (l.drop i) i
def Ckm' (l : List Ins) (xs : List TV) : Nat := l.length - (xs.getD 0 (.int 0)).asInt.toNat
theorem ckm'_i (l : List Ins) (i : Nat) : Ckm' l [.int (i : Int)] = l.length - i := congrArg (l.length - ·) (Int.toNat_natCast i)
theorem scr_drop {l : List Ins} {i : Nat} (h : i < l.length) : l.drop i = xx l i :: l.drop (i + 1) := by
  unfold xx
  rw [List.drop_eq_getElem_cons h, List.getD_eq_getElem?_getD, List.getElem?_eq_getElem h]
  rfl
def scckL : Law := ⟨fun ts => ∃ (l : List Ins), ts = [scrT l] ∧ (True), fun ts z₀ => ∀ (l : List Ins), ts = [scrT l] → z₀ = .int (chkS l)⟩
theorem scck_pre {l : List Ins} (h : True) : scckL.pre [scrT l] := ⟨l, rfl, h⟩
theorem scck_fin {l : List Ins} {z₀ : TV} (h : z₀ = .int (chkS l)) : scckL.post [scrT l] z₀ := fun l₁ e => by
  simp only [List.cons.injEq, TV.str.injEq, TV.int.injEq, TV.bool.injEq, TV.agg.injEq, TV.list.injEq, zat, and_true, true_and, and_assoc, scrT_eq] at e; subst e
  exact h
theorem scck_all {l : List Ins} {Q : TV → Prop} : (∀ z₀, scckL.post [scrT l] z₀ → Q z₀) ↔ Q (.int (chkS l)) := ⟨fun h => h _ (scck_fin rfl), fun h z₀ hr => by rw [hr _ rfl]; exact h⟩
theorem scck_c (k : Nat) : Contract Tryd.prog (mkEnv globT []) gtab (qmy k) scckL.pre scckL.post := Contract.env (Γ := mkEnv globT [snamL, sbndL]) (qm3 (fun _ => rfl) (fun s hs => by
    simp only [cx_scriptcode_Check, List.mem_cons, List.not_mem_nil, or_false] at hs
    rcases hs with rfl | rfl
    · exact Contract.inEnv rfl (snam_c 0) rfl
    · exact Contract.inEnv rfl (sbnd_c 1) rfl) k (by
  rintro ts hl ⟨l, rfl, hp⟩
  have hfin : ∀ z₀ : TV, z₀ = .int (chkS l) → scckL.post [scrT l] z₀ := fun z₀ hz₀ => scck_fin hz₀
  generalize scckL.post [scrT l] = R at hfin ⊢
  unfold tr_scriptcode_Check
  simp only [Tree.den, E.den, P1.den, P2.den, P3.den, qa, qb, qc, qd, qe, qf, qg, qh, zac, zab, zad, zaa, zae, TV.cell, zah, zai, zag, zaf, qi, qj, qk, ql, qm, qn, ne_eq, qo, qp, forall_eq, qs, qt, Int.reduceToNat, qu, exists_eq_left', scrT_len]
  unfold chkS at hfin
  refine ⟨fun h5 => hfin _ (by rw [if_pos (by omega)]), fun h5 => ?_⟩
  rw [if_neg (by omega)] at hfin
  refine ⟨CkI' l, Ckm' l, ⟨0, rfl, by omega, rfl⟩, ?_⟩
  rintro xs _ ⟨i, rfl, hi, he⟩
  by_cases h : i < l.length
  · have e1 : IntKind.wrap .i64 ((i : Int) + 1) = ((i + 1 : Nat) : Int) := by rw [wrap_i64 (by omega) (by omega)]; omega
    have hg := scr_get h
    have hd := scr_drop h
    rw [hd, chkR] at he
    simp only [Tree.den, E.den, P1.den, P2.den, P3.den, qa, qb, qc, qd, qe, qf, qg, qh, zac, zab, zad, zaa, zae, TV.cell, zah, zai, zag, zaf, qi, qj, qk, ql, qm, qn, ne_eq, qo, qp, forall_eq, qs, qt, Int.reduceToNat, qu, exists_eq_left', zaj, zao, zaq, zan, zap, zam, zal, zar, qv, qq, qr, zak, List.cons_append, List.nil_append, Int.toNat_natCast, scrT_asList, List.length_map, hg, insT, snam_all, snm_len, snm_len', sbnd_all, e1, ckm'_i]
    have q := sbnd_pre (op := (xx l i).1) (i := i) (n := l.length) ⟨by omega, by omega⟩
    have hz : ∀ z, insE l.length i (xx l i) = z → ¬ z = 0 → TV.int z = TV.int (chkR l.length l 0) := fun z h1 h2 => by rw [he, h1, if_neg h2]
    refine ⟨fun _ => ⟨by omega, by omega, fun h1 => hfin _ (hz 9 (by unfold insE; rw [if_pos (.inl h1)]) (by decide)), fun h1 => ⟨snam_pre, fun h2 => hfin _ (hz 9 (by unfold insE; rw [if_pos (.inr (by omega))]) (by decide)), fun h2 => ⟨q, fun h3 => hfin _ (hz 2 (by unfold insE; rw [if_neg (by omega), if_pos (.inl h3)]) (by decide)), fun h3 => ⟨fun h4 => hfin _ (hz 2 (by unfold insE; rw [if_neg (by omega), if_pos (.inr h4)]) (by decide)), fun h4 => ⟨⟨i + 1, rfl, by omega, ?_⟩, by omega⟩⟩⟩⟩⟩, fun hh => absurd hh (by omega)⟩
    rw [he, if_pos (by unfold insE; rw [if_neg (by omega), if_neg (by omega)])]
  · obtain rfl : i = l.length := by omega
    rw [List.drop_length, chkR] at he
    simp only [Tree.den, E.den, P1.den, P2.den, P3.den, qa, qb, qc, qd, qe, qf, qg, qh, zac, zab, zad, zaa, zae, TV.cell, zah, zai, zag, zaf, qi, qj, qk, ql, qm, qn, ne_eq, qo, qp, forall_eq, qs, qt, Int.reduceToNat, qu, exists_eq_left', List.cons_append, List.nil_append, scrT_len]
    exact ⟨fun hh => absurd hh (by omega), fun _ => hfin _ (by rw [he])⟩)) rfl
def qbk (l : List Gl) : Bool := decide (140 < l.length) || l.any fun g => decide (40 < g.s.length)
def SmallR (l : List Gl) : Prop := l.length ≤ 140 ∧ ∀ g ∈ l, g.s.length ≤ 40
theorem small_row {l : List Gl} (h : qbk l = false) : SmallR l := by
  unfold qbk at h
  simp only [Bool.or_eq_false_iff, decide_eq_false_iff_not, List.any_eq_false, decide_eq_true_eq] at h
  exact ⟨by omega, fun g hg => by have := h.2 g hg; omega⟩
def GrI (l : List Gl) (xs : List TV) : Prop := ∃ k : Nat, xs = [.int k] ∧ k ≤ l.length ∧ (l.any fun g => decide (40 < g.s.length)) = ((l.drop k).any fun g => decide (40 < g.s.length))
def Grm (n : Nat) (xs : List TV) : Nat := n - (xs.getD 0 (.int 0)).asInt.toNat
theorem grm_i (n k : Nat) : Grm n [.int (k : Int)] = n - k := congrArg (n - ·) (Int.toNat_natCast k)
theorem gls_drop' {l : List Gl} {k : Nat} (h : k < l.length) : l.drop k = gg l k :: l.drop (k + 1) := by
  unfold gg
  rw [List.drop_eq_getElem_cons h, List.getD_eq_getElem?_getD, List.getElem?_eq_getElem h]
  rfl
def growL : Law := ⟨fun ts => ∃ (l : List Gl), ts = [glsT l] ∧ (True), fun ts z₀ => ∀ (l : List Gl), ts = [glsT l] → z₀ = .bool (qbk l)⟩
theorem grow_pre {l : List Gl} (h : True) : growL.pre [glsT l] := ⟨l, rfl, h⟩
theorem grow_fin {l : List Gl} {z₀ : TV} (h : z₀ = .bool (qbk l)) : growL.post [glsT l] z₀ := fun l₁ e => by
  simp only [List.cons.injEq, TV.str.injEq, TV.int.injEq, TV.bool.injEq, TV.agg.injEq, TV.list.injEq, zat, and_true, true_and, and_assoc, zzx] at e; subst e
  exact h
theorem grow_all {l : List Gl} {Q : TV → Prop} : (∀ z₀, growL.post [glsT l] z₀ → Q z₀) ↔ Q (.bool (qbk l)) := ⟨fun h => h _ (grow_fin rfl), fun h z₀ hr => by rw [hr _ rfl]; exact h⟩
theorem grow_c (k : Nat) : Contract Tryd.prog (mkEnv globT []) gtab (qcd k) growL.pre growL.post := Contract.env (Γ := mkEnv globT []) (qcy (fun _ => rfl) (fun s hs => by
    cases hs) k (by
  rintro ts hl ⟨l, rfl, hp⟩
  have hfin : ∀ z₀ : TV, z₀ = .bool (qbk l) → growL.post [glsT l] z₀ := fun z₀ hz₀ => grow_fin hz₀
  generalize growL.post [glsT l] = R at hfin ⊢
  unfold tr_ref15_GreatRow
  simp only [Tree.den, E.den, P1.den, P2.den, P3.den, qa, qb, qc, qd, qe, qf, qg, qh, zac, zab, zad, zaa, zae, TV.cell, zah, zai, zag, zaf, qi, qj, qk, ql, qm, qn, ne_eq, qo, qp, forall_eq, qs, qt, Int.reduceToNat, qu, exists_eq_left', zbo]
  unfold qbk at hfin
  refine ⟨fun h => hfin _ (by rw [decide_eq_true (show 140 < l.length by omega)]; rfl), fun h => ?_⟩
  rw [decide_eq_false (show ¬ 140 < l.length by omega), Bool.false_or] at hfin
  refine ⟨GrI l, Grm l.length, ⟨0, rfl, by omega, rfl⟩, ?_⟩
  rintro xs _ ⟨k, rfl, hk, he⟩
  by_cases hkl : k < l.length
  · have e1 : IntKind.wrap .i64 ((k : Int) + 1) = ((k + 1 : Nat) : Int) := by rw [wrap_i64 (by omega) (by omega)]; omega
    rw [gls_drop' hkl, List.any_cons] at he
    simp only [Tree.den, E.den, P1.den, P2.den, P3.den, qa, qb, qc, qd, qe, qf, qg, qh, zac, zab, zad, zaa, zae, TV.cell, zah, zai, zag, zaf, qi, qj, qk, ql, qm, qn, ne_eq, qo, qp, forall_eq, qs, qt, Int.reduceToNat, qu, exists_eq_left', zaj, zao, zaq, zan, zap, zam, zal, zar, qv, qq, qr, zak, List.cons_append, List.nil_append, Int.toNat_natCast, zaw, List.length_map, zi7 hkl, glT, e1, grm_i]
    refine ⟨fun _ => ⟨by omega, by omega, fun h4 => hfin _ (by rw [he, decide_eq_true (show 40 < (gg l k).s.length by omega)]; rfl), fun h4 => ⟨⟨k + 1, rfl, by omega, ?_⟩, by omega⟩⟩, fun hh => absurd hh (by omega)⟩
    rw [he, decide_eq_false (show ¬ 40 < (gg l k).s.length by omega), Bool.false_or]
  · obtain rfl : k = l.length := by omega
    rw [List.drop_length] at he
    simp only [Tree.den, E.den, P1.den, P2.den, P3.den, qa, qb, qc, qd, qe, qf, qg, qh, zac, zab, zad, zaa, zae, TV.cell, zah, zai, zag, zaf, qi, qj, qk, ql, qm, qn, ne_eq, qo, qp, forall_eq, qs, qt, Int.reduceToNat, qu, exists_eq_left', List.cons_append, List.nil_append, zbo]
    exact ⟨fun hh => absurd hh (by omega), fun _ => hfin _ (by rw [he]; rfl)⟩)) rfl
def smaB (l : List Ins) (g : List Gl) : Bool := decide (l.length ≤ 100) && !qbk g
def smaL : Law := ⟨fun ts => ∃ (l : List Ins) (g : List Gl), ts = [scrT l, glsT g] ∧ (True), fun ts z₀ => ∀ (l : List Ins) (g : List Gl), ts = [scrT l, glsT g] → z₀ = .bool (smaB l g)⟩
theorem sma_pre {l : List Ins} {g : List Gl} (h : True) : smaL.pre [scrT l, glsT g] := ⟨l, g, rfl, h⟩
theorem sma_fin {l : List Ins} {g : List Gl} {z₀ : TV} (h : z₀ = .bool (smaB l g)) : smaL.post [scrT l, glsT g] z₀ := fun l₁ g₁ e => by
  simp only [List.cons.injEq, TV.str.injEq, TV.int.injEq, TV.bool.injEq, TV.agg.injEq, TV.list.injEq, zat, and_true, true_and, and_assoc, zzx, scrT_eq] at e; obtain ⟨rfl, rfl⟩ := e
  exact h
theorem sma_all {l : List Ins} {g : List Gl} {Q : TV → Prop} : (∀ z₀, smaL.post [scrT l, glsT g] z₀ → Q z₀) ↔ Q (.bool (smaB l g)) := ⟨fun h => h _ (sma_fin rfl), fun h z₀ hr => by rw [hr _ _ rfl]; exact h⟩
theorem sma_c (k : Nat) : Contract Tryd.prog (mkEnv globT []) gtab (qmk k) smaL.pre smaL.post := Contract.env (Γ := mkEnv globT [growL]) (qnu (fun _ => rfl) (fun s hs => by
    simp only [cx_narratortop_smallScript, List.mem_cons, List.not_mem_nil, or_false] at hs
    rcases hs with rfl
    · exact Contract.inEnv rfl (grow_c 0) rfl) k (by
  rintro ts hl ⟨l, g, rfl, hp⟩
  have hfin : ∀ z₀ : TV, z₀ = .bool (smaB l g) → smaL.post [scrT l, glsT g] z₀ := fun z₀ hz₀ => sma_fin hz₀
  generalize smaL.post [scrT l, glsT g] = R at hfin ⊢
  unfold tr_narratortop_smallScript
  unfold smaB at hfin
  simp only [Tree.den, E.den, P1.den, P2.den, P3.den, qa, qb, qc, qd, qe, qf, qg, qh, zac, zab, zad, zaa, zae, TV.cell, zah, zai, zag, zaf, qi, qj, qk, ql, qm, qn, ne_eq, qo, qp, forall_eq, qs, qt, Int.reduceToNat, qu, exists_eq_left', scrT_len, grow_all]
  exact ⟨fun h => ⟨grow_pre trivial, hfin _ (by rw [decide_eq_true (show l.length ≤ 100 by omega), Bool.true_and])⟩, fun h => hfin _ (by rw [decide_eq_false (show ¬ l.length ≤ 100 by omega), Bool.false_and])⟩)) rfl
end Go.Proofs.YtlhagkbhojmjpaaDoor

/- Cells and terminals; the contracts of packages narratorref07, narratorref15, view about them. -/
import Derived.Test.YtlhagkbhojmjpaaDoorV1
import Derived.Test.YtlhagkbhojmjpaaDoorMh
import Derived.Test.YtlhagkbhojmjpaaDoorSpl
namespace Go.Proofs.YtlhagkbhojmjpaaDoor
set_option linter.unusedSimpArgs false
set_option linter.unusedVariables false
set_option linter.unusedSectionVars false

structure Zl where
  s : List UInt8
  w : Int
  f : Int
  b : Int
  g : Int
instance : Inhabited Zl := ⟨⟨[], 0, 0, 0, 0⟩⟩
def clT (c : Zl) : TV := .agg [.str c.s, .int c.w, .int c.f, .int c.b, .int c.g]
def clsT (l : List Zl) : TV := .list (l.map clT)
def rwsT (r : List (List Zl)) : TV := .list (r.map clsT)
def clOf (u : TV) : Zl := ⟨(u.cell 0).asStr, (u.cell 1).asInt, (u.cell 2).asInt, (u.cell 3).asInt, (u.cell 4).asInt⟩
def clsOf (u : TV) : List Zl := u.asList.map clOf
def rwsOf (u : TV) : List (List Zl) := u.asList.map clsOf
theorem clOf_T (c : Zl) : clOf (clT c) = c := rfl
theorem clsOf_T (l : List Zl) : clsOf (clsT l) = l := by
  unfold clsOf clsT
  simp only [TV.asList, List.map_map, Function.comp_def, clOf_T, List.map_id']
theorem rwsOf_T (r : List (List Zl)) : rwsOf (rwsT r) = r := by
  unfold rwsOf rwsT
  simp only [TV.asList, List.map_map, Function.comp_def, clsOf_T, List.map_id']
theorem clsT_eq {a b : List Zl} : clsT a = clsT b ↔ a = b := ⟨fun h => by rw [← clsOf_T a, h, clsOf_T], fun h => by rw [h]⟩

theorem qpn (l : List Zl) : (clsT l).asList = l.map clT := rfl
theorem clsT_len (l : List Zl) : (clsT l).asList.length = l.length := by rw [qpn, List.length_map]
theorem qpo (r : List (List Zl)) : (rwsT r).asList = r.map clsT := rfl
theorem rwsT_len (r : List (List Zl)) : (rwsT r).asList.length = r.length := by rw [qpo, List.length_map]
def cc (l : List Zl) (i : Nat) : Zl := l.getD i default
def rw' (r : List (List Zl)) (i : Nat) : List Zl := r.getD i []
theorem cls_get {l : List Zl} {i : Nat} (h : i < l.length) : (l.map clT).getD i (.int 0) = clT (cc l i) := by
  unfold cc
  rw [List.getD_eq_getElem?_getD, List.getElem?_map, List.getD_eq_getElem?_getD, List.getElem?_eq_getElem h]
  rfl
theorem rws_get {r : List (List Zl)} {i : Nat} (h : i < r.length) : (r.map clsT).getD i (.int 0) = clsT (rw' r i) := by
  unfold rw'
  rw [List.getD_eq_getElem?_getD, List.getElem?_map, List.getD_eq_getElem?_getD, List.getElem?_eq_getElem h]
  rfl
theorem cls_drop {l : List Zl} {k : Nat} (h : k < l.length) : l.drop k = cc l k :: l.drop (k + 1) := by
  unfold cc
  rw [List.drop_eq_getElem_cons h, List.getD_eq_getElem?_getD, List.getElem?_eq_getElem h]
  rfl
theorem rws_drop {r : List (List Zl)} {k : Nat} (h : k < r.length) : r.drop k = rw' r k :: r.drop (k + 1) := by
  unfold rw'
  rw [List.drop_eq_getElem_cons h, List.getD_eq_getElem?_getD, List.getElem?_eq_getElem h]
  rfl
theorem rw_mem {r : List (List Zl)} {k : Nat} (h : k < r.length) : rw' r k ∈ r := by
  unfold rw'
  rw [List.getD_eq_getElem?_getD, List.getElem?_eq_getElem h]
  exact List.getElem_mem h
theorem cc_mem {r : List Zl} {k : Nat} (h : k < r.length) : cc r k ∈ r := by
  unfold cc
  rw [List.getD_eq_getElem?_getD, List.getElem?_eq_getElem h]
  exact List.getElem_mem h

def qpm (l : List Zl) : Bool := decide (140 < l.length) || l.any fun c => decide (40 < c.s.length)
def G7I (l : List Zl) (xs : List TV) : Prop := ∃ k : Nat, xs = [.int k] ∧ k ≤ l.length ∧ (l.any fun c => decide (40 < c.s.length)) = ((l.drop k).any fun c => decide (40 < c.s.length))
def g7L : Law := ⟨fun ts => ∃ (l : List Zl), ts = [clsT l] ∧ (True), fun ts z₀ => ∀ (l : List Zl), ts = [clsT l] → z₀ = .bool (qpm l)⟩
theorem g7_pre {l : List Zl} (h : True) : g7L.pre [clsT l] := ⟨l, rfl, h⟩
theorem g7_fin {l : List Zl} {z₀ : TV} (h : z₀ = .bool (qpm l)) : g7L.post [clsT l] z₀ := fun l₁ e => by
  simp only [List.cons.injEq, TV.str.injEq, TV.int.injEq, TV.bool.injEq, TV.agg.injEq, TV.list.injEq, zat, and_true, true_and, and_assoc, clsT_eq] at e; subst e
  exact h
theorem g7_all {l : List Zl} {Q : TV → Prop} : (∀ z₀, g7L.post [clsT l] z₀ → Q z₀) ↔ Q (.bool (qpm l)) := ⟨fun h => h _ (g7_fin rfl), fun h z₀ hr => by rw [hr _ rfl]; exact h⟩
theorem g7_c (k : Nat) : Contract Tryd.prog (mkEnv globT []) gtabU (qoa k) g7L.pre g7L.post := Contract.env (Γ := mkEnv globT []) (qo1 (fun _ => rfl) (fun s hs => by
    cases hs) k (by
  rintro ts hl ⟨l, rfl, hp⟩
  have hfin : ∀ z₀ : TV, z₀ = .bool (qpm l) → g7L.post [clsT l] z₀ := fun z₀ hz₀ => g7_fin hz₀
  generalize g7L.post [clsT l] = R at hfin ⊢
  unfold tr_ref07_Great
  simp only [Tree.den, E.den, P1.den, P2.den, P3.den, qa, qb, qc, qd, qe, qf, qg, qh, zac, zab, zad, zaa, zae, TV.cell, zah, zai, zag, zaf, qi, qj, qk, ql, qm, qn, ne_eq, qo, qp, forall_eq, qs, qt, Int.reduceToNat, qu, exists_eq_left', clsT_len]
  unfold qpm at hfin
  refine ⟨fun h => hfin _ (by rw [decide_eq_true (show 140 < l.length by omega)]; rfl), fun h => ?_⟩
  rw [decide_eq_false (show ¬ 140 < l.length by omega), Bool.false_or] at hfin
  refine ⟨G7I l, Grm l.length, ⟨0, rfl, by omega, rfl⟩, ?_⟩
  rintro xs _ ⟨k, rfl, hk, he⟩
  by_cases hkl : k < l.length
  · have e1 : IntKind.wrap .i64 ((k : Int) + 1) = ((k + 1 : Nat) : Int) := by rw [wrap_i64 (by omega) (by omega)]; omega
    rw [cls_drop hkl, List.any_cons] at he
    simp only [Tree.den, E.den, P1.den, P2.den, P3.den, qa, qb, qc, qd, qe, qf, qg, qh, zac, zab, zad, zaa, zae, TV.cell, zah, zai, zag, zaf, qi, qj, qk, ql, qm, qn, ne_eq, qo, qp, forall_eq, qs, qt, Int.reduceToNat, qu, exists_eq_left', zaj, zao, zaq, zan, zap, zam, zal, zar, qv, qq, qr, zak, List.cons_append, List.nil_append, Int.toNat_natCast, qpn, List.length_map, cls_get hkl, clT, e1, grm_i]
    refine ⟨fun _ => ⟨by omega, by omega, fun h4 => hfin _ (by rw [he, decide_eq_true (show 40 < (cc l k).s.length by omega)]; rfl), fun h4 => ⟨⟨k + 1, rfl, by omega, ?_⟩, by omega⟩⟩, fun hh => absurd hh (by omega)⟩
    rw [he, decide_eq_false (show ¬ 40 < (cc l k).s.length by omega), Bool.false_or]
  · obtain rfl : k = l.length := by omega
    rw [List.drop_length] at he
    simp only [Tree.den, E.den, P1.den, P2.den, P3.den, qa, qb, qc, qd, qe, qf, qg, qh, zac, zab, zad, zaa, zae, TV.cell, zah, zai, zag, zaf, qi, qj, qk, ql, qm, qn, ne_eq, qo, qp, forall_eq, qs, qt, Int.reduceToNat, qu, exists_eq_left', List.cons_append, List.nil_append, clsT_len]
    exact ⟨fun hh => absurd hh (by omega), fun _ => hfin _ (by rw [he]; rfl)⟩)) rfl

structure TermOk (t : TV) : Prop where
  u : ∃ us : List TV, t = .agg us ∧ us.length = 42
  r : t.cells.getD 2 (.int 0) = rwsT (rwsOf (t.cells.getD 2 (.int 0)))
  w : t.cells.getD 0 (.int 0) = .int (t.cells.getD 0 (.int 0)).asInt
  h : t.cells.getD 1 (.int 0) = .int (t.cells.getD 1 (.int 0)).asInt
def rowsQ (t : TV) : List (List Zl) := rwsOf (t.cells.getD 2 (.int 0))
def intQ (t : TV) (i : Nat) : Int := (t.cells.getD i (.int 0)).asInt
def largeB (r : List (List Zl)) : Bool := decide (12 < r.length) || r.any qpm
def LgI (r : List (List Zl)) (xs : List TV) : Prop := ∃ k : Nat, xs = [.int k] ∧ k ≤ r.length ∧ r.any qpm = (r.drop k).any qpm
def lgL : Law := ⟨fun ts => ∃ (t : TV), ts = [t] ∧ (TermOk t), fun ts z₀ => ∀ (t : TV), ts = [t] → z₀ = .bool (largeB (rowsQ t))⟩
theorem lg_pre {t : TV} (h : TermOk t) : lgL.pre [t] := ⟨t, rfl, h⟩
theorem lg_fin {t : TV} {z₀ : TV} (h : z₀ = .bool (largeB (rowsQ t))) : lgL.post [t] z₀ := fun t₁ e => by
  simp only [List.cons.injEq, TV.str.injEq, TV.int.injEq, TV.bool.injEq, TV.agg.injEq, TV.list.injEq, zat, and_true, true_and, and_assoc] at e; subst e
  exact h
theorem lg_all {t : TV} {Q : TV → Prop} : (∀ z₀, lgL.post [t] z₀ → Q z₀) ↔ Q (.bool (largeB (rowsQ t))) := ⟨fun h => h _ (lg_fin rfl), fun h z₀ hr => by rw [hr _ rfl]; exact h⟩
theorem lg_c (k : Nat) : Contract Tryd.prog (mkEnv globT []) gtabU (qof k) lgL.pre lgL.post := Contract.env (Γ := mkEnv globT [g7L]) (qo3 (fun _ => rfl) (fun s hs => by
    simp only [cx_ref15_Large, List.mem_cons, List.not_mem_nil, or_false] at hs
    rcases hs with rfl
    · exact Contract.inEnv rfl (g7_c 0) rfl) k (by
  rintro ts hl ⟨t, rfl, hp⟩
  have hfin : ∀ z₀ : TV, z₀ = .bool (largeB (rowsQ t)) → lgL.post [t] z₀ := fun z₀ hz₀ => lg_fin hz₀
  generalize lgL.post [t] = R at hfin ⊢
  unfold tr_ref15_Large
  obtain ⟨r, hr⟩ : ∃ r, rowsQ t = r := ⟨_, rfl⟩
  have ht : t.cells.getD 2 (.int 0) = rwsT r := by rw [← hr]; exact hp.r
  rw [hr] at hfin
  simp only [Tree.den, E.den, P1.den, P2.den, P3.den, qa, qb, qc, qd, qe, qf, qg, qh, zac, zab, zad, zaa, zae, TV.cell, zah, zai, zag, zaf, qi, qj, qk, ql, qm, qn, ne_eq, qo, qp, forall_eq, qs, qt, Int.reduceToNat, qu, exists_eq_left', ht, rwsT_len]
  unfold largeB at hfin
  refine ⟨fun h => hfin _ (by rw [decide_eq_true (show 12 < r.length by omega)]; rfl), fun h => ?_⟩
  rw [decide_eq_false (show ¬ 12 < r.length by omega), Bool.false_or] at hfin
  refine ⟨LgI r, Grm r.length, ⟨0, rfl, by omega, rfl⟩, ?_⟩
  rintro xs _ ⟨k, rfl, hk, he⟩
  by_cases hkl : k < r.length
  · have e1 : IntKind.wrap .i64 ((k : Int) + 1) = ((k + 1 : Nat) : Int) := by rw [wrap_i64 (by omega) (by omega)]; omega
    rw [rws_drop hkl, List.any_cons] at he
    simp only [Tree.den, E.den, P1.den, P2.den, P3.den, qa, qb, qc, qd, qe, qf, qg, qh, zac, zab, zad, zaa, zae, TV.cell, zah, zai, zag, zaf, qi, qj, qk, ql, qm, qn, ne_eq, qo, qp, forall_eq, qs, qt, Int.reduceToNat, qu, exists_eq_left', zaj, zao, zaq, zan, zap, zam, zal, zar, qv, qq, qr, zak, List.cons_append, List.nil_append, Int.toNat_natCast, ht, qpo, List.length_map, rws_get hkl, g7_all, e1, grm_i]
    refine ⟨fun _ => ⟨by omega, by omega, g7_pre trivial, fun h4 => hfin _ (by rw [he, h4]; rfl), fun h4 => ⟨⟨k + 1, rfl, by omega, ?_⟩, by omega⟩⟩, fun hh => absurd hh (by omega)⟩
    rw [he, show qpm (rw' r k) = false by simpa using h4, Bool.false_or]
  · obtain rfl : k = r.length := by omega
    rw [List.drop_length] at he
    simp only [Tree.den, E.den, P1.den, P2.den, P3.den, qa, qb, qc, qd, qe, qf, qg, qh, zac, zab, zad, zaa, zae, TV.cell, zah, zai, zag, zaf, qi, qj, qk, ql, qm, qn, ne_eq, qo, qp, forall_eq, qs, qt, Int.reduceToNat, qu, exists_eq_left', List.cons_append, List.nil_append, ht, rwsT_len]
    exact ⟨fun hh => absurd hh (by omega), fun _ => hfin _ (by rw [he]; rfl)⟩)) rfl

def nulT (c d : Zl) : TV := if d.s = [] then if d.w = 0 then if (if d.f = c.f then if d.b = c.b then if d.g = c.g then TV.bool true else TV.bool false else TV.bool false else TV.bool false).asBool = true then TV.bool true else TV.bool false else TV.bool false else TV.bool false
def nulB (c d : Zl) : Bool := (nulT c d).asBool
def badC (c : Zl) : Int := if c.w ≠ 1 ∧ c.w ≠ 2 then 12 else if zbf c.s ≠ 0 then 3 else if zc7 c.s ≠ c.w then 12 else 0
theorem bad12 {c : Zl} (h : ¬ c.w = 1) (h' : ¬ c.w = 2) : badC c = 12 := if_pos ⟨h, h'⟩
theorem bad3 {c : Zl} (h : c.w = 1 ∨ c.w = 2) (h' : ¬ zbf c.s = 0) : badC c = 3 := by unfold badC; rw [if_neg (fun k => h.elim k.1 k.2), if_pos h']
theorem badw {c : Zl} (h : c.w = 1 ∨ c.w = 2) (h' : zbf c.s = 0) (k : ¬ zc7 c.s = c.w) : badC c = 12 := by unfold badC; rw [if_neg (fun k => h.elim k.1 k.2), if_neg (fun k => k h'), if_pos k]
theorem bad0 {c : Zl} (h : c.w = 1 ∨ c.w = 2) (h' : zbf c.s = 0) (k : zc7 c.s = c.w) : badC c = 0 := by unfold badC; rw [if_neg (fun k => h.elim k.1 k.2), if_neg (fun k => k h'), if_neg (fun q => q k)]
def chkC : List Zl → Int
  | [] => 0
  | [c] => if badC c ≠ 0 then badC c else if c.w = 2 then 12 else 0
  | c :: d :: l => if badC c ≠ 0 then badC c else if c.w = 2 then (if nulB c d = true then chkC l else 12) else chkC (d :: l)
def rwE (l : List Zl) : Int := if l.length < 1 ∨ 132 < l.length then 5 else chkC l
theorem chkC_step {l : List Zl} {k : Nat} (h : k < l.length) : chkC (l.drop k) = if badC (cc l k) ≠ 0 then badC (cc l k) else if (cc l k).w = 2 then (if k + 1 < l.length then (if nulB (cc l k) (cc l (k + 1)) = true then chkC (l.drop (k + 2)) else 12) else 12) else chkC (l.drop (k + 1)) := by
  rw [cls_drop h]
  by_cases h1 : k + 1 < l.length
  · rw [cls_drop h1, chkC, if_pos h1]
  · have : l.drop (k + 1) = [] := List.drop_eq_nil_of_le (by omega)
    rw [this, chkC, if_neg h1]
    rfl
def CkC (l : List Zl) (xs : List TV) : Prop := ∃ k : Nat, xs = [.int k] ∧ k ≤ l.length ∧ chkC l = chkC (l.drop k)
def rrowL : Law := ⟨fun ts => ∃ (l : List Zl), ts = [clsT l] ∧ (∀ c ∈ l, c.s.length ≤ 1000000), fun ts z₀ => ∀ (l : List Zl), ts = [clsT l] → z₀ = .int (rwE l)⟩
theorem rrow_pre {l : List Zl} (h : ∀ c ∈ l, c.s.length ≤ 1000000) : rrowL.pre [clsT l] := ⟨l, rfl, h⟩
theorem rrow_fin {l : List Zl} {z₀ : TV} (h : z₀ = .int (rwE l)) : rrowL.post [clsT l] z₀ := fun l₁ e => by
  simp only [List.cons.injEq, TV.str.injEq, TV.int.injEq, TV.bool.injEq, TV.agg.injEq, TV.list.injEq, zat, and_true, true_and, and_assoc, clsT_eq] at e; subst e
  exact h
theorem rrow_all {l : List Zl} {Q : TV → Prop} : (∀ z₀, rrowL.post [clsT l] z₀ → Q z₀) ↔ Q (.int (rwE l)) := ⟨fun h => h _ (rrow_fin rfl), fun h z₀ hr => by rw [hr _ rfl]; exact h⟩
theorem rrow_c (k : Nat) : Contract Tryd.prog (mkEnv globT []) gtabU (sn_ref07_Check k) rrowL.pre rrowL.post := Contract.env (Γ := mkEnv globT [rcheckL, rcwL]) (contract_ref07_Check (fun _ => rfl) (fun s hs => by
    simp only [cx_ref07_Check, List.mem_cons, List.not_mem_nil, or_false] at hs
    rcases hs with rfl | rfl
    · exact Contract.inEnv rfl (z66 0) rfl
    · exact Contract.inEnv rfl (rcw_c 1) rfl) k (by
  rintro ts hl ⟨l, rfl, hp⟩
  have hfin : ∀ z₀ : TV, z₀ = .int (rwE l) → rrowL.post [clsT l] z₀ := fun z₀ hz₀ => rrow_fin hz₀
  generalize rrowL.post [clsT l] = R at hfin ⊢
  unfold tr_ref07_Check
  simp only [Tree.den, E.den, P1.den, P2.den, P3.den, qa, qb, qc, qd, qe, qf, qg, qh, zac, zab, zad, zaa, zae, TV.cell, zah, zai, zag, zaf, qi, qj, qk, ql, qm, qn, ne_eq, qo, qp, forall_eq, qs, qt, Int.reduceToNat, qu, exists_eq_left', clsT_len]
  unfold rwE at hfin
  refine ⟨fun h => hfin _ (by rw [if_pos (.inl (by omega))]), fun h => ⟨fun h' => hfin _ (by rw [if_pos (.inr (by omega))]), fun h' => ?_⟩⟩
  rw [if_neg (by omega)] at hfin
  refine ⟨CkC l, Grm l.length, ⟨0, rfl, by omega, rfl⟩, ?_⟩
  rintro xs _ ⟨k, rfl, hk, he⟩
  by_cases hkl : k < l.length
  · have e1 : IntKind.wrap .i64 ((k : Int) + 1) = ((k + 1 : Nat) : Int) := by rw [wrap_i64 (by omega) (by omega)]; omega
    have e2 : IntKind.wrap .i64 (((k + 1 : Nat) : Int) + 1) = ((k + 2 : Nat) : Int) := by rw [wrap_i64 (by omega) (by omega)]; omega
    have q := hp _ (cc_mem hkl)
    rw [chkC_step hkl] at he
    have hz : ∀ z, badC (cc l k) = z → ¬ z = 0 → TV.int z = TV.int (chkC l) := fun z h1 h2 => by rw [he, h1, if_pos h2]
    have one : badC (cc l k) = 0 → (cc l k).w = 1 → chkC l = chkC (l.drop (k + 1)) := fun h1 h2 => by rw [he, h1, if_neg (by decide), if_neg (by omega)]
    have hnat : ((k + 1 : Nat) : Int) = k + 1 := by omega
    by_cases h1 : k + 1 < l.length
    · have two : badC (cc l k) = 0 → (cc l k).w = 2 → nulB (cc l k) (cc l (k + 1)) = true → chkC l = chkC (l.drop (k + 2)) := fun a b c => by rw [he, a, if_neg (by decide), if_pos b, if_pos h1, if_pos c]
      have bad : badC (cc l k) = 0 → (cc l k).w = 2 → nulB (cc l k) (cc l (k + 1)) = false → TV.int 12 = TV.int (chkC l) := fun a b c => by rw [he, a, if_neg (by decide), if_pos b, if_pos h1, if_neg (by rw [c]; decide)]
      simp only [Tree.den, E.den, P1.den, P2.den, P3.den, qa, qb, qc, qd, qe, qf, qg, qh, zac, zab, zad, zaa, zae, TV.cell, zah, zai, zag, zaf, qi, qj, qk, ql, qm, qn, ne_eq, qo, qp, forall_eq, qs, qt, Int.reduceToNat, qu, exists_eq_left', zaj, zao, zaq, zan, zap, zam, zal, zar, qv, qq, qr, zak, List.cons_append, List.nil_append, Int.toNat_natCast, qpn, List.length_map, cls_get hkl, cls_get h1, clT, e1, e2, zw8, qbx, grm_i]
      refine ⟨fun _ => ⟨by omega, by omega, fun w1 => ⟨fun w2 => hfin _ (hz 12 (bad12 w1 w2) (by decide)), fun w2 => ⟨by omega, by omega, zxg q, fun c0 => hfin _ (hz 3 (bad3 (.inr w2) c0) (by decide)), fun c0 => ⟨by omega, by omega, qbw q, fun d0 => hfin _ (hz 12 (badw (.inr w2) c0 d0) (by decide)), fun d0 => ⟨fun w1' => absurd w1' w1, fun _ => ⟨fun hh => absurd hh (by omega), fun _ => ⟨by omega, by omega, by omega, by omega, fun hn => hfin _ (bad (bad0 (.inr w2) c0 d0) w2 hn), fun hn => ⟨⟨k + 2, rfl, by omega, two (bad0 (.inr w2) c0 d0) w2 hn⟩, by omega⟩⟩⟩⟩⟩⟩⟩,
        fun w1 => ⟨by omega, by omega, zxg q, fun c0 => hfin _ (hz 3 (bad3 (.inl w1) c0) (by decide)), fun c0 => ⟨by omega, by omega, qbw q, fun d0 => hfin _ (hz 12 (badw (.inl w1) c0 d0) (by decide)), fun d0 => ⟨fun _ => ⟨⟨k + 1, rfl, by omega, one (bad0 (.inl w1) c0 d0) w1⟩, by omega⟩, fun w1' => absurd w1 w1'⟩⟩⟩⟩, fun hh => absurd hh (by omega)⟩
    · have bad : badC (cc l k) = 0 → (cc l k).w = 2 → TV.int 12 = TV.int (chkC l) := fun a b => by rw [he, a, if_neg (by decide), if_pos b, if_neg h1]
      simp only [Tree.den, E.den, P1.den, P2.den, P3.den, qa, qb, qc, qd, qe, qf, qg, qh, zac, zab, zad, zaa, zae, TV.cell, zah, zai, zag, zaf, qi, qj, qk, ql, qm, qn, ne_eq, qo, qp, forall_eq, qs, qt, Int.reduceToNat, qu, exists_eq_left', zaj, zao, zaq, zan, zap, zam, zal, zar, qv, qq, qr, zak, List.cons_append, List.nil_append, Int.toNat_natCast, qpn, List.length_map, cls_get hkl, clT, e1, e2, zw8, qbx, grm_i]
      refine ⟨fun _ => ⟨by omega, by omega, fun w1 => ⟨fun w2 => hfin _ (hz 12 (bad12 w1 w2) (by decide)), fun w2 => ⟨by omega, by omega, zxg q, fun c0 => hfin _ (hz 3 (bad3 (.inr w2) c0) (by decide)), fun c0 => ⟨by omega, by omega, qbw q, fun d0 => hfin _ (hz 12 (badw (.inr w2) c0 d0) (by decide)), fun d0 => ⟨fun w1' => absurd w1' w1, fun _ => ⟨fun hh => hfin _ (bad (bad0 (.inr w2) c0 d0) w2), fun hh => absurd (by omega) hh⟩⟩⟩⟩⟩,
        fun w1 => ⟨by omega, by omega, zxg q, fun c0 => hfin _ (hz 3 (bad3 (.inl w1) c0) (by decide)), fun c0 => ⟨by omega, by omega, qbw q, fun d0 => hfin _ (hz 12 (badw (.inl w1) c0 d0) (by decide)), fun d0 => ⟨fun _ => ⟨⟨k + 1, rfl, by omega, one (bad0 (.inl w1) c0 d0) w1⟩, by omega⟩, fun w1' => absurd w1 w1'⟩⟩⟩⟩, fun hh => absurd hh (by omega)⟩
  · obtain rfl : k = l.length := by omega
    rw [List.drop_length] at he
    simp only [Tree.den, E.den, P1.den, P2.den, P3.den, qa, qb, qc, qd, qe, qf, qg, qh, zac, zab, zad, zaa, zae, TV.cell, zah, zai, zag, zaf, qi, qj, qk, ql, qm, qn, ne_eq, qo, qp, forall_eq, qs, qt, Int.reduceToNat, qu, exists_eq_left', List.cons_append, List.nil_append, clsT_len]
    exact ⟨fun hh => absurd hh (by omega), fun _ => hfin _ (by rw [he]; rfl)⟩)) rfl
def crowL : Law := ⟨fun ts => ∃ (l : List Zl), ts = [clsT l] ∧ (∀ c ∈ l, c.s.length ≤ 1000000), fun ts z₀ => ∀ (l : List Zl), ts = [clsT l] → z₀ = .int (rwE l)⟩
theorem crow_pre {l : List Zl} (h : ∀ c ∈ l, c.s.length ≤ 1000000) : crowL.pre [clsT l] := ⟨l, rfl, h⟩
theorem crow_fin {l : List Zl} {z₀ : TV} (h : z₀ = .int (rwE l)) : crowL.post [clsT l] z₀ := fun l₁ e => by
  simp only [List.cons.injEq, TV.str.injEq, TV.int.injEq, TV.bool.injEq, TV.agg.injEq, TV.list.injEq, zat, and_true, true_and, and_assoc, clsT_eq] at e; subst e
  exact h
theorem crow_all {l : List Zl} {Q : TV → Prop} : (∀ z₀, crowL.post [clsT l] z₀ → Q z₀) ↔ Q (.int (rwE l)) := ⟨fun h => h _ (crow_fin rfl), fun h z₀ hr => by rw [hr _ rfl]; exact h⟩
theorem crow_c (k : Nat) : Contract Tryd.prog (mkEnv globT []) gtabU (qpc k) crowL.pre crowL.post := Contract.env (Γ := mkEnv globT [checkL, cwidthL]) (contract_cellrow_Check (fun _ => rfl) (fun s hs => by
    simp only [cx_cellrow_Check, List.mem_cons, List.not_mem_nil, or_false] at hs
    rcases hs with rfl | rfl
    · exact Contract.inEnv rfl (check_c 0) rfl
    · exact Contract.inEnv rfl (cwidth_c 1) rfl) k (by
  rintro ts hl ⟨l, rfl, hp⟩
  have hfin : ∀ z₀ : TV, z₀ = .int (rwE l) → crowL.post [clsT l] z₀ := fun z₀ hz₀ => crow_fin hz₀
  generalize crowL.post [clsT l] = R at hfin ⊢
  unfold tr_cellrow_Check
  simp only [Tree.den, E.den, P1.den, P2.den, P3.den, qa, qb, qc, qd, qe, qf, qg, qh, zac, zab, zad, zaa, zae, TV.cell, zah, zai, zag, zaf, qi, qj, qk, ql, qm, qn, ne_eq, qo, qp, forall_eq, qs, qt, Int.reduceToNat, qu, exists_eq_left', clsT_len]
  unfold rwE at hfin
  refine ⟨fun h => hfin _ (by rw [if_pos (.inl (by omega))]), fun h => ⟨fun h' => hfin _ (by rw [if_pos (.inr (by omega))]), fun h' => ?_⟩⟩
  rw [if_neg (by omega)] at hfin
  refine ⟨CkC l, Grm l.length, ⟨0, rfl, by omega, rfl⟩, ?_⟩
  rintro xs _ ⟨k, rfl, hk, he⟩
  by_cases hkl : k < l.length
  · have q := hp _ (cc_mem hkl)
    rw [chkC_step hkl] at he
    have hz : ∀ z, badC (cc l k) = z → ¬ z = 0 → TV.int z = TV.int (chkC l) := fun z h1 h2 => by rw [he, h1, if_pos h2]
    have one : badC (cc l k) = 0 → (cc l k).w = 1 → chkC l = chkC (l.drop (k + 1)) := fun h1 h2 => by rw [he, h1, if_neg (by decide), if_neg (by omega)]
    have e1 : IntKind.wrap .i64 ((k : Int) + 1) = ((k + 1 : Nat) : Int) := by rw [wrap_i64 (by omega) (by omega)]; omega
    by_cases w2 : (cc l k).w = 2
    · have e2 : IntKind.wrap .i64 ((k : Int) + 2) = ((k + 2 : Nat) : Int) := by rw [wrap_i64 (by omega) (by omega)]; omega
      by_cases h1 : k + 1 < l.length
      · have two : badC (cc l k) = 0 → nulB (cc l k) (cc l (k + 1)) = true → chkC l = chkC (l.drop (k + 2)) := fun a c => by rw [he, a, if_neg (by decide), if_pos w2, if_pos h1, if_pos c]
        have bad : badC (cc l k) = 0 → nulB (cc l k) (cc l (k + 1)) = false → TV.int 12 = TV.int (chkC l) := fun a c => by rw [he, a, if_neg (by decide), if_pos w2, if_pos h1, if_neg (by rw [c]; decide)]
        simp only [Tree.den, E.den, P1.den, P2.den, P3.den, qa, qb, qc, qd, qe, qf, qg, qh, zac, zab, zad, zaa, zae, TV.cell, zah, zai, zag, zaf, qi, qj, qk, ql, qm, qn, ne_eq, qo, qp, forall_eq, qs, qt, Int.reduceToNat, qu, exists_eq_left', zaj, zao, zaq, zan, zap, zam, zal, zar, qv, qq, qr, zak, List.cons_append, List.nil_append, Int.toNat_natCast, qpn, List.length_map, cls_get hkl, cls_get h1, clT, e1, w2, e2, z93, z3x, grm_i]
        refine ⟨fun _ => ⟨by omega, by omega, fun _ => ⟨fun h => absurd trivial h, fun _ => ⟨qa2 q, fun c0 => hfin _ (hz 3 (bad3 (.inr w2) c0) (by decide)), fun c0 => ⟨z2z q, fun d0 => hfin _ (hz 12 (badw (.inr w2) c0 (by rw [w2]; exact d0)) (by decide)), fun d0 => ⟨fun _ => ⟨fun hh => absurd hh (by omega), fun _ => ⟨by omega, by omega, fun hn => hfin _ (bad (bad0 (.inr w2) c0 (by rw [w2]; exact d0)) hn), fun hn => ⟨⟨k + 2, rfl, by omega, two (bad0 (.inr w2) c0 (by rw [w2]; exact d0)) hn⟩, by omega⟩⟩⟩, fun h => absurd trivial h⟩⟩⟩⟩, fun h => absurd h (by decide)⟩, fun hh => absurd hh (by omega)⟩
      · have bad : badC (cc l k) = 0 → TV.int 12 = TV.int (chkC l) := fun a => by rw [he, a, if_neg (by decide), if_pos w2, if_neg h1]
        simp only [Tree.den, E.den, P1.den, P2.den, P3.den, qa, qb, qc, qd, qe, qf, qg, qh, zac, zab, zad, zaa, zae, TV.cell, zah, zai, zag, zaf, qi, qj, qk, ql, qm, qn, ne_eq, qo, qp, forall_eq, qs, qt, Int.reduceToNat, qu, exists_eq_left', zaj, zao, zaq, zan, zap, zam, zal, zar, qv, qq, qr, zak, List.cons_append, List.nil_append, Int.toNat_natCast, qpn, List.length_map, cls_get hkl, clT, e1, w2, e2, z93, z3x, grm_i]
        refine ⟨fun _ => ⟨by omega, by omega, fun _ => ⟨fun h => absurd trivial h, fun _ => ⟨qa2 q, fun c0 => hfin _ (hz 3 (bad3 (.inr w2) c0) (by decide)), fun c0 => ⟨z2z q, fun d0 => hfin _ (hz 12 (badw (.inr w2) c0 (by rw [w2]; exact d0)) (by decide)), fun d0 => ⟨fun _ => ⟨fun hh => hfin _ (bad (bad0 (.inr w2) c0 (by rw [w2]; exact d0))), fun hh => absurd (by omega) hh⟩, fun h => absurd trivial h⟩⟩⟩⟩, fun h => absurd h (by decide)⟩, fun hh => absurd hh (by omega)⟩
    · by_cases w1 : (cc l k).w = 1
      · simp only [Tree.den, E.den, P1.den, P2.den, P3.den, qa, qb, qc, qd, qe, qf, qg, qh, zac, zab, zad, zaa, zae, TV.cell, zah, zai, zag, zaf, qi, qj, qk, ql, qm, qn, ne_eq, qo, qp, forall_eq, qs, qt, Int.reduceToNat, qu, exists_eq_left', zaj, zao, zaq, zan, zap, zam, zal, zar, qv, qq, qr, zak, List.cons_append, List.nil_append, Int.toNat_natCast, qpn, List.length_map, cls_get hkl, clT, e1, w1, z93, z3x, grm_i]
        refine ⟨fun _ => ⟨by omega, by omega, fun h => absurd trivial h, fun _ => ⟨qa2 q, fun c0 => hfin _ (hz 3 (bad3 (.inl w1) c0) (by decide)), fun c0 => ⟨z2z q, fun d0 => hfin _ (hz 12 (badw (.inl w1) c0 (by rw [w1]; exact d0)) (by decide)), fun d0 => ⟨fun h => absurd h (by decide), fun _ => ⟨⟨k + 1, rfl, by omega, one (bad0 (.inl w1) c0 (by rw [w1]; exact d0)) w1⟩, by omega⟩⟩⟩⟩⟩, fun hh => absurd hh (by omega)⟩
      · simp only [Tree.den, E.den, P1.den, P2.den, P3.den, qa, qb, qc, qd, qe, qf, qg, qh, zac, zab, zad, zaa, zae, TV.cell, zah, zai, zag, zaf, qi, qj, qk, ql, qm, qn, ne_eq, qo, qp, forall_eq, qs, qt, Int.reduceToNat, qu, exists_eq_left', zaj, zao, zaq, zan, zap, zam, zal, zar, qv, qq, qr, zak, List.cons_append, List.nil_append, Int.toNat_natCast, qpn, List.length_map, cls_get hkl, clT, w1, w2, not_false_eq_true, true_implies, false_implies, and_true]
        exact ⟨fun _ => ⟨by omega, by omega, hfin _ (hz 12 (bad12 w1 w2) (by decide))⟩, fun hh => absurd hh (by omega)⟩
  · obtain rfl : k = l.length := by omega
    rw [List.drop_length] at he
    simp only [Tree.den, E.den, P1.den, P2.den, P3.den, qa, qb, qc, qd, qe, qf, qg, qh, zac, zab, zad, zaa, zae, TV.cell, zah, zai, zag, zaf, qi, qj, qk, ql, qm, qn, ne_eq, qo, qp, forall_eq, qs, qt, Int.reduceToNat, qu, exists_eq_left', List.cons_append, List.nil_append, clsT_len]
    exact ⟨fun hh => absurd hh (by omega), fun _ => hfin _ (by rw [he]; rfl)⟩)) rfl
end Go.Proofs.YtlhagkbhojmjpaaDoor

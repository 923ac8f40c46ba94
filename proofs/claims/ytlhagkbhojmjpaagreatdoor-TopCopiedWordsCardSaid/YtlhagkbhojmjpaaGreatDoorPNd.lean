/- Written by this repo's own program out of its texts. -/
import Derived.Test.YtlhagkbhojmjpaaGreatDoorPNv
set_option linter.unusedSimpArgs false
set_option linter.unusedVariables false
set_option linter.unusedSectionVars false
namespace Go.Proofs.YtlhagkbhojmjpaaGreatDoor
def sg (l : List By) (i : Nat) : By := l.getD i []
theorem sgetD {l : List By} {i : Nat} (h : i < l.length) : (l.map TV.str).getD i (.int 0) = .str (sg l i) := zvn l h
theorem sdrop {l : List By} {i : Nat} (h : i < l.length) : l.drop i = sg l i :: l.drop (i + 1) := by
 unfold sg
 rw [List.drop_eq_getElem_cons h, List.getD_eq_getElem?_getD, List.getElem?_eq_getElem h]; rfl
theorem stake {l : List By} {i : Nat} (h : i < l.length) : l.take (i + 1) = l.take i ++ [sg l i] := by
 unfold sg
 rw [List.take_succ_eq_append_getElem h, List.getD_eq_getElem?_getD, List.getElem?_eq_getElem h]; rfl
theorem sg_head {l : List By} (h : 0 < l.length) : l.head? = some (sg l 0) := by
 cases l with
 | nil => simp at h
 | cons w t => rfl
def neqL : Law := ⟨fun ts => ∃ (a : List By) (b : List By), ts = [strs a, strs b] ∧ (a.length ≤ 1000000), fun ts z₀ => ∀ (a : List By) (b : List By), ts = [strs a, strs b] → z₀ = .bool (decide (a = b))⟩
theorem neq_pre {a : List By} {b : List By} (h : a.length ≤ 1000000) : neqL.pre [strs a, strs b] := ⟨a, b, rfl, h⟩
theorem neq_fin {a : List By} {b : List By} {z₀ : TV} (h : z₀ = .bool (decide (a = b))) : neqL.post [strs a, strs b] z₀ := fun a₁ b₁ e => by
 simp only [qy, qhv] at e; obtain ⟨rfl, rfl⟩ := e
 exact h
theorem neq_all {a : List By} {b : List By} {Q : TV → Prop} : (∀ z₀, neqL.post [strs a, strs b] z₀ → Q z₀) ↔ Q (.bool (decide (a = b))) := ⟨fun h => h _ (neq_fin rfl), fun h z₀ hr => by rw [hr _ _ rfl]; exact h⟩
def EqI (a b : List By) (xs : List TV) : Prop := ∃ k : Nat, xs = [.int k] ∧ k ≤ a.length ∧ a.take k = b.take k
def Eqm (a : List By) (xs : List TV) : Nat := a.length - (xs.getD 0 (.int 0)).asInt.toNat
theorem neq_c (k : Nat) : Contract Tryz.prog (mkEnv globT []) gtabU (qp9 k) neqL.pre neqL.post := Contract.env (Γ := mkEnv globT []) (qtu (fun _ => rfl) (fun s hs => by
  cases hs) k (by
 rintro ts hl ⟨a, b, rfl, hp⟩
 have hfin : ∀ z₀ : TV, z₀ = .bool (decide (a = b)) → neqL.post [strs a, strs b] z₀ := fun z₀ hz₀ => neq_fin hz₀
 generalize neqL.post [strs a, strs b] = R at hfin ⊢
 unfold tr_slices_Equalstringstring
 simp only [Tree.den, E.den, P1.den, P2.den, P3.den, TV.cell, ne_eq, forall_eq, Int.reduceToNat, exists_eq_left', qz, zgq]
 refine ⟨fun h => hfin _ ?_, fun h => ⟨EqI a b, Eqm a, ⟨0, rfl, by omega, rfl⟩, ?_⟩⟩
 ·rw [decide_eq_false fun e => h (by rw [e])]
 ·rintro xs _ ⟨k, rfl, hk, he⟩
  have hl : a.length = b.length := by omega
  by_cases hlt : k < a.length
  ·have e1 : IntKind.wrap .i64 ((k : Int) + 1) = ((k + 1 : Nat) : Int) := by rw [wrap_i64 (by omega) (by omega)]; omega
   simp only [Tree.den, E.den, P1.den, P2.den, P3.den, TV.cell, ne_eq, forall_eq, Int.reduceToNat, exists_eq_left', qz, zbc, qr, qv, sgetD hlt, sgetD (l := b) (i := k) (by omega), e1, List.cons_append, List.nil_append]
   refine ⟨fun _ => ⟨by omega, by omega, by omega, by omega, fun hne => hfin _ ?_, fun heq => ⟨⟨k + 1, rfl, by omega, ?_⟩, ?_⟩⟩, fun hn => absurd hn (by omega)⟩
   ·rw [decide_eq_false fun e => hne (by rw [e])]
   ·rw [stake hlt, stake (l := b) (by omega), he, heq]
   ·simp only [Eqm, List.getD_cons_zero, zac]; omega
  ·simp only [Tree.den, E.den, P1.den, P2.den, P3.den, TV.cell, ne_eq, forall_eq, Int.reduceToNat, exists_eq_left', qz, zbc, qr, qv, List.cons_append, List.nil_append]
   refine ⟨fun hn => absurd hn (by omega), fun _ => hfin _ ?_⟩
   rw [List.take_of_length_le (by omega), List.take_of_length_le (by omega)] at he
   rw [decide_eq_true he])) rfl
def numT (l : List By) : TV := match numZ l with
 | some n => .agg [.int n, .int 0]
 | none => .agg [.int 0, .int 17]
theorem val_bd {w : By} {n : Int} (h : valW w = some n) : 0 ≤ n ∧ n ≤ 90 := by
 rw [valW_eq] at h
 cases hf : (vocabL.take 28).findIdx? (· == w) with
 | none => rw [hf] at h; cases h
 | some j =>
  rw [hf] at h
  have hj := (List.findIdx?_eq_some_iff_getElem.1 hf).1
  have hj : j < 28 := hj
  simp only [Option.map_some, Option.some.injEq] at h
  split at h <;> omega
def NuI (l : List By) (xs : List TV) : Prop := ∃ (i : Nat) (a p : Int), xs = [.int a, .int p, .int i] ∧ i ≤ l.length ∧ 0 ≤ a ∧ a ≤ 999999999 ∧ 0 ≤ p ∧ p ≤ 999999999 ∧ quc l (0, 0) = quc (l.drop i) (a, p)
def Num (l : List By) (xs : List TV) : Nat := l.length - (xs.getD 2 (.int 0)).asInt.toNat
theorem q4f {l : List By} (h : numZ l = none) : numT l = .agg [.int 0, .int 17] := by unfold numT; rw [h]
theorem numT_some {l : List By} {n : Int} (h : numZ l = some n) : numT l = .agg [.int n, .int 0] := by unfold numT; rw [h]
theorem num_fail {l : List By} (h : quc l (0, 0) = none) : numZ l = none := by
 unfold numZ
 split
 ·rfl
 ·rw [h]; rfl
theorem num_long {l : List By} (h : l.length = 0 ∨ 15 < l.length) : numZ l = none := by
 unfold numZ
 rw [if_pos]
 rcases h with h | h
 ·exact .inl (List.length_eq_zero_iff.1 h)
 ·exact .inr h
theorem fold_step {l : List By} {i : Nat} (h : i < l.length) (s : Int × Int) : quc (l.drop i) s = (qug (sg l i) s).bind (quc (l.drop (i + 1))) := by
 rw [sdrop h]; rfl
theorem num_end {l : List By} {a p : Int} (hl : 0 < l.length) (h15 : ¬ 15 < l.length) (h : quc l (0, 0) = some (a, p)) (n : Int) (hn : n = if sg l 0 = vw 31 then -(a + p) else a + p) : numZ l = if wordsZ n = some l then some n else none := by
 unfold numZ
 rw [if_neg (fun k => k.elim (fun e => by rw [e] at hl; simp at hl) h15), h]
 simp only [Option.bind_some]
 have e : (l.head? = some (vw 31)) ↔ sg l 0 = vw 31 := by
  rw [sg_head hl, Option.some.injEq]
 by_cases c : sg l 0 = vw 31
 ·rw [if_pos c] at hn
  rw [if_pos (e.2 c), ← hn]
 ·rw [if_neg c] at hn
  rw [if_neg (fun k => c (e.1 k)), ← hn]
def nnumL : Law := ⟨fun ts => ∃ (l : List By), ts = [strs l] ∧ (True), fun ts z₀ => ∀ (l : List By), ts = [strs l] → z₀ = numT l⟩
theorem nnum_pre {l : List By} (h : True) : nnumL.pre [strs l] := ⟨l, rfl, h⟩
theorem nnum_fin {l : List By} {z₀ : TV} (h : z₀ = numT l) : nnumL.post [strs l] z₀ := fun l₁ e => by
 simp only [qy, qhv] at e; subst e
 exact h
theorem nnum_all {l : List By} {Q : TV → Prop} : (∀ z₀, nnumL.post [strs l] z₀ → Q z₀) ↔ Q (numT l) := ⟨fun h => h _ (nnum_fin rfl), fun h z₀ hr => by rw [hr _ rfl]; exact h⟩
theorem num_last {l : List By} {n : Int} {R : TV → Prop} (hz : numZ l = if wordsZ n = some l then some n else none) (hfin : ∀ z, z = numT l → R z) :
  ((¬ ((nwT n).cell 1).asInt = 0 → R (.agg [.int 0, .int 17])) ∧ (((nwT n).cell 1).asInt = 0 → ∃ ws : List By, (nwT n).cell 0 = strs ws ∧ ws.length ≤ 15 ∧ (¬ ws = l → R (.agg [.int 0, .int 17])) ∧ (ws = l → R (.agg [.int n, .int 0])))) := by
 unfold nwT
 cases hw : wordsZ n with
 | none =>
  rw [hw, if_neg (by simp)] at hz
  refine ⟨fun _ => hfin _ (q4f hz).symm, fun h => absurd h (by decide)⟩
 | some ws =>
  rw [hw] at hz
  refine ⟨fun h => absurd rfl h, fun _ => ⟨ws, rfl, ?_, fun h => hfin _ ?_, fun h => hfin _ ?_⟩⟩
  ·unfold wordsZ at hw
   split at hw
   ·cases hw
   ·cases hw
    have := wordsW_len n.natAbs
    split
    ·rw [List.length_cons]; omega
    ·omega
  ·rw [if_neg (fun e => h (Option.some.inj e))] at hz
   exact (q4f hz).symm
  ·rw [if_pos (by rw [h])] at hz
   exact (numT_some hz).symm
theorem nnum_c (k : Nat) : Contract Tryz.prog (mkEnv globT []) gtabU (qqd k) nnumL.pre nnumL.post := Contract.env (Γ := mkEnv globT [nwordsL, nvalsL, neqL]) (contract_numwords_Number (fun _ => rfl) (fun s hs => by
  simp only [cx_numwords_Number, List.mem_cons, List.not_mem_nil, or_false] at hs
  rcases hs with rfl | rfl | rfl
  ·exact Contract.inEnv rfl (nwords_c 0) rfl
  ·exact Contract.inEnv rfl (nvals_c 1) rfl
  ·exact Contract.inEnv rfl (neq_c 2) rfl) k (by
 rintro ts hl ⟨l, rfl, hp⟩
 have hfin : ∀ z₀ : TV, z₀ = numT l → nnumL.post [strs l] z₀ := fun z₀ hz₀ => nnum_fin hz₀
 generalize nnumL.post [strs l] = R at hfin ⊢
 unfold tr_numwords_Number
 have e31 : [109, 105, 110, 117, 115] = vw 31 := rfl
 have e28 : [104, 117, 110, 100, 114, 101, 100] = vw 28 := rfl
 have e29 : [116, 104, 111, 117, 115, 97, 110, 100] = vw 29 := rfl
 have e30 : [109, 105, 108, 108, 105, 111, 110] = vw 30 := rfl
 simp only [Tree.den, E.den, P1.den, P2.den, P3.den, TV.cell, ne_eq, forall_eq, Int.reduceToNat, exists_eq_left', qz, zgq, nvals_all, e31, e28, e29, e30]
 have bad : numZ l = none → R (.agg [.int 0, .int 17]) := fun h => hfin _ (q4f h).symm
 refine ⟨fun h => bad (num_long (.inl (by omega))), fun h0 => ⟨fun h => bad (num_long (.inr (by omega))), fun h15 => ⟨nvals_pre, NuI l, Num l, ⟨0, 0, 0, rfl, by omega, by omega, by omega, by omega, by omega, rfl⟩, ?_⟩⟩⟩
 rintro xs _ ⟨i, a, p, rfl, hi, ha0, ha9, hp0, hp9, hf⟩
 by_cases hlt : i < l.length
 ·have e1 : IntKind.wrap .i64 ((i : Int) + 1) = ((i + 1 : Nat) : Int) := by rw [wrap_i64 (by omega) (by omega)]; omega
  have q1 : IntKind.wrap .i64 (p * 100) = p * 100 := wrap_i64 (by omega) (by omega)
  have q2 : IntKind.wrap .i64 (1000 * p) = 1000 * p := wrap_i64 (by omega) (by omega)
  have q3 : IntKind.wrap .i64 (1000000 * p) = 1000000 * p := wrap_i64 (by omega) (by omega)
  have q4 : IntKind.wrap .i64 (a + 1000 * p) = a + 1000 * p := wrap_i64 (by omega) (by omega)
  have q5 : IntKind.wrap .i64 (a + 1000000 * p) = a + 1000000 * p := wrap_i64 (by omega) (by omega)
  rw [fold_step hlt] at hf
  have hm := mval_val (sg l i)
  simp only [Tree.den, E.den, P1.den, P2.den, P3.den, TV.cell, ne_eq, forall_eq, Int.reduceToNat, exists_eq_left', qz, zgq, zbc, qr, qv, sgetD hlt, e1, q1, q2, q3, q4, q5, hm, mtv, List.cons_append, List.nil_append]
  generalize sg l i = w at hf hm ⊢
  have nx : ∀ a' p' : Int, 0 ≤ a' → a' ≤ 999999999 → 0 ≤ p' → p' ≤ 999999999 → qug w (a, p) = some (a', p') → NuI l [.int a', .int p', .int ((i + 1 : Nat) : Int)] ∧ Num l [.int a', .int p', .int ((i + 1 : Nat) : Int)] < Num l [.int a, .int p, .int (i : Int)] := by
   intro a' p' h1 h2 h3 h4 h5
   refine ⟨⟨i + 1, a', p', rfl, by omega, h1, h2, h3, h4, by rw [hf, h5]; rfl⟩, ?_⟩
   simp only [Num, List.getD_cons_succ, List.getD_cons_zero, zac]; omega
  have fl : qug w (a, p) = none → R (.agg [.int 0, .int 17]) := fun h => bad (num_fail (by rw [hf, h]; rfl))
  refine ⟨fun _ => ⟨by omega, by omega, fun h31 => ⟨fun h => absurd h (by omega), fun _ => ⟨fun h => absurd h (by omega), fun _ => nx a p ha0 ha9 hp0 hp9 ?_⟩⟩, fun n31 => ⟨fun h28 => ⟨fun h => fl ?_, fun h => ⟨fun h' => absurd h' (by omega), fun _ => nx a (p * 100) ha0 ha9 (by omega) (by omega) ?_⟩⟩, fun n28 => ⟨fun h29 => ⟨fun h => fl ?_, fun h => nx _ 0 (by omega) (by omega) (by omega) (by omega) ?_⟩, fun n29 => ⟨fun h30 => ⟨fun h => fl ?_, fun h => nx _ 0 (by omega) (by omega) (by omega) (by omega) ?_⟩, fun n30 => ?_⟩⟩⟩⟩, fun hn => absurd hn (by omega)⟩
  ·unfold qug; rw [if_pos h31]; exact if_neg (by show ¬ (999999999 < p ∨ 999999999 < a); omega)
  ·unfold qug; rw [if_neg n31, if_pos h28]; exact if_pos (.inl h)
  ·unfold qug; rw [if_neg n31, if_pos h28]; exact if_neg (by show ¬ (999999999 < p * 100 ∨ 999999999 < a); omega)
  ·unfold qug; rw [if_neg n31, if_neg n28, if_pos h29]; exact if_pos (.inr h)
  ·unfold qug; rw [if_neg n31, if_neg n28, if_pos h29]; exact if_neg (by show ¬ ((999999999 : Int) < 0 ∨ 999999999 < a + 1000 * p); omega)
  ·unfold qug; rw [if_neg n31, if_neg n28, if_neg n29, if_pos h30]; exact if_pos (.inr h)
  ·unfold qug; rw [if_neg n31, if_neg n28, if_neg n29, if_pos h30]; exact if_neg (by show ¬ ((999999999 : Int) < 0 ∨ 999999999 < a + 1000000 * p); omega)
  ·have ns : qug w (a, p) = ((valW w).map fun n => (a, p + n)).bind fun t => if 999999999 < t.2 ∨ 999999999 < t.1 then none else some t := by
    unfold qug; rw [if_neg n31, if_neg n28, if_neg n29, if_neg n30]
   cases hv : valW w with
   | none =>
    rw [hv] at ns
    exact ⟨fun _ => fl ns, fun h => by cases h⟩
   | some n =>
    have bd := val_bd hv
    rw [hv] at ns
    have q6 : IntKind.wrap .i64 (p + n) = p + n := wrap_i64 (by omega) (by omega)
    simp only [Option.map_some, Option.getD_some, if_false, zac, q6]
    refine ⟨fun h => (by cases h), fun _ => ⟨fun h => fl (ns.trans (if_pos (.inl h))), fun h => ⟨fun h' => absurd h' (by omega), fun _ => nx a (p + n) ha0 ha9 (by omega) (by omega) (ns.trans (if_neg (by show ¬ (999999999 < p + n ∨ 999999999 < a); omega)))⟩⟩⟩
 ·obtain rfl : i = l.length := by omega
  rw [List.drop_length] at hf
  have hpos : 0 < l.length := by omega
  have q7 : IntKind.wrap .i64 (a + p) = a + p := wrap_i64 (by omega) (by omega)
  have q8 : IntKind.wrap .i64 (0 - (a + p)) = -(a + p) := by rw [wrap_i64 (by omega) (by omega)]; omega
  simp only [Tree.den, E.den, P1.den, P2.den, P3.den, TV.cell, ne_eq, forall_eq, Int.reduceToNat, exists_eq_left', qz, zgq, zbc, qr, qv, sgetD hpos, q7, q8, nwords_all, List.cons_append, List.nil_append]
  have fin : ∀ n, n = (if sg l 0 = vw 31 then -(a + p) else a + p) → (¬ ((nwT n).cells.getD 1 (.int 0)).asInt = 0 → R (.agg [.int 0, .int 17])) ∧ (((nwT n).cells.getD 1 (.int 0)).asInt = 0 → neqL.pre [(nwT n).cells.getD 0 (.int 0), strs l] ∧ ∀ r, neqL.post [(nwT n).cells.getD 0 (.int 0), strs l] r → (r.asBool = false → R (.agg [.int 0, .int 17])) ∧ (r.asBool = true → R (.agg [.int n, .int 0]))) := by
   intro n hn
   obtain ⟨k1, k2⟩ := num_last (num_end hpos (by omega) hf n hn) hfin
   refine ⟨k1, fun h => ?_⟩
   obtain ⟨ws, e, hw, h1, h2⟩ := k2 h
   have e : (nwT n).cells.getD 0 (.int 0) = strs ws := e
   rw [e]
   refine ⟨neq_pre (by omega), neq_all.2 ?_⟩
   simp only [zab, decide_eq_true_eq, decide_eq_false_iff_not]
   exact ⟨h1, h2⟩
  refine ⟨fun hn => absurd hn (by omega), fun _ => ⟨by omega, fun hm => ⟨nwords_pre trivial, fin _ (by rw [if_pos hm])⟩, fun hm => ⟨nwords_pre trivial, fin _ (by rw [if_neg hm])⟩⟩⟩)) rfl
def prefT (l : List By) : TV := match qvc l with
 | some (n, u) => .agg [.int n, .int u, .int 0]
 | none => .agg [.int 0, .int 0, .int 17]
def PfI (l : List By) (xs : List TV) : Prop := ∃ k : Nat, xs = [.int k] ∧ k ≤ l.length ∧ qvc l = prefZ l k
def Pfm (xs : List TV) : Nat := (xs.getD 0 (.int 0)).asInt.toNat
theorem strs_take (l : List By) (k : Nat) : TV.list (((l.map TV.str).drop 0).take (k - 0)) = strs (l.take k) := by
 unfold strs; rw [List.drop_zero, Nat.sub_zero, List.map_take]
def nprefL : Law := ⟨fun ts => ∃ (l : List By), ts = [strs l] ∧ (l.length ≤ 1000000), fun ts z₀ => ∀ (l : List By), ts = [strs l] → z₀ = prefT l⟩
theorem npref_pre {l : List By} (h : l.length ≤ 1000000) : nprefL.pre [strs l] := ⟨l, rfl, h⟩
theorem npref_fin {l : List By} {z₀ : TV} (h : z₀ = prefT l) : nprefL.post [strs l] z₀ := fun l₁ e => by
 simp only [qy, qhv] at e; subst e
 exact h
theorem npref_all {l : List By} {Q : TV → Prop} : (∀ z₀, nprefL.post [strs l] z₀ → Q z₀) ↔ Q (prefT l) := ⟨fun h => h _ (npref_fin rfl), fun h z₀ hr => by rw [hr _ rfl]; exact h⟩
theorem npref_c (k : Nat) : Contract Tryz.prog (mkEnv globT []) gtabU (qqc k) nprefL.pre nprefL.post := Contract.env (Γ := mkEnv globT [nnumL]) (contract_numwords_Prefix (fun _ => rfl) (fun s hs => by
  simp only [cx_numwords_Prefix, List.mem_cons, List.not_mem_nil, or_false] at hs
  rcases hs with rfl
  ·exact Contract.inEnv rfl (nnum_c 0) rfl) k (by
 rintro ts hl ⟨l, rfl, hp⟩
 have hfin : ∀ z₀ : TV, z₀ = prefT l → nprefL.post [strs l] z₀ := fun z₀ hz₀ => npref_fin hz₀
 generalize nprefL.post [strs l] = R at hfin ⊢
 unfold tr_numwords_Prefix
 simp only [Tree.den, E.den, P1.den, P2.den, P3.den, TV.cell, ne_eq, forall_eq, Int.reduceToNat, exists_eq_left', qz, zgq]
 refine ⟨PfI l, Pfm, ⟨min l.length 15, ?_, Nat.min_le_left _ _, rfl⟩, ?_⟩
 ·exact congrArg (fun z => [TV.int z]) (by omega)
 rintro xs _ ⟨k, rfl, hk, he⟩
 cases k with
 | zero =>
  simp only [Tree.den, E.den, P1.den, P2.den, P3.den, TV.cell, ne_eq, forall_eq, Int.reduceToNat, exists_eq_left', qz, List.cons_append, List.nil_append]
  refine ⟨fun h => absurd h (by omega), fun _ => hfin _ ?_⟩
  unfold prefT; rw [he]; rfl
 | succ k =>
  have e1 : IntKind.wrap .i64 (((k + 1 : Nat) : Int) - 1) = (k : Int) := by rw [wrap_i64 (by omega) (by omega)]; omega
  simp only [Tree.den, E.den, P1.den, P2.den, P3.den, TV.cell, ne_eq, forall_eq, Int.reduceToNat, exists_eq_left', qz, zgq, zbc, qr, qv, e1, List.cons_append, List.nil_append, strs_take, nnum_all]
  refine ⟨fun _ => ⟨by omega, by omega, nnum_pre trivial, fun h => hfin _ ?_, fun h => ⟨⟨k, rfl, by omega, ?_⟩, ?_⟩⟩, fun h => absurd h (by omega)⟩
  ·unfold prefT; rw [he]; unfold prefZ
   unfold numT at h ⊢
   cases hz : numZ (l.take (k + 1)) with
   | none => rw [hz] at h; exact absurd h (by decide)
   | some n => rfl
  ·rw [he]; conv => lhs; unfold prefZ
   unfold numT at h
   cases hz : numZ (l.take (k + 1)) with
   | none => rfl
   | some n => rw [hz] at h; exact absurd rfl h
  ·simp only [Pfm, List.getD_cons_zero, zac]; omega)) rfl
end Go.Proofs.YtlhagkbhojmjpaaGreatDoor

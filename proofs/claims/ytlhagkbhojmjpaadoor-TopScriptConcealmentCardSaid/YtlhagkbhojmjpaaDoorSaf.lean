/- What a verified script does, in plain terms: the depths, the fuel, runs. -/
import Derived.Test.YtlhagkbhojmjpaaDoorDep
import Derived.Test.YtlhagkbhojmjpaaDoorSrn
namespace Go.Proofs.YtlhagkbhojmjpaaDoor
set_option linter.unusedSimpArgs false
set_option linter.unusedVariables false
theorem qn7 {n i : Nat} {x : Ins} (h : InsOk n i x) (hi : i < n) : ∀ s ∈ succL x.1 x.2 i, (i : Int) < s ∧ s ≤ n := by
  intro s hs
  unfold succL at hs
  rcases List.mem_append.1 hs with hs | hs
  · split at hs
    · simp at hs
    · simp at hs; omega
  · split at hs
    · rename_i h1
      have := h.j h1
      simp at hs; omega
    · simp at hs
theorem getD_set_ne {o : List Int} {i j : Nat} (h : i ≠ j) (v : Int) : (o.set i v).getD j 0 = o.getD j 0 := by
  rw [List.getD_eq_getElem?_getD, List.getElem?_set_ne h, ← List.getD_eq_getElem?_getD]
theorem qn3 {o : List Int} {i : Nat} (h : i < o.length) (v : Int) : (o.set i v).getD i 0 = v := by
  rw [List.getD_eq_getElem?_getD, List.getElem?_set_self h]; rfl

structure FueOk (l : List Ins) (k : Nat) (f : List Int) : Prop where
  ok : ∀ i, l.length - k ≤ i → i < l.length → 1 ≤ f.getD i 0 ∧ ∀ s ∈ succL (xx l i).1 (xx l i).2 i, f.getD s.toNat 0 + 1 ≤ f.getD i 0
theorem maxfold {i : Nat} : ∀ (ks : List Int) (o : List Int), i < o.length → (∀ s ∈ ks, (i : Int) < s) →
    (ks.foldl (maxAt i) o).length = o.length ∧ (∀ j, j ≠ i → (ks.foldl (maxAt i) o).getD j 0 = o.getD j 0) ∧ o.getD i 0 ≤ (ks.foldl (maxAt i) o).getD i 0 ∧ ∀ s ∈ ks, o.getD s.toNat 0 ≤ (ks.foldl (maxAt i) o).getD i 0
  | [], o, _, _ => ⟨rfl, fun _ _ => rfl, Int.le_refl _, fun _ h => by cases h⟩
  | k :: ks, o, hi, h => by
    have hk := h k (by simp)
    obtain ⟨a, b, c, d⟩ := maxfold ks (maxAt i o k) (by unfold maxAt; rw [List.length_set]; exact hi) (fun s hs => h s (by simp [hs]))
    have e1 : (maxAt i o k).length = o.length := by unfold maxAt; rw [List.length_set]
    have e2 : ∀ j, j ≠ i → (maxAt i o k).getD j 0 = o.getD j 0 := fun j hj => by unfold maxAt; exact getD_set_ne (Ne.symm hj) _
    have e3 : (maxAt i o k).getD i 0 = max (o.getD i 0) (o.getD k.toNat 0) := by unfold maxAt; exact qn3 hi _
    rw [List.foldl_cons]
    refine ⟨a.trans e1, fun j hj => (b j hj).trans (e2 j hj), by omega, fun s hs => ?_⟩
    rcases List.mem_cons.1 hs with rfl | hs'
    · omega
    · have := d s hs'
      rwa [e2 s.toNat (by have := h s hs; omega)] at this
theorem fueOk {l : List Ins} (hok : ∀ i, i < l.length → InsOk l.length i (xx l i)) : ∀ k, k ≤ l.length → FueOk l k (fueS l k)
  | 0, _ => ⟨fun i h1 h2 => by omega⟩
  | k + 1, hk => by
    have ih := fueOk hok k (by omega)
    have hl := (okF_fueS l k).len
    have hnn : ∀ j, 0 ≤ (fueS l k).getD j 0 := fun j => ((okF_fueS l k).get (Int.natCast_nonneg k) j).1
    obtain ⟨i0, hi0⟩ : ∃ i0, i0 = l.length - 1 - k := ⟨_, rfl⟩
    have hf := qn7 (hok i0 (by omega)) (by omega)
    obtain ⟨a, b, c, d⟩ := maxfold (succL (xx l i0).1 (xx l i0).2 i0) (fueS l k) (i := i0) (by omega) fun s hs => (hf s hs).1
    have e : fueS l (k + 1) = fueX (xx l i0) i0 (fueS l k) := by rw [hi0]; rfl
    have g0 : (fueS l (k + 1)).getD i0 0 = ((succL (xx l i0).1 (xx l i0).2 i0).foldl (maxAt i0) (fueS l k)).getD i0 0 + 1 := by rw [e]; unfold fueX; exact qn3 (by omega) _
    have g1 : ∀ j, j ≠ i0 → (fueS l (k + 1)).getD j 0 = (fueS l k).getD j 0 := fun j hj => by rw [e]; unfold fueX; rw [getD_set_ne (Ne.symm hj)]; exact b j hj
    refine ⟨fun i h1 h2 => ?_⟩
    by_cases hi : i = i0
    · subst hi
      rw [g0]
      refine ⟨by have := hnn i; omega, fun s hs => ?_⟩
      rw [g1 s.toNat (by have := (hf s hs).1; omega)]
      have := d s hs
      omega
    · rw [g1 i hi]
      obtain ⟨p, q⟩ := ih.ok i (by omega) h2
      refine ⟨p, fun s hs => ?_⟩
      have hs' := qn7 (hok i h2) h2 s hs
      rw [g1 s.toNat (by omega)]
      exact q s hs

def aft (x : Ins) (d : Int) : Int := d - popZ x.1.toNat + pushZ' x.1.toNat
structure DepOk (l : List Ins) (k : Nat) (o : List Int) : Prop where
  len : o.length = l.length + 1
  z : 0 < l.length → o.getD 0 0 = 0
  ok : ∀ i, i < k → i < l.length → 0 ≤ o.getD i 0 → popZ (xx l i).1.toNat ≤ o.getD i 0 ∧ aft (xx l i) (o.getD i 0) ≤ 16 ∧ ∀ s ∈ succL (xx l i).1 (xx l i).2 i, s < l.length → o.getD s.toNat 0 = aft (xx l i) (o.getD i 0)
theorem pushZ_nn (k : Nat) : 0 ≤ pushZ' k := by
  unfold pushZ'
  by_cases h : k < 21
  · have : ∀ k : Fin 21, 0 ≤ pushZ.getD k 0 := by decide
    exact this ⟨k, h⟩
  · rw [List.getD_eq_getElem?_getD, List.getElem?_eq_none (by simpa [pushZ] using h)]; decide
theorem dset_ok {l : List Ins} {k : Nat} {o o' : List Int} {af s : Int} (hok : ∀ i, i < l.length → InsOk l.length i (xx l i)) (h : DepOk l k o) (hs : (k : Int) < s ∧ s ≤ l.length) (haf : 0 ≤ af) (he : dset l.length af o s = some o') :
    DepOk l k o' ∧ (∀ j, j ≤ k → o'.getD j 0 = o.getD j 0) ∧ (s < l.length → o'.getD s.toNat 0 = af) ∧ ∀ t : Int, t < l.length → o.getD t.toNat 0 = af → o'.getD t.toNat 0 = af := by
  unfold dset at he
  split at he
  · cases he
  rename_i hn
  simp only [Option.some.injEq] at he
  subst he
  have hlen := h.len
  have g0 : (o.set s.toNat af).getD s.toNat 0 = af := qn3 (by omega) _
  have g1 : ∀ j, j ≠ s.toNat → (o.set s.toNat af).getD j 0 = o.getD j 0 := fun j hj => getD_set_ne (Ne.symm hj) _
  refine ⟨⟨by rw [List.length_set]; exact h.len, fun hl => ?_, fun i h1 h2 h3 => ?_⟩, fun j hj => g1 j (by omega), fun _ => g0, fun t ht hto => ?_⟩
  · rw [g1 0 (by omega)]; exact h.z hl
  · rw [g1 i (by omega)] at h3 ⊢
    obtain ⟨p, q, r⟩ := h.ok i h1 h2 h3
    refine ⟨p, q, fun u hu hul => ?_⟩
    have hr := r u hu hul
    by_cases hus : u.toNat = s.toNat
    · have hfw := qn7 (hok i h2) h2 u hu
      have : u = s := by omega
      subst this
      rw [g0]
      rw [hr] at hn
      have hp := pushZ_nn (xx l i).1.toNat
      by_cases hq : aft (xx l i) (o.getD i 0) = af
      · exact hq.symm
      · exact absurd ⟨hul, by unfold aft; omega, hq⟩ hn
    · rw [g1 _ hus]; exact hr
  · by_cases hts : t.toNat = s.toNat
    · rw [hts]; exact g0
    · rw [g1 _ hts]; exact hto
theorem dfold_ok {l : List Ins} {k : Nat} {af : Int} (hok : ∀ i, i < l.length → InsOk l.length i (xx l i)) (haf : 0 ≤ af) : ∀ (ks : List Int) (o o' : List Int), (∀ s ∈ ks, (k : Int) < s ∧ s ≤ l.length) → DepOk l k o → dfold l.length af ks (some o) = some o' →
    DepOk l k o' ∧ (∀ j, j ≤ k → o'.getD j 0 = o.getD j 0) ∧ (∀ s ∈ ks, s < l.length → o'.getD s.toNat 0 = af) ∧ ∀ t : Int, t < l.length → o.getD t.toNat 0 = af → o'.getD t.toNat 0 = af
  | [], o, o', _, h, he => by
    have : o = o' := by unfold dfold at he; simpa using he
    subst this
    exact ⟨h, fun _ _ => rfl, fun _ h => absurd h (List.not_mem_nil), fun _ _ h => h⟩
  | s :: ks, o, o', hs, h, he => by
    have e1 : dfold l.length af (s :: ks) (some o) = dfold l.length af ks (dset l.length af o s) := rfl
    rw [e1] at he
    cases hd : dset l.length af o s with
    | none => rw [hd, dfold_none] at he; cases he
    | some o1 =>
      rw [hd] at he
      obtain ⟨a, b, c, d⟩ := dset_ok hok h (hs s (by simp)) haf hd
      obtain ⟨a', b', c', d'⟩ := dfold_ok hok haf ks o1 o' (fun t ht => hs t (by simp [ht])) a he
      refine ⟨a', fun j hj => (b' j hj).trans (b j hj), fun t ht htl => ?_, fun t ht hto => d' t ht (d t ht hto)⟩
      rcases List.mem_cons.1 ht with rfl | ht
      · exact d' t htl (c htl)
      · exact c' t ht htl
theorem depOk {l : List Ins} (hok : ∀ i, i < l.length → InsOk l.length i (xx l i)) : ∀ k o, k ≤ l.length → depS l k = some o → DepOk l k o
  | 0, o, _, h => by
    have : o = (List.replicate (l.length + 1) (-1)).set 0 0 := by unfold depS at h; simpa using h.symm
    subst this
    exact ⟨by simp, fun _ => qn3 (by simp) _, fun i h => absurd h (Nat.not_lt_zero i)⟩
  | k + 1, o, hk, h => by
    have e : depS l (k + 1) = (depS l k).bind (depX l.length (xx l k) k) := rfl
    rw [e] at h
    obtain ⟨o1, h1, h2⟩ := Option.bind_eq_some_iff.1 h
    have ih := depOk hok k o1 (by omega) h1
    unfold depX at h2
    split at h2
    · rename_i hneg
      simp only [Option.some.injEq] at h2
      subst h2
      refine ⟨ih.len, ih.z, fun i a b c => ?_⟩
      by_cases hik : i = k
      · subst hik; omega
      · exact ih.ok i (by omega) b c
    split at h2
    · cases h2
    rename_i hnn hpp
    have hp := pushZ_nn (xx l k).1.toNat
    obtain ⟨a, b, c, d⟩ := dfold_ok hok (by omega) _ o1 o (fun s hs => qn7 (hok k (by omega)) (by omega) s hs) ih h2
    refine ⟨a.len, a.z, fun i h1 h2 h3 => ?_⟩
    by_cases hik : i = k
    · subst hik
      rw [b i (Nat.le_refl _)]
      unfold aft
      exact ⟨by omega, by omega, c⟩
    · exact a.ok i (by omega) h2 h3

theorem qn4 {m : Mch} (h : 1 ≤ m.dp) : (popS m).dp = m.dp - 1 ∧ (popS m).fl = m.fl := by
  unfold popS; rw [if_neg (by omega)]; exact ⟨rfl, rfl⟩
theorem qn2 {m : Mch} {z : Int} (h : m.dp < 16) : (pushS m z).dp = m.dp + 1 ∧ (pushS m z).fl = m.fl := by
  unfold pushS; rw [if_neg (by omega)]; exact ⟨rfl, rfl⟩
theorem binS_ok {m : Mch} {op : Int} (h : 2 ≤ m.dp) (h9 : m.dp ≤ 16) : (binS m op).dp = m.dp - 1 ∧ (binS m op).fl = m.fl := by
  obtain ⟨a, b⟩ := qn4 (m := m) (by omega)
  obtain ⟨c, d⟩ := qn4 (m := popS m) (by omega)
  obtain ⟨e, f⟩ := qn2 (m := popS (popS m)) (z := opF op (popV (popS m)) (popV m)) (by omega)
  unfold binS
  exact ⟨by omega, f.trans (d.trans b)⟩
theorem sim_ok {m : Mch} {gs : List Gl} {op arg : Int} (h0 : 1 ≤ op) (h1 : op ≤ 20) (n17 : op ≠ 17) (n18 : op ≠ 18) (hp : popZ op.toNat ≤ m.dp) (hq : m.dp - popZ op.toNat + pushZ' op.toNat ≤ 16) (hd : m.dp ≤ 16) :
    ((simS m gs op arg).dp : Int) = m.dp - popZ op.toNat + pushZ' op.toNat ∧ (simS m gs op arg).fl = m.fl := by
  obtain ⟨k, rfl⟩ : ∃ k : Nat, op = k := ⟨op.toNat, by omega⟩
  rw [Int.toNat_natCast] at hp hq ⊢
  have hk : k ≤ 20 := by omega
  have hcases : k = 1 ∨ k = 2 ∨ k = 3 ∨ k = 4 ∨ k = 5 ∨ k = 6 ∨ k = 7 ∨ (8 ≤ k ∧ k ≤ 12) ∨ k = 13 ∨ k = 14 ∨ k = 15 ∨ k = 16 ∨ k = 19 ∨ k = 20 := by omega
  have pv : ∀ z, (popZ k = 0 ∧ pushZ' k = 1) → (((pushS m z).dp : Int) = m.dp - popZ k + pushZ' k ∧ (pushS m z).fl = m.fl) := fun z hz => by
    obtain ⟨a, b⟩ := qn2 (m := m) (z := z) (by omega)
    exact ⟨by omega, b⟩
  have pp : ∀ z, (popZ k = 1 ∧ pushZ' k = 1) → (((pushS (popS m) z).dp : Int) = m.dp - popZ k + pushZ' k ∧ (pushS (popS m) z).fl = m.fl) := fun z hz => by
    obtain ⟨a, b⟩ := qn4 (m := m) (by omega)
    obtain ⟨c, d⟩ := qn2 (m := popS m) (z := z) (by omega)
    exact ⟨by omega, d.trans b⟩
  have po : (popZ k = 1 ∧ pushZ' k = 0) → (((popS m).dp : Int) = m.dp - popZ k + pushZ' k ∧ (popS m).fl = m.fl) := fun hz => by
    obtain ⟨a, b⟩ := qn4 (m := m) (by omega)
    exact ⟨by omega, b⟩
  rcases hcases with rfl | rfl | rfl | rfl | rfl | rfl | rfl | ⟨ha, hb⟩ | rfl | rfl | rfl | rfl | rfl | rfl
  · exact pv _ ⟨rfl, rfl⟩
  · exact pv _ ⟨rfl, rfl⟩
  · exact pv _ ⟨rfl, rfl⟩
  · exact pp _ ⟨rfl, rfl⟩
  · exact pp _ ⟨rfl, rfl⟩
  · exact pv _ ⟨rfl, rfl⟩
  · exact pv _ ⟨rfl, rfl⟩
  · have e : popZ k = 2 ∧ pushZ' k = 1 := by
      have : k = 8 ∨ k = 9 ∨ k = 10 ∨ k = 11 ∨ k = 12 := by omega
      rcases this with rfl | rfl | rfl | rfl | rfl <;> exact ⟨rfl, rfl⟩
    have hs : simS m gs k arg = binS m k := by
      unfold simS valZ
      rw [if_neg (by omega), if_neg (by omega), if_neg (by omega), if_neg (by omega), if_neg (by omega)]
      exact if_pos (by omega)
    obtain ⟨a, b⟩ := binS_ok (m := m) (op := k) (by omega) hd
    rw [hs]
    exact ⟨by omega, b⟩
  · exact pp _ ⟨rfl, rfl⟩
  · have e : popZ 14 = 1 ∧ pushZ' 14 = 2 := ⟨rfl, rfl⟩
    obtain ⟨a, b⟩ := qn4 (m := m) (by omega)
    obtain ⟨c, d⟩ := qn2 (m := popS m) (z := popV m) (by omega)
    obtain ⟨c', d'⟩ := qn2 (m := pushS (popS m) (popV m)) (z := popV m) (by omega)
    show (((pushS (pushS (popS m) (popV m)) (popV m)).dp : Nat) : Int) = _ ∧ (pushS (pushS (popS m) (popV m)) (popV m)).fl = _
    exact ⟨by omega, d'.trans (d.trans b)⟩
  · exact po ⟨rfl, rfl⟩
  · have e : popZ 16 = 2 ∧ pushZ' 16 = 2 := ⟨rfl, rfl⟩
    obtain ⟨a, b⟩ := qn4 (m := m) (by omega)
    obtain ⟨a', b'⟩ := qn4 (m := popS m) (by omega)
    obtain ⟨c, d⟩ := qn2 (m := popS (popS m)) (z := popV m) (by omega)
    obtain ⟨c', d'⟩ := qn2 (m := pushS (popS (popS m)) (popV m)) (z := popV (popS m)) (by omega)
    show (((pushS (pushS (popS (popS m)) (popV m)) (popV (popS m))).dp : Nat) : Int) = _ ∧ (pushS (pushS (popS (popS m)) (popV m)) (popV (popS m))).fl = _
    exact ⟨by omega, d'.trans (d.trans (b'.trans b))⟩
  · have hs : (simS m gs (19 : Nat) arg).dp = (popS m).dp ∧ (simS m gs (19 : Nat) arg).fl = (popS m).fl := by
      show (unS m gs 19).dp = _ ∧ (unS m gs 19).fl = _
      unfold unS; simp only []
      repeat' split
      all_goals first | omega | exact ⟨rfl, rfl⟩
    rw [hs.1, hs.2]
    exact po ⟨rfl, rfl⟩
  · have hs : (simS m gs (20 : Nat) arg).dp = (popS m).dp ∧ (simS m gs (20 : Nat) arg).fl = (popS m).fl := by
      show (unS m gs 20).dp = _ ∧ (unS m gs 20).fl = _
      unfold unS; simp only []
      repeat' split
      all_goals first | omega | exact ⟨rfl, rfl⟩
    rw [hs.1, hs.2]
    exact po ⟨rfl, rfl⟩
theorem step_ok {l : List Ins} {gs : List Gl} {x : Ins} {i : Nat} {m : Mch} (hi : i < l.length) (h : InsOk l.length i x) (hp : popZ x.1.toNat ≤ m.dp) (hq : aft x m.dp ≤ 16) (hd : m.dp ≤ 16) :
    (stepX l gs x (i + 1) m).2.fl = m.fl ∧ (((stepX l gs x (i + 1) m).1 = l.length ∧ x.1 = 0) ∨ (((stepX l gs x (i + 1) m).1 : Int) ∈ succL x.1 x.2 i ∧ ((stepX l gs x (i + 1) m).2.dp : Int) = aft x m.dp)) := by
  obtain ⟨op, arg⟩ := x
  have o0 := h.o0
  have o1 := h.o1
  unfold aft at hq ⊢
  simp only at o0 o1 hp hq ⊢
  unfold stepX succL
  simp only
  by_cases z0 : op = 0
  · rw [if_pos z0]; exact ⟨rfl, .inl ⟨rfl, z0⟩⟩
  by_cases z17 : op = 17
  · subst z17
    have hj := h.j (.inl rfl)
    simp only at hj
    rw [if_neg z0, if_pos rfl]
    refine ⟨rfl, .inr ⟨?_, ?_⟩⟩
    · rw [if_pos (.inr rfl), if_pos (.inl rfl)]
      simp only [List.mem_append, List.mem_singleton]
      exact .inr (by omega)
    · show (m.dp : Int) = m.dp - popZ 17 + pushZ' 17
      have e : popZ 17 = 0 ∧ pushZ' 17 = 0 := ⟨rfl, rfl⟩
      omega
  by_cases z18 : op = 18
  · subst z18
    have hj := h.j (.inr rfl)
    simp only at hj
    have e : popZ (18 : Int).toNat = 1 ∧ pushZ' (18 : Int).toNat = 0 := ⟨rfl, rfl⟩
    obtain ⟨a, b⟩ := qn4 (m := m) (by omega)
    rw [if_neg z0, if_neg z17, if_pos rfl]
    refine ⟨b, .inr ⟨?_, ?_⟩⟩
    · rw [if_neg (by omega), if_pos (.inr rfl)]
      simp only [List.mem_append, List.mem_singleton]
      by_cases hz : popV m = 0
      · rw [if_pos hz]; exact .inr (by omega)
      · rw [if_neg hz]; exact .inl (by omega)
    · show ((popS m).dp : Int) = _
      omega
  · rw [if_neg z0, if_neg z17, if_neg z18]
    obtain ⟨a, b⟩ := sim_ok (m := m) (gs := gs) (arg := arg) (by omega) o1 z17 z18 hp hq hd
    refine ⟨b, .inr ⟨?_, a⟩⟩
    rw [if_neg (by omega)]
    simp only [List.mem_append, List.mem_singleton]
    exact .inl (by omega)

theorem run_safe {l : List Ins} {gs : List Gl} {c0 w0 : Int} {o f : List Int} {F : Int} (hok : ∀ i, i < l.length → InsOk l.length i (xx l i)) (ho : DepOk l l.length o) (hf : FueOk l l.length f) :
    ∀ (g i s : Nat) (m : Mch), m.fl = false → (s : Int) ≤ F → m.dp ≤ 16 → (i < l.length → o.getD i 0 = m.dp ∧ (s : Int) + f.getD i 0 ≤ F) → (runZ l gs c0 w0 F g i s m).e = 0 ∧ ((runZ l gs c0 w0 F g i s m).s : Int) ≤ F
  | 0, i, s, m, _, hs, _, _ => ⟨rfl, hs⟩
  | g + 1, i, s, m, hfl, hs, hd, hi => by
    unfold runZ
    by_cases hil : i < l.length
    · obtain ⟨a, b⟩ := hi hil
      obtain ⟨f1, f2⟩ := hf.ok i (by omega) hil
      obtain ⟨p, q, r⟩ := ho.ok i hil hil (by omega)
      rw [a] at p q r
      obtain ⟨u, v⟩ := step_ok (gs := gs) (m := m) hil (hok i hil) p q hd
      rw [if_pos hil, if_neg (by omega), if_neg (by rw [u, hfl]; decide)]
      have hq : 0 ≤ aft (xx l i) m.dp := by have := pushZ_nn (xx l i).1.toNat; unfold aft; omega
      rcases v with ⟨v1, v2⟩ | ⟨v1, v2⟩
      · have : (stepX l gs (xx l i) (i + 1) m).2 = m := by unfold stepX; rw [if_pos v2]
        rw [v1, this]
        exact run_safe hok ho hf g _ _ _ hfl (by omega) hd (fun h => by omega)
      · refine run_safe hok ho hf g _ _ _ (u.trans hfl) (by omega) (by omega) (fun h => ?_)
        have := r _ v1 (by omega)
        have h2 := f2 _ v1
        rw [Int.toNat_natCast] at this h2
        exact ⟨by omega, by omega⟩
    · rw [if_neg hil]; exact ⟨rfl, hs⟩
theorem run_less {l : List Ins} {gs : List Gl} {c0 w0 F : Int} : ∀ (g i s : Nat) (m : Mch), (runZ l gs c0 w0 F g i s m).e = 0 → s < (runZ l gs c0 w0 F g i s m).s →
    runZ l gs c0 w0 (((runZ l gs c0 w0 F g i s m).s : Int) - 1) g i s m = ⟨c0, w0, (runZ l gs c0 w0 F g i s m).s - 1, 14⟩
  | 0, i, s, m, _, h => absurd h (Nat.lt_irrefl s)
  | g + 1, i, s, m, he, h => by
    by_cases hil : i < l.length
    · by_cases hsF : (s : Int) = F
      · have e : runZ l gs c0 w0 F (g + 1) i s m = ⟨c0, w0, s, 14⟩ := by rw [runZ, if_pos hil, if_pos hsF]
        rw [e] at he; exact absurd he (show ¬ (14 : Int) = 0 by decide)
      · by_cases hfl : (stepX l gs (xx l i) (i + 1) m).2.fl = true
        · have e : runZ l gs c0 w0 F (g + 1) i s m = ⟨c0, w0, s + 1, 13⟩ := by rw [runZ, if_pos hil, if_neg hsF, if_pos hfl]
          rw [e] at he; exact absurd he (show ¬ (13 : Int) = 0 by decide)
        · have e : runZ l gs c0 w0 F (g + 1) i s m = runZ l gs c0 w0 F g (stepX l gs (xx l i) (i + 1) m).1 (s + 1) (stepX l gs (xx l i) (i + 1) m).2 := by rw [runZ, if_pos hil, if_neg hsF, if_neg hfl]
          rw [e] at he h ⊢
          rw [runZ, if_pos hil]
          by_cases hs1 : (s : Int) = ((runZ l gs c0 w0 F g (stepX l gs (xx l i) (i + 1) m).1 (s + 1) (stepX l gs (xx l i) (i + 1) m).2).s : Int) - 1
          · rw [if_pos hs1]
            have : s = (runZ l gs c0 w0 F g (stepX l gs (xx l i) (i + 1) m).1 (s + 1) (stepX l gs (xx l i) (i + 1) m).2).s - 1 := by omega
            rw [← this]
          · rw [if_neg hs1, if_neg hfl]
            exact run_less g _ _ _ he (by omega)
    · have e : runZ l gs c0 w0 F (g + 1) i s m = ⟨m.cls, m.wt, s, 0⟩ := by rw [runZ, if_neg hil]
      rw [e] at h; exact absurd h (Nat.lt_irrefl s)
theorem depE_zero {l : List Ins} (h : depE l = 0) : chkS l = 0 ∧ ∃ o, depS l l.length = some o := by
  unfold depE at h
  by_cases hc : chkS l = 0
  · rw [if_pos hc] at h
    refine ⟨hc, ?_⟩
    cases hd : depS l l.length with
    | none => rw [hd] at h; exact absurd h (by decide)
    | some o => exact ⟨o, rfl⟩
  · rw [if_neg hc] at h; exact absurd h hc
def fuelZ (l : List Ins) : Int := (fueS l l.length).getD 0 0
theorem fuelZ_le (l : List Ins) : 0 ≤ fuelZ l ∧ fuelZ l ≤ l.length := (okF_fueS l l.length).get (Int.natCast_nonneg _) 0
theorem safe_law {l : List Ins} (h : depE l = 0) (hl : l.length ≤ 5000) (gs : List Gl) (row cls wt rul : Int) (gv : Value) :
    (outZ l gs row cls wt rul (fuelZ l) gv).e = 0 ∧ ((outZ l gs row cls wt rul (fuelZ l) gv).s : Int) ≤ fuelZ l ∧
    (0 < (outZ l gs row cls wt rul (fuelZ l) gv).s → outZ l gs row cls wt rul (((outZ l gs row cls wt rul (fuelZ l) gv).s : Int) - 1) gv = ⟨cls, wt, (outZ l gs row cls wt rul (fuelZ l) gv).s - 1, 14⟩) := by
  obtain ⟨hc, o, ho⟩ := depE_zero h
  obtain ⟨_, hok⟩ := chkS_ok hc
  have hb := fuelZ_le l
  have e : ∀ F, 0 ≤ F → F ≤ 5000 → outZ l gs row cls wt rul F gv = runZ l gs cls wt F l.length 0 0 (m0 row gv cls wt rul) := fun F h1 h2 => by
    unfold outZ; rw [if_pos hc, show max 0 (min F 5000) = F by omega]
  have e1 := e (fuelZ l) hb.1 (by omega)
  have hd := depOk hok l.length o (Nat.le_refl _) ho
  obtain ⟨a, b⟩ := run_safe (gs := gs) (c0 := cls) (w0 := wt) (F := fuelZ l) hok hd (fueOk hok l.length (Nat.le_refl _)) l.length 0 0 (m0 row gv cls wt rul) rfl hb.1 (by show 0 ≤ 16; omega) (fun hi => ⟨hd.z hi, by show ((0 : Nat) : Int) + fuelZ l ≤ fuelZ l; omega⟩)
  rw [e1]
  refine ⟨a, b, fun hs => ?_⟩
  rw [e _ (by omega) (by omega)]
  exact run_less _ _ _ _ a hs
end Go.Proofs.YtlhagkbhojmjpaaDoor

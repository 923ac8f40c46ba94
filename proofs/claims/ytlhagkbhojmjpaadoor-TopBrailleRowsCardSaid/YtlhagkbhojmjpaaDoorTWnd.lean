/- Written by this repo's own program out of its texts. -/
import Derived.Test.YtlhagkbhojmjpaaDoorTFc
namespace Go.Proofs.YtlhagkbhojmjpaaDoor
set_option linter.unusedSimpArgs false
set_option linter.unusedVariables false
def cntW (sz n : Nat) : Nat := (n - 1) / sz + 1
def lineW (sz i n : Nat) : List (Nat × Nat) := (List.range (cntW sz n)).map fun j => (i, j * sz)
def winsW (sz : Nat) : Nat → List Nat → List (Nat × Nat)
  | _, [] => []
  | i, n :: ns => lineW sz i n ++ winsW sz (i + 1) ns
def offW (sz : Nat) : List Nat → Nat
  | [] => 0
  | n :: ns => cntW sz n + offW sz ns
theorem qih (sz n : Nat) : 1 ≤ cntW sz n := Nat.succ_le_succ (Nat.zero_le _)
theorem qik (sz i n : Nat) : (lineW sz i n).length = cntW sz n := by simp [lineW]
theorem qii (sz : Nat) : ∀ (i : Nat) (ns : List Nat), (winsW sz i ns).length = offW sz ns
  | _, [] => rfl
  | i, n :: ns => by rw [winsW, List.length_append, qik, qii sz (i + 1) ns]; rfl
theorem lineW_get {sz i n j : Nat} (h : j < cntW sz n) : (lineW sz i n)[j]? = some (i, j * sz) := by
  simp [lineW, List.getElem?_range h]
theorem qif (sz : Nat) : ∀ (i : Nat) (xs bs : List Nat), winsW sz i (xs ++ bs) = winsW sz i xs ++ winsW sz (i + xs.length) bs
  | i, [], bs => rfl
  | i, a :: xs, bs => by
    rw [List.cons_append, winsW, winsW, qif sz (i + 1) xs bs, List.append_assoc, List.length_cons]
    rw [show i + 1 + xs.length = i + (xs.length + 1) by omega]
theorem qh6 (sz : Nat) : ∀ {ns : List Nat} {k n : Nat}, ns[k]? = some n → offW sz (ns.take (k + 1)) = offW sz (ns.take k) + cntW sz n
  | m :: ns, 0, n, h => by
    simp at h; subst h; simp [offW]
  | m :: ns, k + 1, n, h => by
    have := qh6 sz (ns := ns) (k := k) (n := n) (by simpa using h)
    simp only [List.take_succ_cons, offW] at this ⊢; omega
theorem qh8 (sz : Nat) : ∀ (ns : List Nat) (k : Nat), offW sz (ns.take k) ≤ offW sz ns
  | [], k => by simp [offW]
  | n :: ns, 0 => by simp [offW]
  | n :: ns, k + 1 => by
    have := qh8 sz ns k
    simp only [List.take_succ_cons, offW]; omega
theorem qic {sz : Nat} : ∀ {i : Nat} {ns : List Nat} {k n j : Nat}, ns[k]? = some n → j < cntW sz n → (winsW sz i ns)[offW sz (ns.take k) + j]? = some (i + k, j * sz)
  | i, m :: ns, 0, n, j, h, hj => by
    simp at h; subst h
    rw [winsW, List.take_zero, offW, Nat.zero_add, List.getElem?_append_left (by rw [qik]; exact hj), lineW_get hj]
    rfl
  | i, m :: ns, k + 1, n, j, h, hj => by
    have := qic (i := i + 1) (ns := ns) (k := k) (n := n) (j := j) (by simpa using h) hj
    rw [winsW, List.take_succ_cons, offW, List.getElem?_append_right (by rw [qik]; omega), qik]
    rw [show cntW sz m + offW sz (ns.take k) + j - cntW sz m = offW sz (ns.take k) + j by omega, this]
    rw [show i + 1 + k = i + (k + 1) by omega]
def nowW (row dl : Nat) (l : List (Nat × Nat)) : Nat := (l.foldl (fun (p : Nat × Nat) (w : Nat × Nat) => (if w.1 = row ∧ w.2 ≤ dl then p.2 else p.1, p.2 + 1)) (0, 0)).1
theorem nowW_len (row dl : Nat) (l : List (Nat × Nat)) : ∀ p : Nat × Nat, (l.foldl (fun (p : Nat × Nat) (w : Nat × Nat) => (if w.1 = row ∧ w.2 ≤ dl then p.2 else p.1, p.2 + 1)) p).2 = p.2 + l.length := by
  induction l with
  | nil => intro p; rfl
  | cons w l ih => intro p; rw [List.foldl_cons, ih, List.length_cons]; simp only []; omega
theorem qia (row dl : Nat) (l : List (Nat × Nat)) (w : Nat × Nat) : nowW row dl (l ++ [w]) = if w.1 = row ∧ w.2 ≤ dl then l.length else nowW row dl l := by
  unfold nowW
  rw [List.foldl_append]
  simp only [List.foldl_cons, List.foldl_nil, nowW_len, Nat.zero_add]
theorem nowW_bnd (row dl : Nat) (l : List (Nat × Nat)) : nowW row dl l ≤ l.length := by
  have : ∀ (l : List (Nat × Nat)) (p : Nat × Nat), p.1 ≤ p.2 → (l.foldl (fun (p : Nat × Nat) (w : Nat × Nat) => (if w.1 = row ∧ w.2 ≤ dl then p.2 else p.1, p.2 + 1)) p).1 ≤ p.2 + l.length := by
    intro l
    induction l with
    | nil => intro p h; simpa using h
    | cons w l ih =>
      intro p h
      rw [List.foldl_cons, List.length_cons]
      have := ih (if w.1 = row ∧ w.2 ≤ dl then p.2 else p.1, p.2 + 1) (by dsimp only; split <;> omega)
      dsimp only at this ⊢
      omega
  simpa [nowW] using this l (0, 0) (Nat.le_refl _)
theorem nowW_snd (row dl : Nat) {n : Nat} (l : List (Nat × Nat)) (h : ∀ w ∈ l, w.1 ≠ row) (m : List (Nat × Nat)) : nowW row dl (m ++ l) = nowW row dl m := by
  induction l generalizing m with
  | nil => simp
  | cons w l ih =>
    rw [show m ++ w :: l = (m ++ [w]) ++ l by simp, ih (fun x hx => h x (List.mem_cons_of_mem _ hx)), qia, if_neg (fun e => h w List.mem_cons_self e.1)]
theorem winsW_rows {sz : Nat} : ∀ {i : Nat} {ns : List Nat} {w : Nat × Nat}, w ∈ winsW sz i ns → i ≤ w.1 ∧ w.1 < i + ns.length
  | i, [], w, h => by simp [winsW] at h
  | i, n :: ns, w, h => by
    rw [winsW, List.mem_append] at h
    rcases h with h | h
    · simp only [lineW, List.mem_map] at h
      obtain ⟨j, _, rfl⟩ := h
      simp only [List.length_cons]; omega
    · have := winsW_rows h
      simp only [List.length_cons]; omega
theorem nowW_line {row dl sz : Nat} (hs : 1 ≤ sz) (m : List (Nat × Nat)) : ∀ c : Nat, nowW row dl (m ++ (List.range (c + 1)).map fun j => (row, j * sz)) = m.length + min (dl / sz) c
  | 0 => by
    have e : (List.range (0 + 1)).map (fun j => (row, j * sz)) = [(row, 0)] := by simp
    rw [e, qia, if_pos (show (row, 0).1 = row ∧ (row, 0).2 ≤ dl from ⟨rfl, Nat.zero_le _⟩)]; simp
  | c + 1 => by
    rw [List.range_succ, List.map_append, ← List.append_assoc, List.map_cons, List.map_nil, qia, nowW_line hs m c]
    simp only [List.length_append, List.length_map, List.length_range]
    by_cases h : (c + 1) * sz ≤ dl
    · rw [if_pos ⟨trivial, h⟩]
      have : c + 1 ≤ dl / sz := (Nat.le_div_iff_mul_le (by omega)).2 h
      omega
    · rw [if_neg (fun e => h e.2)]
      have : ¬ (c + 1 ≤ dl / sz) := fun e => h ((Nat.le_div_iff_mul_le (by omega)).1 e)
      omega
theorem qim {sz dl row n : Nat} {ns : List Nat} (hs : 1 ≤ sz) (h : ns[row]? = some n) : nowW row dl (winsW sz 0 ns) = offW sz (ns.take row) + min (dl / sz) (cntW sz n - 1) := by
  have hlt : row < ns.length := (List.getElem?_eq_some_iff.1 h).1
  have hn : ns[row] = n := (List.getElem?_eq_some_iff.1 h).2
  have e : ns = ns.take row ++ n :: ns.drop (row + 1) := by
    rw [← hn, List.getElem_cons_drop, List.take_append_drop]
  have hl : (ns.take row).length = row := by rw [List.length_take]; omega
  conv => lhs; rw [e]
  rw [qif, hl, Nat.zero_add, winsW, ← List.append_assoc, nowW_snd (n := 0) row dl (winsW sz (row + 1) (ns.drop (row + 1)))]
  · unfold lineW
    rw [show cntW sz n = (cntW sz n - 1) + 1 by have := qih sz n; omega, nowW_line hs, qii]
    simp
  · intro w hw
    have := winsW_rows hw
    omega
def panI (n now : Nat) (by' : Int) : Int := max 0 (min ((now : Int) + max (-(n : Int)) (min by' n)) ((n : Int) - 1))
theorem panI_lt {n a : Nat} {x : Int} (hn : 1 ≤ n) : 0 ≤ panI n a x ∧ panI n a x < n := by
  unfold panI
  omega
theorem panI_one {n a : Nat} (ha : a < n) : panI n a 1 = min ((a : Int) + 1) ((n : Int) - 1) := by
  unfold panI
  omega
def toW (sz dr dl : Nat) (ns : List Nat) (b : Int) : Nat × Nat := ((winsW sz 0 ns)[(panI (offW sz ns) (nowW (min dr (ns.length - 1)) dl (winsW sz 0 ns)) b).toNat]?).getD (0, 0)
theorem toW_one {sz k j n : Nat} {ns : List Nat} (hs : 1 ≤ sz) (h : ns[k]? = some n) (hj : j < cntW sz n) : toW sz k (j * sz) ns 1 = if j + 1 < cntW sz n then (k, (j + 1) * sz) else if k + 1 < ns.length then (k + 1, 0) else (k, j * sz) := by
  have hk : k < ns.length := (List.getElem?_eq_some_iff.1 h).1
  have h1 := qh6 sz h
  have h2 := qh8 sz ns (k + 1)
  have hnow : nowW (min k (ns.length - 1)) (j * sz) (winsW sz 0 ns) = offW sz (ns.take k) + j := by
    rw [show min k (ns.length - 1) = k by omega, qim hs h, Nat.mul_div_cancel _ (by omega)]
    omega
  unfold toW
  rw [hnow, panI_one (by omega)]
  by_cases h3 : j + 1 < cntW sz n
  · rw [if_pos h3, show (min (((offW sz (ns.take k) + j : Nat) : Int) + 1) ((offW sz ns : Nat) - 1)).toNat = offW sz (ns.take k) + (j + 1) by omega, qic h h3]
    simp
  · rw [if_neg h3]
    by_cases h4 : k + 1 < ns.length
    · rw [if_pos h4]
      obtain ⟨m, hm⟩ : ∃ m, ns[k + 1]? = some m := ⟨_, List.getElem?_eq_getElem h4⟩
      have h5 := qh6 sz hm
      have h6 := qh8 sz ns (k + 1 + 1)
      have h7 := qih sz m
      rw [show (min (((offW sz (ns.take k) + j : Nat) : Int) + 1) ((offW sz ns : Nat) - 1)).toNat = offW sz (ns.take (k + 1)) + 0 by omega, qic hm h7]
      simp
    · rw [if_neg h4]
      have h8 : ns.take (k + 1) = ns := List.take_of_length_le (by omega)
      rw [h8] at h1
      rw [show (min (((offW sz (ns.take k) + j : Nat) : Int) + 1) ((offW sz ns : Nat) - 1)).toNat = offW sz (ns.take k) + j by omega, qic h hj]
      simp
theorem offW_bd {sz M : Nat} : ∀ {ns : List Nat}, (∀ n ∈ ns, n ≤ M) → offW sz ns ≤ ns.length * (M + 1)
  | [], _ => by simp [offW]
  | n :: ns, h => by
    have h1 := offW_bd (sz := sz) fun x hx => h x (List.mem_cons_of_mem _ hx)
    have h2 := h n List.mem_cons_self
    have h3 : (n - 1) / sz ≤ n - 1 := Nat.div_le_self _ _
    rw [offW, cntW, List.length_cons, Nat.add_mul, Nat.one_mul]
    omega
end Go.Proofs.YtlhagkbhojmjpaaDoor


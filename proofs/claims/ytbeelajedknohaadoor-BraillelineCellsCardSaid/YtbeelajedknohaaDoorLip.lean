/- The plain law of lines of braille: rows in braille are proper lines. -/
import Derived.Test.YtbeelajedknohaaDoorLin
namespace Go.Proofs.YtbeelajedknohaaDoor
set_option linter.unusedSimpArgs false
set_option linter.unusedVariables false
set_option linter.unusedSectionVars false

def VG (l : List Gl) : Prop := ∀ g ∈ l, validB g.s
theorem VG.tail {g : Gl} {l : List Gl} (h : VG (g :: l)) : VG l := fun x hx => h x (List.mem_cons_of_mem _ hx)
theorem VG.app {a b : List Gl} (h : VG a) (k : VG b) : VG (a ++ b) := fun x hx => (List.mem_append.1 hx).elim (h x) (k x)
def fr1 (g : Gl) : List Int := Go.Proofs.YtbeelajedknohaaDoor.fin (bs g.s)
theorem valid_app {a b : List UInt8} (h : validB a) (k : validB b) : validB (a ++ b) := by
  obtain ⟨l, h1, h2⟩ := h
  obtain ⟨m, k1, k2⟩ := k
  refine ⟨l ++ m, fun n hn => (List.mem_append.1 hn).elim (h1 n) (k1 n), ?_⟩
  rw [bs_append, h2, k2, encZ_append]
theorem valid_nil : validB [] := ⟨[], fun n hn => (by cases hn), rfl⟩
theorem valid_word : ∀ {l : List Gl}, VG l → validB (wordG l)
  | [], _ => valid_nil
  | g :: l, h => valid_app (h g List.mem_cons_self) (valid_word h.tail)
theorem fin_app {a b : List UInt8} (h : validB a) (k : validB b) : Go.Proofs.YtbeelajedknohaaDoor.fin (bs (a ++ b)) = Go.Proofs.YtbeelajedknohaaDoor.fin (bs a) ++ Go.Proofs.YtbeelajedknohaaDoor.fin (bs b) := by
  obtain ⟨l, h1, h2, h3⟩ := fin_valid h
  obtain ⟨m, k1, k2, k3⟩ := fin_valid k
  rw [h3, k3, bs_append, h2, k2, ← encZ_append, fin_encZ, chZs_of fun n hn => (List.mem_append.1 hn).elim (h1 n) (k1 n)]
theorem runesW_flat : ∀ {l : List Gl}, VG l → runesW l = l.flatMap fr1
  | [], _ => rfl
  | g :: l, h => by
    unfold runesW
    rw [wordG_cons, fin_app (h g List.mem_cons_self) (valid_word h.tail)]
    have ih := runesW_flat h.tail
    unfold runesW at ih
    rw [ih]
    rfl
theorem own_runes {l : List Gl} (h : VG l) (i : Nat) : (srcG ng i l).length = (runesW l).length := by
  rw [runesW_flat h, srcG_len, List.length_flatMap]
  rfl
theorem cellsG_runes {l : List Gl} (h : VG l) : cellsG l = cellsZ (runesW l) := by
  rw [runesW_flat h]
  unfold cellsG cellsZ
  rw [List.flatMap_assoc]
  rfl
theorem runesW_ch {l : List Gl} : Chars (runesW l) := fin_chars _

/-! ### Sources are in order -/
def Ups (s : List Int) : Prop := List.Pairwise (· ≤ ·) s
theorem Ups.up {s : List Int} (h : Ups s) : Up s := fun i hi => by
  have := List.pairwise_iff_getElem.1 h i (i + 1) (by omega) hi (by omega)
  rw [List.getD_eq_getElem?_getD, List.getD_eq_getElem?_getD, List.getElem?_eq_getElem hi, List.getElem?_eq_getElem (by omega)]
  exact this
theorem ups_rep (n : Nat) (x : Int) : Ups (List.replicate n x) := by
  refine List.pairwise_iff_getElem.2 fun i j hi hj _ => ?_
  rw [List.getElem_replicate, List.getElem_replicate]
  exact Int.le_refl _
theorem ups_app {a b : List Int} (ha : Ups a) (hb : Ups b) (h : ∀ x ∈ a, ∀ y ∈ b, x ≤ y) : Ups (a ++ b) := List.pairwise_append.2 ⟨ha, hb, h⟩
theorem ups_srcG (f : Gl → Nat) : ∀ (l : List Gl) (i : Nat), Ups (srcG f i l)
  | [], i => List.Pairwise.nil
  | g :: l, i => by
    rw [srcG_cons]
    refine ups_app (ups_rep _ _) (ups_srcG f l (i + 1)) fun x hx y hy => ?_
    have h1 := (List.mem_replicate.1 hx).2
    have h2 := srcG_mem hy
    omega
theorem ups_fromZ : ∀ (us : List (Nat × List Int)) (i : Nat), Ups (fromZ i us)
  | [], i => List.Pairwise.nil
  | (n, c) :: us, i => by
    simp only [fromZ]
    refine ups_app (ups_rep _ _) (ups_fromZ us (i + n)) fun x hx y hy => ?_
    have h1 := (List.mem_replicate.1 hx).2
    have h2 := fromZ_mem hy
    omega
theorem ups_map {o s : List Int} (ho : Ups o) (hs : Ups s) (h0 : ∀ x ∈ s, 0 ≤ x ∧ x < o.length) : Ups (s.map (ownF o)) := by
  refine List.pairwise_map.2 (List.Pairwise.imp_of_mem (fun {a b} ha hb hab => ?_) hs)
  have h1 := h0 a ha
  have h2 := h0 b hb
  exact (Ups.up ho).le (show a.toNat ≤ b.toNat by omega) (by omega)
theorem ownF_mem {o : List Int} {p : Int} (h0 : 0 ≤ p) (h1 : p < o.length) : ownF o p ∈ o := by
  unfold ownF
  rw [List.getD_eq_getElem?_getD, List.getElem?_eq_getElem (by omega)]
  exact List.getElem_mem _
theorem from_in {l : List Gl} (h : VG l) : ∀ x ∈ fromZ 0 (transZ (runesW l)), 0 ≤ x ∧ x < (srcG ng 0 l).length := fun x hx => by
  have h1 := fromZ_mem hx
  have h2 := fromZ_lt (trans_div' (runesW l)) hx
  rw [own_runes h]
  omega
theorem brS0_in {l : List Gl} (h : VG l) (k : Bool) : ∀ x ∈ brS0 l k, 0 ≤ x ∧ x < l.length := fun x hx => by
  unfold brS0 at hx
  cases k with
  | true =>
    rw [if_pos rfl] at hx
    obtain ⟨p, hp, rfl⟩ := List.mem_map.1 hx
    have h1 := from_in h p hp
    have h2 := srcG_mem (ownF_mem h1.1 h1.2)
    omega
  | false =>
    rw [if_neg (by decide)] at hx
    have h2 := srcG_mem hx
    omega
theorem ups_brS0 {l : List Gl} (h : VG l) (k : Bool) : Ups (brS0 l k) := by
  unfold brS0
  cases k with
  | true =>
    rw [if_pos rfl]
    exact ups_map (ups_srcG _ _ _) (ups_fromZ _ _) (from_in h)
  | false =>
    rw [if_neg (by decide)]
    exact ups_srcG _ _ _
theorem ups_brS {l : List Gl} (h : VG l) (k : Bool) : Ups (brS l k) := by
  refine ups_app (ups_brS0 h k) (List.pairwise_singleton _ _) fun x hx y hy => ?_
  have h1 := brS0_in h k x hx
  have h2 := List.mem_singleton.1 hy
  omega
theorem brS_last (l : List Gl) (k : Bool) : (brS l k).getD (brC l k).length 0 = l.length := by
  unfold brS
  rw [← brS0_len l k, List.getD_eq_getElem?_getD, List.getElem?_append_right (Nat.le_refl _)]
  simp
theorem brS_get {l : List Gl} {k : Bool} {i : Nat} (h : i < (brC l k).length) : (brS l k).getD i 0 ∈ brS0 l k := by
  have hl := brS0_len l k
  unfold brS
  rw [List.getD_eq_getElem?_getD, List.getElem?_append_left (by omega), List.getElem?_eq_getElem (by omega)]
  exact List.getElem_mem _
theorem br_PL {l : List Gl} (h : VG l) (k : Bool) : PL (brC l k) (brS l k) := by
  refine ⟨brS_len l k, ?_, (ups_brS h k).up⟩
  rcases Nat.eq_zero_or_pos (brC l k).length with h0 | h0
  · have := brS_last l k
    rw [h0] at this
    omega
  · exact (brS0_in h k _ (brS_get h0)).1
theorem brT_texts {l m : List Gl} (h : l.map Gl.s = m.map Gl.s) (k : Bool) : brT l k = brT m k := by
  have hw : wordG l = wordG m := by unfold wordG; rw [List.flatMap_def, List.flatMap_def, h]
  have hlen : l.length = m.length := by have := congrArg List.length h; simpa using this
  have hc : cellsG l = cellsG m := by
    have e : ∀ l : List Gl, cellsG l = (l.map Gl.s).flatMap fun s => cellsZ (Go.Proofs.YtbeelajedknohaaDoor.fin (bs s)) := fun l => by
      unfold cellsG
      rw [List.flatMap_map]
      rfl
    rw [e, e, h]
  have hs : ∀ (f : List UInt8 → Nat) (l m : List Gl) (i : Nat), l.map Gl.s = m.map Gl.s → srcG (fun g => f g.s) i l = srcG (fun g => f g.s) i m := by
    intro f l
    induction l with
    | nil => intro m i h; cases m with
      | nil => rfl
      | cons _ _ => cases h
    | cons g l ih => intro m i h; cases m with
      | nil => cases h
      | cons g' m =>
        simp only [List.map_cons, List.cons.injEq] at h
        rw [srcG_cons, srcG_cons, h.1, ih m (i + 1) h.2]
  have h1 := hs (fun s => (cellsZ (Go.Proofs.YtbeelajedknohaaDoor.fin (bs s))).length) l m 0 h
  have h2 := hs (fun s => (Go.Proofs.YtbeelajedknohaaDoor.fin (bs s)).length) l m 0 h
  have e1 : ∀ l, srcG (fun g => (cg g).length) 0 l = srcG (fun g => (cellsZ (Go.Proofs.YtbeelajedknohaaDoor.fin (bs g.s))).length) 0 l := fun _ => rfl
  have e2 : ∀ l, srcG ng 0 l = srcG (fun g => (Go.Proofs.YtbeelajedknohaaDoor.fin (bs g.s)).length) 0 l := fun _ => rfl
  unfold brT lineT brC brS brS0 runesW
  rw [hw, hc, hlen, e1 l, e1 m, h1, e2 l, e2 m, h2]
theorem cellsG_app (a b : List Gl) : cellsG (a ++ b) = cellsG a ++ cellsG b := by unfold cellsG; rw [List.flatMap_append]
theorem br_short {l : List Gl} (h : VG l) : (brC l true).length ≤ (brC l false).length := by
  unfold brC
  rw [if_pos rfl, if_neg (by decide), trans_len, cellsG_runes h]
  exact tot_le_cells runesW_ch

/-! ### Fine rows -/
def fineB (l : List Gl) : Bool := decide (l.length ≤ 30) && l.all fun g => decide (g.s.length ≤ 20) && Lib.validD g.s
theorem fineB_spec {l : List Gl} (h : fineB l = true) : l.length ≤ 30 ∧ VG l ∧ (wordG l).length ≤ 20 * l.length ∧ ∀ g ∈ l, g.s.length ≤ 20 := by
  unfold fineB at h
  simp only [Bool.and_eq_true, decide_eq_true_eq, List.all_eq_true] at h
  refine ⟨h.1, fun g hg => (validD_iff _).1 (h.2 g hg).2, ?_, fun g hg => (h.2 g hg).1⟩
  have h2 : ∀ g ∈ l, g.s.length ≤ 20 := fun g hg => (h.2 g hg).1
  clear h
  induction l with
  | nil => simp [wordG]
  | cons g l ih =>
    rw [wordG_cons, List.length_append, List.length_cons]
    have h3 := h2 g List.mem_cons_self
    have h4 := ih fun x hx => h2 x (List.mem_cons_of_mem _ hx)
    omega
end Go.Proofs.YtbeelajedknohaaDoor

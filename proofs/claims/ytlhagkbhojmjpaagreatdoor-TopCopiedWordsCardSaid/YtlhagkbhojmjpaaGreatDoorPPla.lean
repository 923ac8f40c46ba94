/- Written by this repo's own program out of its texts. -/
import Derived.Test.YtlhagkbhojmjpaaGreatDoorPMh
set_option linter.unusedSimpArgs false
set_option linter.unusedVariables false
set_option linter.unusedSectionVars false
namespace Go.Proofs.YtlhagkbhojmjpaaGreatDoor
abbrev By := List UInt8
def vocabL : List By := [[122, 101, 114, 111], [111, 110, 101], [116, 119, 111], [116, 104, 114, 101, 101], [102, 111, 117, 114], [102, 105, 118, 101], [115, 105, 120], [115, 101, 118, 101, 110], [101, 105, 103, 104, 116], [110, 105, 110, 101], [116, 101, 110], [101, 108, 101, 118, 101, 110], [116, 119, 101, 108, 118, 101], [116, 104, 105, 114, 116, 101, 101, 110], [102, 111, 117, 114, 116, 101, 101, 110], [102, 105, 102, 116, 101, 101, 110], [115, 105, 120, 116, 101, 101, 110], [115, 101, 118, 101, 110, 116, 101, 101, 110], [101, 105, 103, 104, 116, 101, 101, 110], [110, 105, 110, 101, 116, 101, 101, 110], [116, 119, 101, 110, 116, 121], [116, 104, 105, 114, 116, 121], [102, 111, 114, 116, 121], [102, 105, 102, 116, 121], [115, 105, 120, 116, 121], [115, 101, 118, 101, 110, 116, 121], [101, 105, 103, 104, 116, 121], [110, 105, 110, 101, 116, 121], [104, 117, 110, 100, 114, 101, 100], [116, 104, 111, 117, 115, 97, 110, 100], [109, 105, 108, 108, 105, 111, 110], [109, 105, 110, 117, 115]]
def ctrlL : List By := [[99, 104, 97, 114, 97, 99, 116, 101, 114], [106, 111, 105, 110, 101, 100], [99, 97, 112], [99, 97, 112, 115], [119, 111, 114, 100], [115, 112, 97, 99, 101], [116, 105, 109, 101, 115], [115, 112, 101, 108, 108, 101, 100], [101, 110, 100], [100, 105, 103, 105, 116, 115], [112, 108, 97, 105, 110], [115, 116, 114, 111, 110, 103], [105, 110, 118, 101, 114, 115, 101], [104, 105, 100, 100, 101, 110], [115, 105, 122, 101], [114, 111, 119, 115], [99, 111, 108, 117, 109, 110, 115], [115, 99, 114, 111, 108, 108], [108, 105, 110, 101], [108, 105, 110, 101, 115], [102, 114, 111, 109], [116, 111], [117, 112], [100, 111, 119, 110], [99, 111, 108, 117, 109, 110], [114, 101, 112, 108, 97, 99, 101], [119, 105, 116, 104], [105, 110, 115, 101, 114, 116], [100, 101, 108, 101, 116, 101], [99, 117, 114, 115, 111, 114], [118, 105, 115, 105, 98, 108, 101], [105, 110, 118, 105, 115, 105, 98, 108, 101], [109, 111, 114, 101], [100, 111, 110, 101], [117, 112, 100, 97, 116, 101, 115], [114, 101, 97, 100, 115], [115, 116, 111, 112], [98, 108, 97, 110, 107], [98, 121]]
def nameL : List By := [[98, 97, 110, 103], [113, 117, 111, 116, 101], [104, 97, 115, 104], [100, 111, 108, 108, 97, 114], [112, 101, 114, 99, 101, 110, 116], [97, 109, 112, 101, 114, 115, 97, 110, 100], [97, 112, 111, 115, 116, 114, 111, 112, 104, 101], [111, 112, 101, 110], [99, 108, 111, 115, 101], [115, 116, 97, 114], [112, 108, 117, 115], [99, 111, 109, 109, 97], [100, 97, 115, 104], [100, 111, 116], [115, 108, 97, 115, 104], [99, 111, 108, 111, 110], [115, 101, 109, 105, 99, 111, 108, 111, 110], [108, 101, 115, 115], [101, 113, 117, 97, 108, 115], [103, 114, 101, 97, 116, 101, 114], [113, 117, 101, 115, 116, 105, 111, 110], [97, 116], [98, 114, 97, 99, 107, 101, 116], [98, 97, 99, 107, 115, 108, 97, 115, 104], [117, 110, 98, 114, 97, 99, 107, 101, 116], [99, 97, 114, 101, 116], [117, 110, 100, 101, 114, 115, 99, 111, 114, 101], [98, 97, 99, 107, 113, 117, 111, 116, 101], [98, 114, 97, 99, 101], [98, 97, 114], [117, 110, 98, 114, 97, 99, 101], [116, 105, 108, 100, 101]]
def signL : By := [33, 34, 35, 36, 37, 38, 39, 40, 41, 42, 43, 44, 45, 46, 47, 58, 59, 60, 61, 62, 63, 64, 91, 92, 93, 94, 95, 96, 123, 124, 125, 126]
def vw (i : Nat) : By := vocabL.getD i []
def qu8 (n : Nat) : List Nat := (if 100 ≤ n then [n / 100, 28] else []) ++ (if 20 ≤ n % 100 then [18 + n % 100 / 10] else []) ++ (if 0 < (if 20 ≤ n % 100 then n % 10 else n % 100) then [if 20 ≤ n % 100 then n % 10 else n % 100] else [])
def qus (n : Nat) (s : List Nat) : List Nat := if 0 < n then qu8 n ++ s else []
def qvo (n : Nat) : List Nat := if n = 0 then [0] else qus (n / 1000000) [30] ++ qus (n % 1000000 / 1000) [29] ++ qus (n % 1000) []
def qub (n : Nat) : List By := (qvo n).map vw
def wordsZ (n : Int) : Option (List By) := if n < -999999999 ∨ 999999999 < n then none else some (if n < 0 then vw 31 :: qub n.natAbs else qub n.natAbs)
def valW (w : By) : Option Int := (vocabL.take 28).findIdx? (· == w) |>.map fun i => if 20 < i then 10 * ((i : Int) - 18) else i
def qug (w : By) (s : Int × Int) : Option (Int × Int) :=
 (if w = vw 31 then some s else if w = vw 28 then some (s.1, s.2 * 100) else if w = vw 29 then some (s.1 + 1000 * s.2, 0) else if w = vw 30 then some (s.1 + 1000000 * s.2, 0) else (valW w).map fun n => (s.1, s.2 + n)).bind fun t => if 999999999 < t.2 ∨ 999999999 < t.1 then none else some t
def quc : List By → Int × Int → Option (Int × Int)
 | [], s => some s
 | w :: l, s => (qug w s).bind (quc l)
def numZ (l : List By) : Option Int := if l = [] ∨ 15 < l.length then none else (quc l (0, 0)).bind fun s => if wordsZ (if l.head? = some (vw 31) then -(s.1 + s.2) else s.1 + s.2) = some l then some (if l.head? = some (vw 31) then -(s.1 + s.2) else s.1 + s.2) else none
def prefZ (l : List By) : Nat → Option (Int × Nat)
 | 0 => none
 | k + 1 => match numZ (l.take (k + 1)) with
  | some n => some (n, k + 1)
  | none => prefZ l k
def qvc (l : List By) : Option (Int × Nat) := prefZ l (min l.length 15)
theorem que : ∀ (a b : List By) (s : Int × Int), quc (a ++ b) s = (quc a s).bind (quc b)
 | [], b, s => rfl
 | w :: a, b, s => by
  show (qug w s).bind (quc (a ++ b)) = _
  cases h : qug w s with
  | none => simp [quc, h]
  | some t => simp [quc, h, que a b t]
theorem step_small : ∀ i : Fin 28, valW (vw i.val) = some (if 20 < i.val then 10 * ((i.val : Int) - 18) else i.val) ∧ vw i.val ≠ vw 31 ∧ vw i.val ≠ vw 28 ∧ vw i.val ≠ vw 29 ∧ vw i.val ≠ vw 30 := by decide
theorem qu6 {i : Nat} (h : i < 28) (a p : Int) (hp : p + (if 20 < i then 10 * ((i : Int) - 18) else i) ≤ 999999999) (ha : a ≤ 999999999) : qug (vw i) (a, p) = some (a, p + (if 20 < i then 10 * ((i : Int) - 18) else i)) := by
 obtain ⟨h1, h2, h3, h4, h5⟩ := step_small ⟨i, h⟩
 simp only at h1 h2 h3 h4 h5
 unfold qug
 rw [if_neg h2, if_neg h3, if_neg h4, if_neg h5, h1]
 simp only [Option.map_some, Option.bind_some]
 rw [if_neg (by omega)]
theorem step_hund (a p : Int) (hp : p * 100 ≤ 999999999) (ha : a ≤ 999999999) : qug (vw 28) (a, p) = some (a, p * 100) := by
 unfold qug
 rw [if_neg (by decide), if_pos rfl]
 simp only [Option.bind_some]
 rw [if_neg (by omega)]
theorem step_thou (a p : Int) (ha : a + 1000 * p ≤ 999999999) : qug (vw 29) (a, p) = some (a + 1000 * p, 0) := by
 unfold qug
 rw [if_neg (by decide), if_neg (by decide), if_pos rfl]
 simp only [Option.bind_some]
 rw [if_neg (by omega)]
theorem step_mill (a p : Int) (ha : a + 1000000 * p ≤ 999999999) : qug (vw 30) (a, p) = some (a + 1000000 * p, 0) := by
 unfold qug
 rw [if_neg (by decide), if_neg (by decide), if_neg (by decide), if_pos rfl]
 simp only [Option.bind_some]
 rw [if_neg (by omega)]
theorem qun {w : By} {s t : Int × Int} (h : qug w s = some t) : quc [w] s = some t := by
 unfold quc
 rw [h]
 rfl
theorem fold_small {n : Nat} (h1 : n ≤ 999) {a : Int} (ha : a ≤ 999999999) : quc ((qu8 n).map vw) (a, 0) = some (a, (n : Int)) := by
 unfold qu8
 rw [List.map_append, List.map_append, que, que]
 have e1 : quc ((if 100 ≤ n then [n / 100, 28] else []).map vw) (a, 0) = some (a, ((n / 100 * 100 : Nat) : Int)) := by
  by_cases h : 100 ≤ n
  ·rw [if_pos h]
   show quc ([vw (n / 100)] ++ [vw 28]) (a, 0) = _
   have hd : n / 100 < 10 := by omega
   rw [que, qun (qu6 (by omega) a 0 (by rw [if_neg (by omega)]; omega) ha)]
   rw [if_neg (by omega)]
   simp only [Option.bind_some]
   rw [qun (step_hund a _ (by omega) ha)]
   congr 2
   omega
  ·rw [if_neg h]
   show some (a, (0 : Int)) = _
   congr 2
   omega
 rw [e1]
 simp only [Option.bind_some]
 have e2 : quc ((if 20 ≤ n % 100 then [18 + n % 100 / 10] else []).map vw) (a, ((n / 100 * 100 : Nat) : Int)) = some (a, ((n / 100 * 100 + (if 20 ≤ n % 100 then n % 100 / 10 * 10 else 0) : Nat) : Int)) := by
  by_cases h : 20 ≤ n % 100
  ·rw [if_pos h, if_pos h]
   show quc [vw (18 + n % 100 / 10)] _ = _
   by_cases h20 : 20 < 18 + n % 100 / 10
   ·rw [qun (qu6 (by omega) a _ (by rw [if_pos h20]; omega) ha), if_pos h20]
    congr 2
    omega
   ·rw [qun (qu6 (by omega) a _ (by rw [if_neg h20]; omega) ha), if_neg h20]
    congr 2
    omega
  ·rw [if_neg h, if_neg h]
   rfl
 rw [e2]
 simp only [Option.bind_some]
 obtain ⟨q, hq⟩ : ∃ q, (if 20 ≤ n % 100 then n % 10 else n % 100) = q := ⟨_, rfl⟩
 rw [hq]
 have hq20 : q < 20 := by rw [← hq]; split <;> omega
 have hn : n / 100 * 100 + (if 20 ≤ n % 100 then n % 100 / 10 * 10 else 0) + q = n := by
  rw [← hq]
  split <;> omega
 by_cases h : 0 < q
 ·rw [if_pos h]
  show quc [vw q] _ = _
  rw [qun (qu6 (by omega) a _ (by rw [if_neg (show ¬ 20 < q by omega)]; omega) ha), if_neg (show ¬ 20 < q by omega)]
  congr 2
  omega
 ·rw [if_neg h]
  show some _ = _
  congr 2
  omega
theorem smallI_len (n : Nat) : (qu8 n).length ≤ 4 := by
 unfold qu8
 split <;> split <;> split <;> simp
theorem qvd {n : Nat} (h1 : n ≤ 999) (u : List Nat) {a : Int} {t : Int × Int} (ha : a ≤ 999999999) (ht : 0 < n → quc (u.map vw) (a, (n : Int)) = some t) (h0 : n = 0 → t = (a, 0)) : quc ((qus n u).map vw) (a, 0) = some t := by
 unfold qus
 by_cases h : 0 < n
 ·rw [if_pos h, List.map_append, que, fold_small h1 ha]
  exact ht h
 ·rw [if_neg h, h0 (by omega)]
  rfl
theorem fold_words {n : Nat} (h : n ≤ 999999999) : quc (qub n) (0, 0) = some (((n / 1000 * 1000 : Nat) : Int), ((n % 1000 : Nat) : Int)) := by
 unfold qub qvo
 by_cases h0 : n = 0
 ·subst h0
  rw [if_pos rfl]
  exact qun (qu6 (i := 0) (by decide) 0 0 (by rw [if_neg (by decide)]; omega) (by omega))
 rw [if_neg h0, List.map_append, List.map_append, que, que]
 have e1 : quc ((qus (n / 1000000) [30]).map vw) (0, 0) = some (((n / 1000000 * 1000000 : Nat) : Int), 0) := by
  refine qvd (by omega) _ (by omega) (fun _ => ?_) (fun h => by rw [h]; rfl)
  show quc [vw 30] _ = _
  rw [qun (step_mill 0 _ (by omega))]
  congr 2
  omega
 rw [e1]
 simp only [Option.bind_some]
 have e2 : quc ((qus (n % 1000000 / 1000) [29]).map vw) (((n / 1000000 * 1000000 : Nat) : Int), 0) = some (((n / 1000 * 1000 : Nat) : Int), 0) := by
  refine qvd (by omega) _ (by omega) (fun _ => ?_) (fun h => Prod.ext (show ((n / 1000 * 1000 : Nat) : Int) = ((n / 1000000 * 1000000 : Nat) : Int) by omega) rfl)
  show quc [vw 29] _ = _
  rw [qun (step_thou _ _ (by omega))]
  exact congrArg some (Prod.ext (show ((n / 1000000 * 1000000 : Nat) : Int) + 1000 * ((n % 1000000 / 1000 : Nat) : Int) = ((n / 1000 * 1000 : Nat) : Int) by omega) rfl)
 rw [e2]
 simp only [Option.bind_some]
 refine qvd (by omega) _ (by omega) (fun _ => rfl) (fun h => by rw [h]; rfl)
theorem groupI_len (n : Nat) (u : List Nat) (hu : u.length ≤ 1) : (qus n u).length ≤ 5 := by
 unfold qus
 have := smallI_len n
 split
 ·rw [List.length_append]; omega
 ·simp
theorem wordsW_len (n : Nat) : (qub n).length ≤ 14 := by
 unfold qub qvo
 rw [List.length_map]
 split
 ·simp
 ·have h1 := groupI_len (n / 1000000) [30] (by simp)
  have h2 := groupI_len (n % 1000000 / 1000) [29] (by simp)
  have h3 : (qus (n % 1000) []).length ≤ 4 := by
   unfold qus
   have := smallI_len (n % 1000)
   split
   ·rw [List.append_nil]; exact this
   ·simp
  rw [List.length_append, List.length_append]
  omega
theorem qvb {n : Nat} (h : n ≤ 999) : ∀ i ∈ qu8 n, i < 29 := by
 intro i hi
 unfold qu8 at hi
 simp only [List.mem_append] at hi
 rcases hi with (hi | hi) | hi
 ·split at hi
  ·simp at hi; omega
  ·simp at hi
 ·split at hi
  ·simp at hi; omega
  ·simp at hi
 ·by_cases h2 : 20 ≤ n % 100
  ·rw [if_pos h2] at hi
   split at hi
   ·simp at hi; omega
   ·simp at hi
  ·rw [if_neg h2] at hi
   split at hi
   ·simp at hi; omega
   ·simp at hi
theorem wordsI_mem {n : Nat} (h : n ≤ 999999999) : ∀ i ∈ qvo n, i < 31 := by
 intro i hi
 unfold qvo qus at hi
 split at hi
 ·simp at hi; omega
 ·simp only [List.mem_append] at hi
  rcases hi with (hi | hi) | hi
  ·split at hi
   ·simp only [List.mem_append] at hi
    rcases hi with hi | hi
    ·have := qvb (by omega) i hi; omega
    ·simp at hi; omega
   ·simp at hi
  ·split at hi
   ·simp only [List.mem_append] at hi
    rcases hi with hi | hi
    ·have := qvb (by omega) i hi; omega
    ·simp at hi; omega
   ·simp at hi
  ·split at hi
   ·simp only [List.mem_append] at hi
    rcases hi with hi | hi
    ·have := qvb (by omega) i hi; omega
    ·simp at hi
   ·simp at hi
theorem qvl {n : Nat} (h : 0 < n) : qu8 n ≠ [] := by
 unfold qu8
 by_cases h1 : 100 ≤ n
 ·rw [if_pos h1]; simp
 ·by_cases h2 : 20 ≤ n % 100
  ·rw [if_pos h2]; simp
  ·have h3 : 0 < n % 100 := by omega
   simp [h2, h3]
theorem wordsI_ne (n : Nat) : qvo n ≠ [] := by
 unfold qvo qus
 split
 ·simp
 ·rename_i h
  by_cases h1 : 0 < n / 1000000
  ·rw [if_pos h1]
   have := qvl h1
   simp [this]
  ·by_cases h2 : 0 < n % 1000000 / 1000
   ·rw [if_pos h2]
    have := qvl h2
    simp [this]
   ·have h3 : 0 < n % 1000 := by omega
    rw [if_pos h3]
    have := qvl h3
    simp [this]
theorem vw_inj : ∀ i : Fin 31, vw i.val ≠ vw 31 := by decide
theorem qu5 (n : Nat) : qub n ≠ [] := by
 unfold qub
 intro h
 exact wordsI_ne n (List.map_eq_nil_iff.1 h)
theorem qve {n : Nat} (h : n ≤ 999999999) : ∀ w ∈ qub n, w ∈ vocabL := by
 intro w hw
 unfold qub at hw
 obtain ⟨i, hi, rfl⟩ := List.mem_map.1 hw
 have hlt := wordsI_mem h i hi
 unfold vw
 rw [List.getD_eq_getElem?_getD, List.getElem?_eq_getElem (show i < vocabL.length by show i < 32; omega)]
 exact List.getElem_mem _
theorem head_ne {n : Nat} (h : n ≤ 999999999) : (qub n).head? ≠ some (vw 31) := by
 intro hh
 have hm : vw 31 ∈ qub n := List.mem_of_mem_head? hh
 unfold qub at hm
 obtain ⟨i, hi, he⟩ := List.mem_map.1 hm
 exact vw_inj ⟨i, wordsI_mem h i hi⟩ he
theorem num_words {n : Nat} (h : n ≤ 999999999) : numZ (qub n) = some (n : Int) := by
 have hl := wordsW_len n
 unfold numZ
 rw [if_neg (by intro k; rcases k with k | k; exact qu5 n k; omega), fold_words h]
 simp only [Option.bind_some]
 rw [if_neg (head_ne h)]
 have e : ((n / 1000 * 1000 : Nat) : Int) + ((n % 1000 : Nat) : Int) = (n : Int) := by omega
 rw [e, if_pos]
 unfold wordsZ
 rw [if_neg (by omega), if_neg (by omega)]
 simp
theorem valW_vocab {w : By} {n : Int} (h : valW w = some n) : w ∈ vocabL := by
 unfold valW at h
 cases hf : (vocabL.take 28).findIdx? (· == w) with
 | none => rw [hf] at h; cases h
 | some i =>
  obtain ⟨hi, he, _⟩ := List.findIdx?_eq_some_iff_getElem.1 hf
  have he : (vocabL.take 28)[i] = w := by simpa using he
  rw [← he]
  exact List.mem_of_mem_take (List.getElem_mem hi)
theorem step_none {w : By} (h : w ∉ vocabL) (s : Int × Int) : qug w s = none := by
 have m : ∀ i, i < 32 → vw i ∈ vocabL := fun i hi => by
  unfold vw
  rw [List.getD_eq_getElem?_getD, List.getElem?_eq_getElem (show i < vocabL.length from hi)]
  exact List.getElem_mem _
 unfold qug
 have e : ∀ i, i < 32 → w ≠ vw i := fun i hi e => h (by rw [e]; exact m i hi)
 rw [if_neg (e 31 (by decide)), if_neg (e 28 (by decide)), if_neg (e 29 (by decide)), if_neg (e 30 (by decide))]
 cases hv : valW w with
 | none => rfl
 | some n => exact absurd (valW_vocab hv) h
theorem fold_none : ∀ {l : List By} {w : By} (s : Int × Int), w ∈ l → w ∉ vocabL → quc l s = none
 | [], w, s, h, _ => by cases h
 | x :: l, w, s, h, hv => by
  unfold quc
  rcases List.mem_cons.1 h with rfl | h
  ·rw [step_none hv]; rfl
  ·cases qug x s with
   | none => rfl
   | some t => exact fold_none t h hv
theorem num_none {l : List By} {w : By} (h : w ∈ l) (hv : w ∉ vocabL) : numZ l = none := by
 unfold numZ
 split
 ·rfl
 ·rw [fold_none _ h hv]; rfl
theorem pref_up {l : List By} {m : Nat} {r : Option (Int × Nat)} : ∀ k, (∀ j, m < j → j ≤ m + k → numZ (l.take j) = none) → prefZ l m = r → prefZ l (m + k) = r
 | 0, _, h => h
 | k + 1, hn, h => by
  have := pref_up k (fun j h1 h2 => hn j h1 (by omega)) h
  show prefZ l (m + k + 1) = r
  unfold prefZ
  rw [hn (m + k + 1) (by omega) (by omega)]
  exact this
theorem prefix_words {n : Nat} (h : n ≤ 999999999) {rest : List By} (hr : ∀ w, rest.head? = some w → w ∉ vocabL) : qvc (qub n ++ rest) = some ((n : Int), (qub n).length) := by
 have hl := wordsW_len n
 have hne := qu5 n
 have hpos : 0 < (qub n).length := List.length_pos_iff.2 hne
 have e : prefZ (qub n ++ rest) (qub n).length = some ((n : Int), (qub n).length) := by
  obtain ⟨k, hk⟩ : ∃ k, (qub n).length = k + 1 := ⟨(qub n).length - 1, by omega⟩
  rw [hk]
  unfold prefZ
  rw [← hk, List.take_left', num_words h]
  rfl
 unfold qvc
 obtain ⟨k, hk⟩ : ∃ k, min (qub n ++ rest).length 15 = (qub n).length + k := ⟨min (qub n ++ rest).length 15 - (qub n).length, by rw [List.length_append]; omega⟩
 rw [hk]
 refine pref_up k (fun j h1 h2 => ?_) e
 cases rest with
 | nil => rw [List.append_nil] at hk; omega
 | cons w rest =>
  refine num_none (w := w) ?_ (hr w rfl)
  rw [List.take_append, List.mem_append]
  refine .inr ?_
  obtain ⟨i, hi⟩ : ∃ i, j - (qub n).length = i + 1 := ⟨j - (qub n).length - 1, by omega⟩
  rw [hi, List.take_succ_cons]
  exact List.mem_cons_self
end Go.Proofs.YtlhagkbhojmjpaaGreatDoor

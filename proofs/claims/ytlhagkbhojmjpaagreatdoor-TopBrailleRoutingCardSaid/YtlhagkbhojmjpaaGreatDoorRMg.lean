/- Written by this repo's own program out of its texts. -/
import Derived.Test.YtlhagkbhojmjpaaGreatDoorRMf
import Derived.Test.YtlhagkbhojmjpaaGreatDoorRB1
import Derived.Test.YtlhagkbhojmjpaaGreatDoorRMc
namespace Go.Proofs.YtlhagkbhojmjpaaGreatDoor
set_option linter.unusedSimpArgs false
set_option linter.unusedVariables false
set_option linter.unusedSectionVars false
structure Gl where
  s : List UInt8
  w : Bool
  y : Int
instance : Inhabited Gl := ⟨⟨[], false, 0⟩⟩
def glT (g : Gl) : TV := .agg [.str g.s, .bool g.w, .int g.y]
def glsT (l : List Gl) : TV := .list (l.map glT)
theorem qbs {a b : List Gl} (h : glsT a = glsT b) : a = b := by
  unfold glsT at h
  simp only [TV.list.injEq] at h
  have := congrArg (List.map fun t : TV => (⟨(t.cell 0).asStr, (t.cell 1).asBool, (t.cell 2).asInt⟩ : Gl)) h
  simpa [List.map_map, Function.comp_def, glT, TV.cell, TV.cells, TV.asInt, TV.asStr, TV.asBool] using this
theorem zzx {a b : List Gl} : glsT a = glsT b ↔ a = b := ⟨qbs, fun h => by rw [h]⟩
theorem zaw (l : List Gl) : (glsT l).asList = l.map glT := rfl
theorem zbo (l : List Gl) : (glsT l).asList.length = l.length := by rw [zaw, List.length_map]
def gg (l : List Gl) (i : Nat) : Gl := l.getD i default
theorem zi7 {l : List Gl} {i : Nat} (h : i < l.length) : (l.map glT).getD i (.int 0) = glT (gg l i) := by
  unfold gg
  rw [List.getD_eq_getElem?_getD, List.getElem?_map, List.getD_eq_getElem?_getD, List.getElem?_eq_getElem h]
  rfl
theorem zkt {l : List Gl} {k : Nat} (h : k < l.length) : l.drop k = gg l k :: l.drop (k + 1) := by
  unfold gg
  rw [List.drop_eq_getElem_cons h, List.getD_eq_getElem?_getD, List.getElem?_eq_getElem h]
  rfl
def cg (g : Gl) : List Int := za8 (Go.Proofs.YtlhagkbhojmjpaaGreatDoor.fin (bs g.s))
def ng (g : Gl) : Nat := (Go.Proofs.YtlhagkbhojmjpaaGreatDoor.fin (bs g.s)).length
def srcG (f : Gl → Nat) : Nat → List Gl → List Int
  | _, [] => []
  | i, g :: l => List.replicate (f g) (i : Int) ++ srcG f (i + 1) l
def zbt (l : List Gl) : List Int := l.flatMap cg
def wordG (l : List Gl) : List UInt8 := l.flatMap Gl.s
theorem zfb (g : Gl) (l : List Gl) : zbt (g :: l) = cg g ++ zbt l := rfl
theorem zb8 (g : Gl) (l : List Gl) : wordG (g :: l) = g.s ++ wordG l := rfl
theorem zc1 (f : Gl → Nat) (i : Nat) (g : Gl) (l : List Gl) : srcG f i (g :: l) = List.replicate (f g) (i : Int) ++ srcG f (i + 1) l := rfl
theorem zs6 (f : Gl → Nat) : ∀ (l : List Gl) (i : Nat), (srcG f i l).length = (l.map f).sum
  | [], i => rfl
  | g :: l, i => by rw [zc1, List.length_append, List.length_replicate, zs6 f l, List.map_cons, List.sum_cons]
theorem z4a (l : List Gl) : (zbt l).length = (l.map fun g => (cg g).length).sum := by
  induction l with
  | nil => rfl
  | cons g l ih => rw [zfb, List.length_append, ih, List.map_cons, List.sum_cons]
theorem cg_len (g : Gl) : (cg g).length ≤ 7 * g.s.length := by
  unfold cg
  have h1 := zgp (Go.Proofs.YtlhagkbhojmjpaaGreatDoor.fin (bs g.s))
  have h2 := zco g.s
  omega
theorem zob (l : List Gl) : (zbt l).length ≤ 7 * (wordG l).length := by
  induction l with
  | nil => simp [zbt]
  | cons g l ih =>
    rw [zfb, zb8, List.length_append, List.length_append]
    have := cg_len g
    omega
theorem zs8 (l : List Gl) (i : Nat) : (srcG (fun g => (cg g).length) i l).length = (zbt l).length := by rw [zs6, z4a]
theorem z8i (l : List Gl) (i : Nat) : (srcG ng i l).length ≤ (wordG l).length := by
  induction l generalizing i with
  | nil => simp [srcG]
  | cons g l ih =>
    rw [zc1, zb8, List.length_append, List.length_append, List.length_replicate]
    have := ih (i + 1)
    have h2 : ng g ≤ g.s.length := zco g.s
    omega
theorem zml {f : Gl → Nat} : ∀ {l : List Gl} {i : Nat} {x : Int}, x ∈ srcG f i l → (i : Int) ≤ x ∧ x < i + l.length
  | [], i, x, h => by cases h
  | g :: l, i, x, h => by
    rw [zc1] at h
    rw [List.length_cons]
    rcases List.mem_append.1 h with h | h
    · have := (List.mem_replicate.1 h).2
      omega
    · have := zml h
      omega
theorem zjh : ∀ {us : List (Nat × List Int)} {i : Nat} {x : Int}, x ∈ fromZ i us → (i : Int) ≤ x
  | [], i, x, h => by cases h
  | (n, c) :: us, i, x, h => by
    simp only [fromZ] at h
    rcases List.mem_append.1 h with h | h
    · have := (List.mem_replicate.1 h).2
      omega
    · have := zjh h
      omega
theorem fromZ_lt {l : List Int} {us : List (Nat × List Int)} (h : Div l us) : ∀ {i : Nat} {x : Int}, x ∈ fromZ i us → x < i + l.length := by
  induction h with
  | nil => intro i x h; cases h
  | @cons l n c us h t ih =>
    intro i x hx
    have hc := ziw h
    simp only [fromZ] at hx
    rcases List.mem_append.1 hx with hx | hx
    · have := (List.mem_replicate.1 hx).2
      omega
    · have := ih hx
      rw [List.length_drop] at this
      omega
def lineT (c s : List Int) : TV := .agg [ints c, ints s]
def zbg (l : List Gl) : List Int := Go.Proofs.YtlhagkbhojmjpaaGreatDoor.fin (bs (wordG l))
def ownF (o : List Int) (p : Int) : Int := o.getD p.toNat 0
def brC (l : List Gl) (k : Bool) : List Int := if k = true then cellsOf (zay (zbg l)) else zbt l
def brS0 (l : List Gl) (k : Bool) : List Int := if k = true then (fromZ 0 (zay (zbg l))).map (ownF (srcG ng 0 l)) else srcG (fun g => (cg g).length) 0 l
def brS (l : List Gl) (k : Bool) : List Int := brS0 l k ++ [(l.length : Int)]
def brT (l : List Gl) (k : Bool) : TV := lineT (brC l k) (brS l k)
theorem zj4 (l : List Gl) : (zbg l).length ≤ (wordG l).length := zco _
theorem ztl (l : List Gl) (k : Bool) : (brS0 l k).length = (brC l k).length := by
  unfold brS0 brC
  cases k with
  | true => rw [if_pos rfl, if_pos rfl, List.length_map, zdb]
  | false => rw [if_neg (by decide), if_neg (by decide), zs8]
theorem zym (l : List Gl) (k : Bool) : (brS l k).length = (brC l k).length + 1 := by unfold brS; rw [List.length_append, ztl]; rfl
theorem z1x (l : List Gl) (k : Bool) : (brC l k).length ≤ 7 * (wordG l).length := by
  unfold brC
  cases k with
  | true =>
    rw [if_pos rfl, zbm]
    have h1 := zg8 (zbg l)
    have h2 := zj4 l
    omega
  | false => rw [if_neg (by decide)]; exact zob l
def Up (s : List Int) : Prop := ∀ i : Nat, i + 1 < s.length → s.getD i 0 ≤ s.getD (i + 1) 0
def PL (c s : List Int) : Prop := s.length = c.length + 1 ∧ 0 ≤ s.getD 0 0 ∧ Up s
theorem Up.le {s : List Int} (h : Up s) : ∀ {i j : Nat}, i ≤ j → j < s.length → s.getD i 0 ≤ s.getD j 0 := by
  intro i j hij hj
  induction j with
  | zero => have : i = 0 := by omega
            rw [this]; exact Int.le_refl _
  | succ j ih =>
    rcases Nat.lt_or_ge i (j + 1) with h1 | h1
    · have := ih (by omega) (by omega)
      have := h j hj
      omega
    · have : i = j + 1 := by omega
      rw [this]; exact Int.le_refl _
theorem PL.pos {c s : List Int} (h : PL c s) {i : Nat} (hi : i < s.length) : 0 ≤ s.getD i 0 := by
  have := h.2.2.le (Nat.zero_le i) hi
  have := h.2.1
  omega
noncomputable instance (c s : List Int) : Decidable (PL c s) := Classical.propDecidable _
noncomputable def sizeT (c s : List Int) : TV := if PL c s then .agg [.int (s.getD c.length 0), .bool true] else .agg [.int 0, .bool false]
def Head1 (s : List Int) (i : Nat) : Prop := i = 0 ∨ ¬ s.getD i 0 = s.getD (i - 1) 0
instance (s : List Int) (i : Nat) : Decidable (Head1 s i) := inferInstanceAs (Decidable (_ ∨ _))
def bestN (s : List Int) (g : Int) : Nat → Nat
  | 0 => 0
  | i + 1 => if s.getD i 0 ≤ g ∧ Head1 s i then i else bestN s g i
theorem bestN_le (s : List Int) (g : Int) : ∀ n, bestN s g n ≤ n
  | 0 => Nat.le_refl _
  | n + 1 => by
    unfold bestN
    split
    · omega
    · have := bestN_le s g n; omega
theorem zj9 {s : List Int} {g : Int} {i : Nat} (hu : Up s) (hi : i < s.length) (h : g < s.getD i 0) : ∀ {n : Nat}, i ≤ n → n ≤ s.length → bestN s g n = bestN s g i
  | 0, h1, _ => by have : i = 0 := by omega
                   rw [this]
  | n + 1, h1, h2 => by
    rcases Nat.lt_or_ge i (n + 1) with h3 | h3
    · have := hu.le (show i ≤ n by omega) (by omega)
      rw [show bestN s g (n + 1) = if s.getD n 0 ≤ g ∧ Head1 s n then n else bestN s g n from rfl, if_neg (by omega)]
      exact zj9 hu hi h (by omega) (by omega)
    · have : i = n + 1 := by omega
      rw [this]
noncomputable def zdk (c s : List Int) (g : Int) : Int :=
  if ¬ PL c s ∨ g < 0 ∨ 1000000 < g then -1 else if s.getD c.length 0 ≤ g then (c.length : Int) + g - s.getD c.length 0 else bestN s g c.length
noncomputable def zb6 (c s : List Int) (k : Int) : Int :=
  if ¬ PL c s ∨ k < 0 ∨ 1000000 < k then -1 else if k < c.length then s.getD k.toNat 0 else IntKind.wrap .i64 (IntKind.wrap .i64 (s.getD c.length 0 + k) - c.length)
theorem bestN_spec {s : List Int} {i : Nat} (hu : Up s) (hi : i < s.length) : ∀ {n : Nat}, i < n → n ≤ s.length → s.getD (bestN s (s.getD i 0) n) 0 = s.getD i 0 ∧ bestN s (s.getD i 0) n ≤ i ∧ (0 < bestN s (s.getD i 0) n → ¬ s.getD (bestN s (s.getD i 0) n - 1) 0 = s.getD i 0) := by
  intro n
  induction n generalizing i with
  | zero => intro h; omega
  | succ n ih =>
    intro h1 h2
    unfold bestN
    by_cases hc : s.getD n 0 ≤ s.getD i 0 ∧ Head1 s n
    · rw [if_pos hc]
      have h3 := hu.le (show i ≤ n by omega) (by omega)
      have he : s.getD n 0 = s.getD i 0 := by omega
      rcases hc.2 with h4 | h4
      · subst h4
        exact ⟨he, by omega, fun h => absurd h (by omega)⟩
      · have hin : n ≤ i := by
          rcases Nat.lt_or_ge i n with h5 | h5
          · exfalso
            have h6 := hu.le (show i ≤ n - 1 by omega) (by omega)
            have h7 := hu.le (show n - 1 ≤ n by omega) (by omega)
            exact h4 (by omega)
          · exact h5
        exact ⟨he, hin, fun _ e => h4 (by omega)⟩
    · rw [if_neg hc]
      rcases Nat.lt_or_ge i n with h3 | h3
      · exact ih hi h3 (by omega)
      · have hin : i = n := by omega
        subst hin
        have hnh : ¬ Head1 s i := fun h => hc ⟨Int.le_refl _, h⟩
        have hi0 : ¬ i = 0 := fun h => hnh (.inl h)
        have he : s.getD i 0 = s.getD (i - 1) 0 := Classical.byContradiction fun h => hnh (.inr h)
        have := ih (i := i - 1) (by omega) (by omega) (by omega)
        rw [← he] at this
        exact ⟨this.1, by omega, this.2.2⟩
def glOf (us : List TV) : Gl := ⟨(us.getD 0 (.int 0)).asStr, (us.getD 1 (.int 0)).asBool, (us.getD 2 (.int 0)).asInt⟩
theorem OkA.gls {t : TV} (h : OkA false [.slice true [.str, .bool, .int .i64]] t) : ∃ l : List Gl, t = glsT l ∧ l.length ≤ reachBytes ∧ ∀ g ∈ l, g.s.length ≤ reachBytes ∧ IntKind.i64.min ≤ g.y ∧ g.y ≤ IntKind.i64.max := by
  obtain ⟨ct, e, h⟩ := h
  simp only [List.cons.injEq, and_true] at e
  subst e
  cases h with
  | rows _ ls h h1 h2 =>
    have key : ∀ us ∈ ls, TV.agg us = glT (glOf us) ∧ (glOf us).s.length ≤ reachBytes ∧ IntKind.i64.min ≤ (glOf us).y ∧ (glOf us).y ≤ IntKind.i64.max := fun us hu => by
      have hl := h1 us hu
      have hc := h2 us hu
      match us, hl with
      | [a, b, c], _ =>
        have k0 := hc 0 _ a rfl rfl
        have k1 := hc 1 _ b rfl rfl
        have k2 := hc 2 _ c rfl rfl
        cases k0 with
        | str s hs =>
          cases k1 with
          | bool w =>
            cases k2 with
            | int _ z hz hz' =>
              refine ⟨?_, hs, hz, hz'⟩
              unfold glT glOf
              simp only [List.getD_cons_zero, List.getD_cons_succ, zab]
              rfl
    refine ⟨ls.map glOf, ?_, by simpa using h, fun g hg => ?_⟩
    · unfold glsT
      rw [List.map_map]
      congr 1
      exact List.map_congr_left fun us hu => (key us hu).1
    · obtain ⟨us, hu, rfl⟩ := List.mem_map.1 hg
      exact (key us hu).2
end Go.Proofs.YtlhagkbhojmjpaaGreatDoor
namespace Go.Proofs.YtlhagkbhojmjpaaGreatDoor
set_option linter.unusedSimpArgs false
set_option linter.unusedVariables false
set_option linter.unusedSectionVars false
def VG (l : List Gl) : Prop := ∀ g ∈ l, zbl g.s
theorem VG.tail {g : Gl} {l : List Gl} (h : VG (g :: l)) : VG l := fun x hx => h x (List.mem_cons_of_mem _ hx)
theorem VG.app {a b : List Gl} (h : VG a) (k : VG b) : VG (a ++ b) := fun x hx => (List.mem_append.1 hx).elim (h x) (k x)
def fr1 (g : Gl) : List Int := Go.Proofs.YtlhagkbhojmjpaaGreatDoor.fin (bs g.s)
theorem z7w {a b : List UInt8} (h : zbl a) (k : zbl b) : zbl (a ++ b) := by
  obtain ⟨l, h1, h2⟩ := h
  obtain ⟨m, k1, k2⟩ := k
  refine ⟨l ++ m, fun n hn => (List.mem_append.1 hn).elim (h1 n) (k1 n), ?_⟩
  rw [zhy, h2, k2, zbh]
theorem qay : zbl [] := ⟨[], fun n hn => (by cases hn), rfl⟩
theorem zp9 : ∀ {l : List Gl}, VG l → zbl (wordG l)
  | [], _ => qay
  | g :: l, h => z7w (h g List.mem_cons_self) (zp9 h.tail)
theorem fin_app {a b : List UInt8} (h : zbl a) (k : zbl b) : Go.Proofs.YtlhagkbhojmjpaaGreatDoor.fin (bs (a ++ b)) = Go.Proofs.YtlhagkbhojmjpaaGreatDoor.fin (bs a) ++ Go.Proofs.YtlhagkbhojmjpaaGreatDoor.fin (bs b) := by
  obtain ⟨l, h1, h2, h3⟩ := zom h
  obtain ⟨m, k1, k2, k3⟩ := zom k
  rw [h3, k3, zhy, h2, k2, ← zbh, zft, zln fun n hn => (List.mem_append.1 hn).elim (h1 n) (k1 n)]
theorem zf8 : ∀ {l : List Gl}, VG l → zbg l = l.flatMap fr1
  | [], _ => rfl
  | g :: l, h => by
    unfold zbg
    rw [zb8, fin_app (h g List.mem_cons_self) (zp9 h.tail)]
    have ih := zf8 h.tail
    unfold zbg at ih
    rw [ih]
    rfl
theorem qau {l : List Gl} (h : VG l) (i : Nat) : (srcG ng i l).length = (zbg l).length := by
  rw [zf8 h, zs6, List.length_flatMap]
  rfl
theorem zpd {l : List Gl} (h : VG l) : zbt l = za8 (zbg l) := by
  rw [zf8 h]
  unfold zbt za8
  rw [List.flatMap_assoc]
  rfl
theorem zq0 {l : List Gl} : Chars (zbg l) := zwl _
def Ups (s : List Int) : Prop := List.Pairwise (· ≤ ·) s
theorem Ups.up {s : List Int} (h : Ups s) : Up s := fun i hi => by
  have := List.pairwise_iff_getElem.1 h i (i + 1) (by omega) hi (by omega)
  rw [List.getD_eq_getElem?_getD, List.getD_eq_getElem?_getD, List.getElem?_eq_getElem hi, List.getElem?_eq_getElem (by omega)]
  exact this
theorem z74 (n : Nat) (x : Int) : Ups (List.replicate n x) := by
  refine List.pairwise_iff_getElem.2 fun i j hi hj _ => ?_
  rw [List.getElem_replicate, List.getElem_replicate]
  exact Int.le_refl _
theorem zzh {a b : List Int} (ha : Ups a) (hb : Ups b) (h : ∀ x ∈ a, ∀ y ∈ b, x ≤ y) : Ups (a ++ b) := List.pairwise_append.2 ⟨ha, hb, h⟩
theorem zs1 (f : Gl → Nat) : ∀ (l : List Gl) (i : Nat), Ups (srcG f i l)
  | [], i => List.Pairwise.nil
  | g :: l, i => by
    rw [zc1]
    refine zzh (z74 _ _) (zs1 f l (i + 1)) fun x hx y hy => ?_
    have h1 := (List.mem_replicate.1 hx).2
    have h2 := zml hy
    omega
theorem zup : ∀ (us : List (Nat × List Int)) (i : Nat), Ups (fromZ i us)
  | [], i => List.Pairwise.nil
  | (n, c) :: us, i => by
    simp only [fromZ]
    refine zzh (z74 _ _) (zup us (i + n)) fun x hx y hy => ?_
    have h1 := (List.mem_replicate.1 hx).2
    have h2 := zjh hy
    omega
theorem ups_map {o s : List Int} (ho : Ups o) (hs : Ups s) (h0 : ∀ x ∈ s, 0 ≤ x ∧ x < o.length) : Ups (s.map (ownF o)) := by
  refine List.pairwise_map.2 (List.Pairwise.imp_of_mem (fun {a b} ha hb hab => ?_) hs)
  have h1 := h0 a ha
  have h2 := h0 b hb
  exact (Ups.up ho).le (show a.toNat ≤ b.toNat by omega) (by omega)
theorem ownF_mem {o : List Int} {p : Int} (h0 : 0 ≤ p) (h1 : p < o.length) : ownF o p ∈ o := by
  unfold ownF
  rw [List.getD_eq_getElem?_getD, List.getElem?_eq_getElem (by omega)]
  exact List.getElem_mem _
theorem zzq {l : List Gl} (h : VG l) : ∀ x ∈ fromZ 0 (zay (zbg l)), 0 ≤ x ∧ x < (srcG ng 0 l).length := fun x hx => by
  have h1 := zjh hx
  have h2 := fromZ_lt (zbu (zbg l)) hx
  rw [qau h]
  omega
theorem z3d {l : List Gl} (h : VG l) (k : Bool) : ∀ x ∈ brS0 l k, 0 ≤ x ∧ x < l.length := fun x hx => by
  unfold brS0 at hx
  cases k with
  | true =>
    rw [if_pos rfl] at hx
    obtain ⟨p, hp, rfl⟩ := List.mem_map.1 hx
    have h1 := zzq h p hp
    have h2 := zml (ownF_mem h1.1 h1.2)
    omega
  | false =>
    rw [if_neg (by decide)] at hx
    have h2 := zml hx
    omega
theorem ups_brS0 {l : List Gl} (h : VG l) (k : Bool) : Ups (brS0 l k) := by
  unfold brS0
  cases k with
  | true =>
    rw [if_pos rfl]
    exact ups_map (zs1 _ _ _) (zup _ _) (zzq h)
  | false =>
    rw [if_neg (by decide)]
    exact zs1 _ _ _
theorem ups_brS {l : List Gl} (h : VG l) (k : Bool) : Ups (brS l k) := by
  refine zzh (ups_brS0 h k) (List.pairwise_singleton _ _) fun x hx y hy => ?_
  have h1 := z3d h k x hx
  have h2 := List.mem_singleton.1 hy
  omega
theorem z1c (l : List Gl) (k : Bool) : (brS l k).getD (brC l k).length 0 = l.length := by
  unfold brS
  rw [← ztl l k, List.getD_eq_getElem?_getD, List.getElem?_append_right (Nat.le_refl _)]
  simp
theorem brS_get {l : List Gl} {k : Bool} {i : Nat} (h : i < (brC l k).length) : (brS l k).getD i 0 ∈ brS0 l k := by
  have hl := ztl l k
  unfold brS
  rw [List.getD_eq_getElem?_getD, List.getElem?_append_left (by omega), List.getElem?_eq_getElem (by omega)]
  exact List.getElem_mem _
theorem br_PL {l : List Gl} (h : VG l) (k : Bool) : PL (brC l k) (brS l k) := by
  refine ⟨zym l k, ?_, (ups_brS h k).up⟩
  rcases Nat.eq_zero_or_pos (brC l k).length with h0 | h0
  · have := z1c l k
    rw [h0] at this
    omega
  · exact (z3d h k _ (brS_get h0)).1
theorem br_short {l : List Gl} (h : VG l) : (brC l true).length ≤ (brC l false).length := by
  unfold brC
  rw [if_pos rfl, if_neg (by decide), zbm, zpd h]
  exact zpi zq0
end Go.Proofs.YtlhagkbhojmjpaaGreatDoor
namespace Go.Proofs.YtlhagkbhojmjpaaGreatDoor
set_option linter.unusedSimpArgs false
set_option linter.unusedVariables false
set_option linter.unusedSectionVars false
def lessL : Law := ⟨fun ts => ∃ (a : Int) (b : Int), ts = [.int a, .int b] ∧ (True), fun ts z₀ => ∀ (a : Int) (b : Int), ts = [.int a, .int b] → z₀ = .bool (decide (a < b))⟩
theorem less_pre {a : Int} {b : Int} (h : True) : lessL.pre [.int a, .int b] := ⟨a, b, rfl, h⟩
theorem z05 {a : Int} {b : Int} {z₀ : TV} (h : z₀ = .bool (decide (a < b))) : lessL.post [.int a, .int b] z₀ := fun a₁ b₁ e => by
  simp only [List.cons.injEq, TV.str.injEq, TV.int.injEq, TV.bool.injEq, TV.agg.injEq, TV.list.injEq, zat, and_true, true_and, and_assoc] at e; obtain ⟨rfl, rfl⟩ := e
  exact h
theorem zsy {a : Int} {b : Int} {Q : TV → Prop} : (∀ z₀, lessL.post [.int a, .int b] z₀ → Q z₀) ↔ Q (.bool (decide (a < b))) := ⟨fun h => h _ (z05 rfl), fun h z₀ hr => by rw [hr _ _ rfl]; exact h⟩
theorem less_c (k : Nat) : Contract Tryz.prog (mkEnv globT []) gtab (zkp k) lessL.pre lessL.post := Contract.env (Γ := mkEnv globT []) (zl8 (fun _ => rfl) (fun s hs => by
    cases hs) k (by
  rintro ts hl ⟨a, b, rfl, hp⟩
  have hfin : ∀ z₀ : TV, z₀ = .bool (decide (a < b)) → lessL.post [.int a, .int b] z₀ := fun z₀ h => z05 h
  generalize lessL.post [.int a, .int b] = R at hfin ⊢
  unfold tr_cmp_Lessint
  simp only [Tree.den, E.den, P1.den, P2.den, P3.den, qa, qb, qc, qd, qe, qf, qg, qh, zac, zab, zad, zaa, zae, TV.cell, zah, zai, zag, zaf, qi, qj, qk, ql, qm, qn, ne_eq, qo, qp, forall_eq, qs, qt, Int.reduceToNat, qu, exists_eq_left']
  repeat' (first | exact hfin _ rfl | (refine ⟨fun h => ?_, fun h => ?_⟩) | contradiction | (exfalso; apply h; trivial)))) rfl
def srcC (k : Nat) (l : List Gl) : List Int := srcG (fun g => (cg g).length) k l
def OaI (l : List Gl) (xs : List TV) : Prop := ∃ (k : Nat) (c s : List Int), xs = [.int k, ints c, ints s] ∧ k ≤ l.length ∧ zbt l = c ++ zbt (l.drop k) ∧ srcC 0 l = s ++ srcC k (l.drop k)
def Oam (l : List Gl) (xs : List TV) : Nat := l.length - (xs.getD 0 (.int 0)).asInt.toNat
def OiI (c s g : List Int) (k : Nat) (xs : List TV) : Prop := ∃ j : Nat, xs = [.int j, ints (c ++ g.take j), ints (s ++ List.replicate j (k : Int))] ∧ j ≤ g.length
def Oim (g : List Int) (xs : List TV) : Nat := g.length - (xs.getD 0 (.int 0)).asInt.toNat
def ObI (l : List Gl) (xs : List TV) : Prop := ∃ (t : List UInt8) (k : Nat) (o : List Int), xs = [.str t, .int k, ints o] ∧ k ≤ l.length ∧ wordG l = t ++ wordG (l.drop k) ∧ srcG ng 0 l = o ++ srcG ng k (l.drop k)
def Obm (l : List Gl) (xs : List TV) : Nat := l.length - (xs.getD 1 (.int 0)).asInt.toNat
def OwI (o : List Int) (n k : Nat) (xs : List TV) : Prop := ∃ j : Nat, xs = [.int j, ints (o ++ List.replicate j (k : Int))] ∧ j ≤ n
def Owm (n : Nat) (xs : List TV) : Nat := n - (xs.getD 0 (.int 0)).asInt.toNat
def OcI (c f o : List Int) (xs : List TV) : Prop := ∃ j : Nat, xs = [.int j, ints (c.take j), ints ((f.map (ownF o)).take j)] ∧ j ≤ c.length
def Ocm (c : List Int) (xs : List TV) : Nat := c.length - (xs.getD 0 (.int 0)).asInt.toNat
theorem zut (k : Nat) (g : Gl) (l : List Gl) : srcC k (g :: l) = List.replicate (cg g).length (k : Int) ++ srcC (k + 1) l := rfl
theorem zkc {l : List Int} {j : Nat} (h : j < l.length) : l.take j ++ [l.getD j 0] = l.take (j + 1) := by
  rw [List.take_add_one, List.getD_eq_getElem?_getD, List.getElem?_eq_getElem h]
  rfl
theorem znp {f o : List Int} {j : Nat} (h : j < f.length) : (f.map (ownF o)).getD j 0 = ownF o (f.getD j 0) := by
  rw [List.getD_eq_getElem?_getD, List.getElem?_map, List.getD_eq_getElem?_getD, List.getElem?_eq_getElem h]
  rfl
theorem gdmem {l : List Int} {j : Nat} (h : j < l.length) : l.getD j 0 ∈ l := by
  rw [List.getD_eq_getElem?_getD, List.getElem?_eq_getElem h]
  exact List.getElem_mem h
theorem z2d (l : List Gl) : brT l true = .agg [ints (cellsOf (zay (zbg l))), ints ((fromZ 0 (zay (zbg l))).map (ownF (srcG ng 0 l)) ++ [(l.length : Int)])] := rfl
theorem zud (l : List Gl) : brT l false = .agg [ints (zbt l), ints (srcC 0 l ++ [(l.length : Int)])] := rfl
def ofL : Law := ⟨fun ts => ∃ (l : List Gl) (a : Int) (b : Bool) (c : Bool) (d : Int) (k : Bool) (n : Int), ts = [glsT l, .agg [.int a, .bool b, .bool c, .int d, .bool k, .int n]] ∧ ((wordG l).length ≤ 1000000 ∧ l.length ≤ 1000000), fun ts z₀ => ∀ (l : List Gl) (a : Int) (b : Bool) (c : Bool) (d : Int) (k : Bool) (n : Int), ts = [glsT l, .agg [.int a, .bool b, .bool c, .int d, .bool k, .int n]] → z₀ = brT l k⟩
theorem ztp {l : List Gl} {a : Int} {b : Bool} {c : Bool} {d : Int} {k : Bool} {n : Int} (h : (wordG l).length ≤ 1000000 ∧ l.length ≤ 1000000) : ofL.pre [glsT l, .agg [.int a, .bool b, .bool c, .int d, .bool k, .int n]] := ⟨l, a, b, c, d, k, n, rfl, h⟩
theorem of_fin {l : List Gl} {a : Int} {b : Bool} {c : Bool} {d : Int} {k : Bool} {n : Int} {z₀ : TV} (h : z₀ = brT l k) : ofL.post [glsT l, .agg [.int a, .bool b, .bool c, .int d, .bool k, .int n]] z₀ := fun l₁ a₁ b₁ c₁ d₁ k₁ n₁ e => by
  simp only [List.cons.injEq, TV.str.injEq, TV.int.injEq, TV.bool.injEq, TV.agg.injEq, TV.list.injEq, zat, and_true, true_and, and_assoc, zzx] at e; obtain ⟨rfl, rfl, rfl, rfl, rfl, rfl, rfl⟩ := e
  exact h
theorem zx9 {l : List Gl} {a : Int} {b : Bool} {c : Bool} {d : Int} {k : Bool} {n : Int} {Q : TV → Prop} : (∀ z₀, ofL.post [glsT l, .agg [.int a, .bool b, .bool c, .int d, .bool k, .int n]] z₀ → Q z₀) ↔ Q (brT l k) := ⟨fun h => h _ (of_fin rfl), fun h z₀ hr => by rw [hr _ _ _ _ _ _ _ rfl]; exact h⟩
theorem of_c (k : Nat) : Contract Tryz.prog (mkEnv globT []) gtab (zbs k) ofL.pre ofL.post := Contract.env (Γ := mkEnv globT [finishL, cellsL, transL]) (ziv (fun _ => rfl) (fun s hs => by
    simp only [cx_brailleline_Of, List.mem_cons, List.not_mem_nil, or_false] at hs
    rcases hs with rfl | rfl | rfl
    · exact Contract.inEnv rfl (zm5 0) rfl
    · exact Contract.inEnv rfl (ze1 1) rfl
    · exact Contract.inEnv rfl (zvs 2) rfl) k (by
  rintro ts hl ⟨l, a, b, c, d, k, n, rfl, hp⟩
  have hfin : ∀ z₀ : TV, z₀ = brT l k → ofL.post [glsT l, .agg [.int a, .bool b, .bool c, .int d, .bool k, .int n]] z₀ := fun z₀ h => of_fin h
  generalize ofL.post [glsT l, .agg [.int a, .bool b, .bool c, .int d, .bool k, .int n]] = R at hfin ⊢
  unfold tr_brailleline_Of
  obtain ⟨hw, hn⟩ := hp
  have hcb := zob l
  have hsb := zs8 l 0
  have hob := z8i l 0
  cases k with
  | false =>
    simp only [Tree.den, E.den, P1.den, P2.den, P3.den, qa, qb, qc, qd, qe, qf, qg, qh, zac, zab, zad, zaa, zae, TV.cell, zah, zai, zag, zaf, qi, qj, qk, ql, qm, qn, ne_eq, qo, qp, forall_eq, qs, qt, Int.reduceToNat, qu, exists_eq_left', zbo, zaw]
    refine ⟨fun _ => ?_, fun h => (by simp at h)⟩
    refine ⟨OaI l, Oam l, ⟨0, [], [], rfl, by omega, by rw [List.drop_zero]; rfl, by rw [List.drop_zero]; rfl⟩, ?_⟩
    rintro xs _ ⟨k, c, s, rfl, hk, hc, hs⟩
    have hD : Oam l [.int (k : Int), ints c, ints s] = l.length - k := rfl
    have hcl := congrArg List.length hc
    have hsl := congrArg List.length hs
    rw [List.length_append] at hcl hsl
    have hsb' : (srcC 0 l).length = (zbt l).length := hsb
    simp only [Tree.den, E.den, P1.den, P2.den, P3.den, qa, qb, qc, qd, qe, qf, qg, qh, zac, zab, zad, zaa, zae, TV.cell, zah, zai, zag, zaf, qi, qj, qk, ql, qm, qn, ne_eq, qo, qp, forall_eq, qs, qt, Int.reduceToNat, qu, exists_eq_left', zaj, zao, zaq, zan, zap, zam, zal, zar, qv, qq, qr, zak, hD, zcz]
    refine ⟨fun hlt => ?_, fun hlt => ?_⟩
    · have hkl : k < l.length := by omega
      have hd := zkt hkl
      rw [hd, zfb] at hc
      rw [hd, zut] at hs
      have hwk : (gg l k).s.length ≤ (wordG l).length := by
        have e : wordG l = wordG (l.take k) ++ ((gg l k).s ++ wordG (l.drop (k + 1))) := by
          rw [← zb8, ← hd]
          unfold wordG
          rw [← List.flatMap_append, List.take_append_drop]
        rw [e]
        simp only [List.length_append]
        omega
      have hcl := congrArg List.length hc
      have hsl := congrArg List.length hs
      simp only [List.length_append, List.length_replicate] at hcl hsl
      simp only [zi7 hkl, glT, Tree.den, E.den, P1.den, P2.den, P3.den, qa, qb, qc, qd, qe, qf, qg, qh, zac, zab, zad, zaa, zae, TV.cell, zah, zai, zag, zaf, qi, qj, qk, ql, qm, qn, ne_eq, qo, qp, forall_eq, qs, qt, Int.reduceToNat, qu, exists_eq_left', zcz]
      simp only [Tree.den, E.den, P1.den, P2.den, P3.den, qa, qb, qc, qd, qe, qf, qg, qh, zac, zab, zad, zaa, zae, TV.cell, zah, zai, zag, zaf, qi, qj, qk, ql, qm, qn, ne_eq, qo, qp, forall_eq, qs, qt, Int.reduceToNat, qu, exists_eq_left', zaj, zao, zaq, zan, zap, zam, zal, zar, qv, qq, qr, zak]
      have hg : za8 (Go.Proofs.YtlhagkbhojmjpaaGreatDoor.fin (bs (gg l k).s)) = cg (gg l k) := rfl
      rw [hg]
      generalize cg (gg l k) = g at *
      refine ⟨by omega, by omega, zei (by omega), OiI c s g k, Oim g, ⟨0, by simp, by omega⟩, ?_⟩
      rintro ys _ ⟨j, rfl, hj⟩
      have hE : ∀ y z, Oim g [.int (j : Int), y, z] = g.length - j := fun y z => rfl
      have ej : IntKind.wrap .i64 ((j : Int) + 1) = ((j + 1 : Nat) : Int) := by rw [wrap_i64 (n := (j : Int) + 1) (by omega) (by omega)]; omega
      have ek : IntKind.wrap .i64 ((k : Int) + 1) = ((k + 1 : Nat) : Int) := by rw [wrap_i64 (n := (k : Int) + 1) (by omega) (by omega)]; omega
      simp only [Tree.den, E.den, P1.den, P2.den, P3.den, qa, qb, qc, qd, qe, qf, qg, qh, zac, zab, zad, zaa, zae, TV.cell, zah, zai, zag, zaf, qi, qj, qk, ql, qm, qn, ne_eq, qo, qp, forall_eq, qs, qt, Int.reduceToNat, qu, exists_eq_left', zaj, zao, zaq, zan, zap, zam, zal, zar, qv, qq, qr, zak, hE, ej, ek, zgw, List.length_replicate, List.length_take]
      refine ⟨fun hlj => ?_, fun hlj => ⟨⟨k + 1, _, _, rfl, by omega, ?_, ?_⟩, ?_⟩⟩
      · refine ⟨by omega, by omega, by omega, by omega, ⟨j + 1, ?_, by omega⟩, ?_⟩
        · rw [List.append_assoc, zkc (by omega)]
        · simp only [Oim, List.getD_cons_zero, zac]; omega
      · have : j = g.length := by omega
        rw [this, List.take_length, hc, List.append_assoc]
      · have : j = g.length := by omega
        rw [this, hs, List.append_assoc]
      · simp only [Oam, List.getD_cons_zero, zac]; omega
    · have : k = l.length := by omega
      subst this
      rw [List.drop_of_length_le (Nat.le_refl _)] at hc hs
      refine ⟨by omega, hfin _ ?_⟩
      rw [zud, hc, hs]
      simp [zbt, srcC, srcG]
  | true =>
    simp only [Tree.den, E.den, P1.den, P2.den, P3.den, qa, qb, qc, qd, qe, qf, qg, qh, zac, zab, zad, zaa, zae, TV.cell, zah, zai, zag, zaf, qi, qj, qk, ql, qm, qn, ne_eq, qo, qp, forall_eq, qs, qt, Int.reduceToNat, qu, exists_eq_left', zbo, zaw]
    refine ⟨fun h => (by simp at h), fun _ => ?_⟩
    refine ⟨ObI l, Obm l, ⟨[], 0, [], rfl, by omega, by rw [List.drop_zero]; rfl, by rw [List.drop_zero]; rfl⟩, ?_⟩
    rintro xs _ ⟨t, k, o, rfl, hk, ht, ho⟩
    have hD : Obm l [.str t, .int (k : Int), ints o] = l.length - k := rfl
    have htl := congrArg List.length ht
    have hol := congrArg List.length ho
    rw [List.length_append] at htl hol
    simp only [Tree.den, E.den, P1.den, P2.den, P3.den, qa, qb, qc, qd, qe, qf, qg, qh, zac, zab, zad, zaa, zae, TV.cell, zah, zai, zag, zaf, qi, qj, qk, ql, qm, qn, ne_eq, qo, qp, forall_eq, qs, qt, Int.reduceToNat, qu, exists_eq_left', zaj, zao, zaq, zan, zap, zam, zal, zar, qv, qq, qr, zak, hD]
    refine ⟨fun hlt => ?_, fun hlt => ?_⟩
    · have hkl : k < l.length := by omega
      have hd := zkt hkl
      rw [hd, zb8] at ht
      rw [hd, zc1] at ho
      have htl := congrArg List.length ht
      have hol := congrArg List.length ho
      simp only [List.length_append, List.length_replicate] at htl hol
      simp only [zi7 hkl, glT, Tree.den, E.den, P1.den, P2.den, P3.den, qa, qb, qc, qd, qe, qf, qg, qh, zac, zab, zad, zaa, zae, TV.cell, zah, zai, zag, zaf, qi, qj, qk, ql, qm, qn, ne_eq, qo, qp, forall_eq, qs, qt, Int.reduceToNat, qu, exists_eq_left', zb1]
      simp only [Tree.den, E.den, P1.den, P2.den, P3.den, qa, qb, qc, qd, qe, qf, qg, qh, zac, zab, zad, zaa, zae, TV.cell, zah, zai, zag, zaf, qi, qj, qk, ql, qm, qn, ne_eq, qo, qp, forall_eq, qs, qt, Int.reduceToNat, qu, exists_eq_left', zaj, zao, zaq, zan, zap, zam, zal, zar, qv, qq, qr, zak]
      have hg : (Go.Proofs.YtlhagkbhojmjpaaGreatDoor.fin (bs (gg l k).s)).length = ng (gg l k) := rfl
      rw [hg]
      have hnb : ng (gg l k) ≤ (gg l k).s.length := zco _
      generalize ng (gg l k) = g at *
      refine ⟨by omega, by omega, by omega, zdy (by omega), OwI o g k, Owm g, ⟨0, by simp, by omega⟩, ?_⟩
      rintro ys _ ⟨j, rfl, hj⟩
      have hE : ∀ z, Owm g [.int (j : Int), z] = g - j := fun z => rfl
      have ej : IntKind.wrap .i64 ((j : Int) + 1) = ((j + 1 : Nat) : Int) := by rw [wrap_i64 (n := (j : Int) + 1) (by omega) (by omega)]; omega
      have ek : IntKind.wrap .i64 ((k : Int) + 1) = ((k + 1 : Nat) : Int) := by rw [wrap_i64 (n := (k : Int) + 1) (by omega) (by omega)]; omega
      simp only [Tree.den, E.den, P1.den, P2.den, P3.den, qa, qb, qc, qd, qe, qf, qg, qh, zac, zab, zad, zaa, zae, TV.cell, zah, zai, zag, zaf, qi, qj, qk, ql, qm, qn, ne_eq, qo, qp, forall_eq, qs, qt, Int.reduceToNat, qu, exists_eq_left', zaj, zao, zaq, zan, zap, zam, zal, zar, qv, qq, qr, zak, hE, ej, ek, zgw, List.length_replicate]
      refine ⟨fun hlj => ⟨by omega, ⟨j + 1, rfl, by omega⟩, ?_⟩, fun hlj => ⟨⟨_, k + 1, _, rfl, by omega, ?_, ?_⟩, ?_⟩⟩
      · simp only [Owm, List.getD_cons_zero, zac]; omega
      · rw [ht, List.append_assoc]
      · have : j = g := by omega
        rw [this, ho, List.append_assoc]
      · simp only [Obm, List.getD_cons_zero, List.getD_cons_succ, zac]; omega
    · have : k = l.length := by omega
      subst this
      rw [List.drop_of_length_le (Nat.le_refl _)] at ht ho
      have ht' : t = wordG l := by rw [ht]; simp [wordG]
      have ho' : o = srcG ng 0 l := by rw [ho]; simp [srcG]
      subst ht' ho'
      have hr : Go.Proofs.YtlhagkbhojmjpaaGreatDoor.fin (bs (wordG l)) = zbg l := rfl
      have htb := zg8 (zbg l)
      have hrl := zj4 l
      have htr := zbm (zbg l)
      have hfr := zdb (zay (zbg l)) 0
      have hfm : ∀ x ∈ fromZ 0 (zay (zbg l)), 0 ≤ x := fun x hx => by have := zjh hx; omega
      rw [z2d] at hfin
      simp only [Tree.den, E.den, P1.den, P2.den, P3.den, qa, qb, qc, qd, qe, qf, qg, qh, zac, zab, zad, zaa, zae, TV.cell, zah, zai, zag, zaf, qi, qj, qk, ql, qm, qn, ne_eq, qo, qp, forall_eq, qs, qt, Int.reduceToNat, qu, exists_eq_left', zje, hr, zdd]
      simp only [Tree.den, E.den, P1.den, P2.den, P3.den, qa, qb, qc, qd, qe, qf, qg, qh, zac, zab, zad, zaa, zae, TV.cell, zah, zai, zag, zaf, qi, qj, qk, ql, qm, qn, ne_eq, qo, qp, forall_eq, qs, qt, Int.reduceToNat, qu, exists_eq_left', zaj, zao, zaq, zan, zap, zam, zal, zar, qv, qq, qr, zak]
      generalize cellsOf (zay (zbg l)) = c at *
      generalize fromZ 0 (zay (zbg l)) = f at *
      generalize srcG ng 0 l = o at *
      refine ⟨zf9 hw, OcI c f o, Ocm c, ⟨0, by simp, by omega⟩, ?_⟩
      rintro ys _ ⟨j, rfl, hj⟩
      have hE : ∀ y z, Ocm c [.int (j : Int), y, z] = c.length - j := fun y z => rfl
      have ej : IntKind.wrap .i64 ((j : Int) + 1) = ((j + 1 : Nat) : Int) := by rw [wrap_i64 (n := (j : Int) + 1) (by omega) (by omega)]; omega
      simp only [Tree.den, E.den, P1.den, P2.den, P3.den, qa, qb, qc, qd, qe, qf, qg, qh, zac, zab, zad, zaa, zae, TV.cell, zah, zai, zag, zaf, qi, qj, qk, ql, qm, qn, ne_eq, qo, qp, forall_eq, qs, qt, Int.reduceToNat, qu, exists_eq_left', zaj, zao, zaq, zan, zap, zam, zal, zar, qv, qq, qr, zak, hE, ej, List.length_take]
      refine ⟨fun hlj => ?_, fun hlj => ?_⟩
      · have hjc : j < c.length := by omega
        have hjf : j < f.length := by omega
        have hpm := hfm _ (gdmem hjf)
        have hmg := znp (o := o) hjf
        have hts := zkc (l := c) hjc
        have htf := zkc (l := f.map (ownF o)) (j := j) (by rw [List.length_map]; exact hjf)
        rw [hmg] at htf
        have hgo : ∀ x, x = ownF o (f.getD j 0) → OcI c f o [.int ((j + 1 : Nat) : Int), ints (c.take j ++ [c.getD j 0]), ints ((f.map (ownF o)).take j ++ [x])] ∧ Ocm c [.int ((j + 1 : Nat) : Int), ints (c.take j ++ [c.getD j 0]), ints ((f.map (ownF o)).take j ++ [x])] < c.length - j := fun x hx => by
          subst hx
          refine ⟨⟨j + 1, by rw [hts, htf], by omega⟩, ?_⟩
          simp only [Ocm, List.getD_cons_zero, zac]; omega
        have hz : ∀ {n : Int}, o.length ≤ n → (0 : Int) = ownF o n := fun {n} hn => by
          unfold ownF
          rw [List.getD_eq_getElem?_getD, List.getElem?_eq_none (by omega)]
          rfl
        refine ⟨by omega, by omega, fun h1 => ⟨by omega, by omega, fun h2 => ⟨by omega, by omega, fun h3 => ⟨by omega, by omega, by omega, by omega, by omega, by omega, hgo _ rfl⟩, fun h3 => ⟨by omega, by omega, hgo _ (hz (by omega))⟩⟩, fun h2 => absurd hpm h2⟩, fun h1 => absurd hjf (by omega)⟩
      · have : j = c.length := by omega
        subst this
        rw [List.take_length] at *
        refine ⟨by omega, hfin _ ?_⟩
        rw [List.take_of_length_le (by rw [List.length_map]; omega)])) rfl
end Go.Proofs.YtlhagkbhojmjpaaGreatDoor
namespace Go.Proofs.YtlhagkbhojmjpaaGreatDoor
set_option linter.unusedSimpArgs false
set_option linter.unusedVariables false
set_option linter.unusedSectionVars false
def SzI (s : List Int) (xs : List TV) : Prop := ∃ k : Nat, xs = [.int k] ∧ k + 1 ≤ s.length ∧ ∀ j : Nat, k ≤ j → j + 1 < s.length → s.getD j 0 ≤ s.getD (j + 1) 0
def Szm (xs : List TV) : Nat := (xs.getD 0 (.int 0)).asInt.toNat
def sizeL : Law := ⟨fun ts => ∃ (c : List Int) (s : List Int), ts = [.agg [ints c, ints s]] ∧ (c.length ≤ 1000000000 ∧ s.length ≤ 1000000000), fun ts z₀ => ∀ (c : List Int) (s : List Int), ts = [.agg [ints c, ints s]] → z₀ = sizeT c s⟩
theorem zm8 {c : List Int} {s : List Int} (h : c.length ≤ 1000000000 ∧ s.length ≤ 1000000000) : sizeL.pre [.agg [ints c, ints s]] := ⟨c, s, rfl, h⟩
theorem z0v {c : List Int} {s : List Int} {z₀ : TV} (h : z₀ = sizeT c s) : sizeL.post [.agg [ints c, ints s]] z₀ := fun c₁ s₁ e => by
  simp only [List.cons.injEq, TV.str.injEq, TV.int.injEq, TV.bool.injEq, TV.agg.injEq, TV.list.injEq, zat, and_true, true_and, and_assoc] at e; obtain ⟨rfl, rfl⟩ := e
  exact h
theorem zmg {c : List Int} {s : List Int} {Q : TV → Prop} : (∀ z₀, sizeL.post [.agg [ints c, ints s]] z₀ → Q z₀) ↔ Q (sizeT c s) := ⟨fun h => h _ (z0v rfl), fun h z₀ hr => by rw [hr _ _ rfl]; exact h⟩
theorem size_c (k : Nat) : Contract Tryz.prog (mkEnv globT []) gtab (zdp k) sizeL.pre sizeL.post := Contract.env (Γ := mkEnv globT [lessL]) (zhi (fun _ => rfl) (fun s hs => by
    simp only [cx_brailleline_size, List.mem_cons, List.not_mem_nil, or_false] at hs
    rcases hs with rfl
    · exact Contract.inEnv rfl (less_c 0) rfl) k (by
  rintro ts hl ⟨c, s, rfl, hp⟩
  have hfin : ∀ z₀ : TV, z₀ = sizeT c s → sizeL.post [.agg [ints c, ints s]] z₀ := fun z₀ hz₀ => z0v hz₀
  generalize sizeL.post [.agg [ints c, ints s]] = R at hfin ⊢
  unfold tr_brailleline_size
  obtain ⟨hc, hs⟩ := hp
  unfold sizeT at hfin
  have e1 : IntKind.wrap .i64 ((c.length : Int) + 1) = (c.length : Int) + 1 := wrap_i64 (by omega) (by omega)
  have e2 : IntKind.wrap .i64 ((s.length : Int) - 1) = (s.length : Int) - 1 := wrap_i64 (by omega) (by omega)
  simp only [Tree.den, E.den, P1.den, P2.den, P3.den, qa, qb, qc, qd, qe, qf, qg, qh, zac, zab, zad, zaa, zae, TV.cell, zah, zai, zag, zaf, qi, qj, qk, ql, qm, qn, ne_eq, qo, qp, forall_eq, qs, qt, Int.reduceToNat, qu, exists_eq_left']
  simp only [Tree.den, E.den, P1.den, P2.den, P3.den, qa, qb, qc, qd, qe, qf, qg, qh, zac, zab, zad, zaa, zae, TV.cell, zah, zai, zag, zaf, qi, qj, qk, ql, qm, qn, ne_eq, qo, qp, forall_eq, qs, qt, Int.reduceToNat, qu, exists_eq_left', zaj, zao, zaq, zan, zap, zam, zal, zar, qv, qq, qr, zak, zsy, e1, e2]
  refine ⟨fun h => hfin _ ?_, fun h => ⟨by omega, fun h1 => hfin _ ?_, fun h1 => ⟨SzI s, Szm, ⟨s.length - 1, by rw [show ((s.length - 1 : Nat) : Int) = (s.length : Int) - 1 by omega], by omega, fun j h2 h3 => by omega⟩, ?_⟩⟩⟩
  · rw [if_neg fun hp => h (by have := hp.1; omega)]
  · rw [if_neg fun hp => absurd hp.2.1 (by omega)]
  rintro xs _ ⟨k, rfl, hk, hu⟩
  have hD : Szm [.int (k : Int)] = k := rfl
  by_cases hk0 : 0 < k
  · have ek : IntKind.wrap .i64 ((k : Int) - 1) = ((k - 1 : Nat) : Int) := by rw [wrap_i64 (by omega) (by omega)]; omega
    simp only [Tree.den, E.den, P1.den, P2.den, P3.den, qa, qb, qc, qd, qe, qf, qg, qh, zac, zab, zad, zaa, zae, TV.cell, zah, zai, zag, zaf, qi, qj, qk, ql, qm, qn, ne_eq, qo, qp, forall_eq, qs, qt, Int.reduceToNat, qu, exists_eq_left', zaj, zao, zaq, zan, zap, zam, zal, zar, qv, qq, qr, zak, hD, ek, zsy]
    refine ⟨fun _ => ⟨by omega, by omega, by omega, by omega, less_pre trivial, fun hlt => hfin _ ?_, fun hlt => ⟨⟨k - 1, rfl, by omega, fun j h2 h3 => ?_⟩, ?_⟩⟩, fun h => by omega⟩
    · rw [if_neg fun hp => absurd (hp.2.2 (k - 1) (by omega)) (by rw [show k - 1 + 1 = k by omega]; omega)]
    · rcases Nat.lt_or_ge (k - 1) j with h4 | h4
      · exact hu j (by omega) h3
      · have : j = k - 1 := by omega
        subst this
        rw [show k - 1 + 1 = k by omega]
        omega
    · simp only [Szm, List.getD_cons_zero, zac]; omega
  · simp only [Tree.den, E.den, P1.den, P2.den, P3.den, qa, qb, qc, qd, qe, qf, qg, qh, zac, zab, zad, zaa, zae, TV.cell, zah, zai, zag, zaf, qi, qj, qk, ql, qm, qn, ne_eq, qo, qp, forall_eq, qs, qt, Int.reduceToNat, qu, exists_eq_left', zaj, zao, zaq, zan, zap, zam, zal, zar, qv, qq, qr, zak, hD, zsy]
    refine ⟨fun h => by omega, fun _ => ⟨by omega, by omega, hfin _ ?_⟩⟩
    rw [if_pos ⟨by omega, by omega, fun j h3 => hu j (by omega) h3⟩])) rfl
theorem z9g {s : List Int} {n i : Nat} (h : i < n) : (s.take n).getD i 0 = s.getD i 0 := by
  rw [List.getD_eq_getElem?_getD, List.getElem?_take_of_lt h, List.getD_eq_getElem?_getD]
theorem tmap_get {s : List Int} {n i : Nat} (h : i < n) : ((s.map TV.int).take (n - 0)).getD i (.int 0) = .int (s.getD i 0) := by rw [Nat.sub_zero, ← List.map_take, zam, z9g h]
def BcI (s : List Int) (g : Int) (n : Nat) (xs : List TV) : Prop := ∃ k : Nat, xs = [.int (bestN s g k), .int k] ∧ k ≤ n
def Bcm (n : Nat) (xs : List TV) : Nat := n - (xs.getD 1 (.int 0)).asInt.toNat
theorem zro (s : List Int) (g : Int) (k : Nat) : bestN s g (k + 1) = if s.getD k 0 ≤ g ∧ Head1 s k then k else bestN s g k := rfl
theorem zww {c s : List Int} (h : PL c s) : sizeT c s = .agg [.int (s.getD c.length 0), .bool true] := by unfold sizeT; rw [if_pos h]
theorem zwi {c s : List Int} (h : ¬ PL c s) : sizeT c s = .agg [.int 0, .bool false] := by unfold sizeT; rw [if_neg h]
def bcellL : Law := ⟨fun ts => ∃ (c : List Int) (s : List Int) (g : Int), ts = [.agg [ints c, ints s], .int g] ∧ (c.length ≤ 1000000000 ∧ s.length ≤ 1000000000), fun ts z₀ => ∀ (c : List Int) (s : List Int) (g : Int), ts = [.agg [ints c, ints s], .int g] → z₀ = .int (zdk c s g)⟩
theorem zow {c : List Int} {s : List Int} {g : Int} (h : c.length ≤ 1000000000 ∧ s.length ≤ 1000000000) : bcellL.pre [.agg [ints c, ints s], .int g] := ⟨c, s, g, rfl, h⟩
theorem zv7 {c : List Int} {s : List Int} {g : Int} {z₀ : TV} (h : z₀ = .int (zdk c s g)) : bcellL.post [.agg [ints c, ints s], .int g] z₀ := fun c₁ s₁ g₁ e => by
  simp only [List.cons.injEq, TV.str.injEq, TV.int.injEq, TV.bool.injEq, TV.agg.injEq, TV.list.injEq, zat, and_true, true_and, and_assoc] at e; obtain ⟨rfl, rfl, rfl⟩ := e
  exact h
theorem zi1 {c : List Int} {s : List Int} {g : Int} {Q : TV → Prop} : (∀ z₀, bcellL.post [.agg [ints c, ints s], .int g] z₀ → Q z₀) ↔ Q (.int (zdk c s g)) := ⟨fun h => h _ (zv7 rfl), fun h z₀ hr => by rw [hr _ _ _ rfl]; exact h⟩
theorem zyq (k : Nat) : Contract Tryz.prog (mkEnv globT []) gtab (zb5 k) bcellL.pre bcellL.post := Contract.env (Γ := mkEnv globT [sizeL]) (zhr (fun _ => rfl) (fun s hs => by
    simp only [cx_brailleline_Cell, List.mem_cons, List.not_mem_nil, or_false] at hs
    rcases hs with rfl
    · exact Contract.inEnv rfl (size_c 0) rfl) k (by
  rintro ts hl ⟨c, s, g, rfl, hp⟩
  have hfin : ∀ z₀ : TV, z₀ = .int (zdk c s g) → bcellL.post [.agg [ints c, ints s], .int g] z₀ := fun z₀ hz₀ => zv7 hz₀
  generalize bcellL.post [.agg [ints c, ints s], .int g] = R at hfin ⊢
  unfold tr_brailleline_Cell
  obtain ⟨hc, hs⟩ := hp
  unfold zdk at hfin
  by_cases hP : PL c s
  · have hsz := zww hP
    have hlen := hP.1
    have hn0 : 0 ≤ s.getD c.length 0 := hP.pos (by omega)
    simp only [Tree.den, E.den, P1.den, P2.den, P3.den, qa, qb, qc, qd, qe, qf, qg, qh, zac, zab, zad, zaa, zae, TV.cell, zah, zai, zag, zaf, qi, qj, qk, ql, qm, qn, ne_eq, qo, qp, forall_eq, qs, qt, Int.reduceToNat, qu, exists_eq_left', zmg, hsz]
    simp only [Tree.den, E.den, P1.den, P2.den, P3.den, qa, qb, qc, qd, qe, qf, qg, qh, zac, zab, zad, zaa, zae, TV.cell, zah, zai, zag, zaf, qi, qj, qk, ql, qm, qn, ne_eq, qo, qp, forall_eq, qs, qt, Int.reduceToNat, qu, exists_eq_left', zaj, zao, zaq, zan, zap, zam, zal, zar, qv, qq, qr, zak, zh2, List.drop_zero, List.length_take]
    refine ⟨zm8 ⟨hc, hs⟩, fun h => absurd h (by simp), fun _ => ⟨fun h1 => hfin _ (by rw [if_pos (.inr (.inl h1))]), fun h1 => ⟨fun h2 => hfin _ (by rw [if_pos (.inr (.inr h2))]), fun h2 => ⟨fun h3 => hfin _ ?_, fun h3 => ?_⟩⟩⟩⟩
    · rw [if_neg (by rintro (h | h | h) <;> first | exact h hP | omega), if_pos h3, wrap_i64 (n := (c.length : Int) + g) (by omega) (by omega), wrap_i64 (by omega) (by omega)]
    · rw [if_neg (by rintro (h | h | h) <;> first | exact h hP | omega), if_neg h3] at hfin
      refine ⟨by omega, by omega, BcI s g c.length, Bcm c.length, ⟨0, rfl, by omega⟩, ?_⟩
      rintro xs _ ⟨k, rfl, hk⟩
      have hD : ∀ a, Bcm c.length [a, .int (k : Int)] = c.length - k := fun _ => rfl
      have hb := zro s g k
      have hm : min c.length s.length = c.length := by omega
      by_cases hkc : k < c.length
      · have ek : IntKind.wrap .i64 ((k : Int) + 1) = ((k + 1 : Nat) : Int) := by rw [wrap_i64 (n := (k : Int) + 1) (by omega) (by omega)]; omega
        have ek1 : 0 < k → IntKind.wrap .i64 ((k : Int) - 1) = ((k - 1 : Nat) : Int) := fun h => by rw [wrap_i64 (by omega) (by omega)]; omega
        have htg := tmap_get (s := s) hkc
        have go : ∀ x : Nat, x = bestN s g (k + 1) → BcI s g c.length [.int (x : Int), .int ((k + 1 : Nat) : Int)] ∧ Bcm c.length [.int (x : Int), .int ((k + 1 : Nat) : Int)] < c.length - k := fun x hx => by
          refine ⟨⟨k + 1, by rw [hx], by omega⟩, ?_⟩
          simp only [Bcm, List.getD_cons_zero, List.getD_cons_succ, zac]; omega
        by_cases hk0 : k = 0
        · subst hk0
          simp only [Tree.den, E.den, P1.den, P2.den, P3.den, qa, qb, qc, qd, qe, qf, qg, qh, zac, zab, zad, zaa, zae, TV.cell, zah, zai, zag, zaf, qi, qj, qk, ql, qm, qn, ne_eq, qo, qp, forall_eq, qs, qt, Int.reduceToNat, qu, exists_eq_left', zaj, zao, zaq, zan, zap, zam, zal, zar, qv, qq, qr, zak, hD, ek, List.drop_zero, List.length_take, hm, htg]
          refine ⟨fun _ => ⟨by omega, by omega, fun hlt => hfin _ ?_, fun hlt => ⟨fun _ => go 0 (by rw [hb, if_pos ⟨by omega, .inl rfl⟩]), fun h => absurd rfl h⟩⟩, fun h => by omega⟩
          rw [zj9 (n := c.length) hP.2.2 (i := 0) (by omega) hlt (by omega) (by omega)]
        · have ek1 := ek1 (by omega)
          simp only [Tree.den, E.den, P1.den, P2.den, P3.den, qa, qb, qc, qd, qe, qf, qg, qh, zac, zab, zad, zaa, zae, TV.cell, zah, zai, zag, zaf, qi, qj, qk, ql, qm, qn, ne_eq, qo, qp, forall_eq, qs, qt, Int.reduceToNat, qu, exists_eq_left', zaj, zao, zaq, zan, zap, zam, zal, zar, qv, qq, qr, zak, hD, ek, ek1, List.drop_zero, List.length_take, hm, htg]
          refine ⟨fun _ => ⟨by omega, by omega, fun hlt => hfin _ ?_, fun hlt => ⟨fun h => absurd h (by omega), fun _ => ⟨by omega, by omega, fun hne => go k (by rw [hb, if_pos ⟨by omega, .inr fun e => hne e.symm⟩]), fun he => go _ (by rw [hb, if_neg fun e => e.2.elim (fun h => hk0 h) fun h => h he.symm])⟩⟩⟩, fun h => by omega⟩
          rw [zj9 (n := c.length) hP.2.2 (i := k) (by omega) hlt (by omega) (by omega)]
      · have : k = c.length := by omega
        subst this
        simp only [Tree.den, E.den, P1.den, P2.den, P3.den, qa, qb, qc, qd, qe, qf, qg, qh, zac, zab, zad, zaa, zae, TV.cell, zah, zai, zag, zaf, qi, qj, qk, ql, qm, qn, ne_eq, qo, qp, forall_eq, qs, qt, Int.reduceToNat, qu, exists_eq_left', zaj, zao, zaq, zan, zap, zam, zal, zar, qv, qq, qr, zak, hD, List.drop_zero, List.length_take, hm]
        exact ⟨fun h => by omega, fun _ => hfin _ rfl⟩
  · have hsz := zwi hP
    simp only [Tree.den, E.den, P1.den, P2.den, P3.den, qa, qb, qc, qd, qe, qf, qg, qh, zac, zab, zad, zaa, zae, TV.cell, zah, zai, zag, zaf, qi, qj, qk, ql, qm, qn, ne_eq, qo, qp, forall_eq, qs, qt, Int.reduceToNat, qu, exists_eq_left', zmg, hsz]
    exact ⟨zm8 ⟨hc, hs⟩, fun _ => hfin _ (by rw [if_pos (.inl hP)]), fun h => absurd h (by simp)⟩)) rfl
def bglyphL : Law := ⟨fun ts => ∃ (c : List Int) (s : List Int) (g : Int), ts = [.agg [ints c, ints s], .int g] ∧ (c.length ≤ 1000000000 ∧ s.length ≤ 1000000000), fun ts z₀ => ∀ (c : List Int) (s : List Int) (g : Int), ts = [.agg [ints c, ints s], .int g] → z₀ = .int (zb6 c s g)⟩
theorem zj7 {c : List Int} {s : List Int} {g : Int} (h : c.length ≤ 1000000000 ∧ s.length ≤ 1000000000) : bglyphL.pre [.agg [ints c, ints s], .int g] := ⟨c, s, g, rfl, h⟩
theorem zrz {c : List Int} {s : List Int} {g : Int} {z₀ : TV} (h : z₀ = .int (zb6 c s g)) : bglyphL.post [.agg [ints c, ints s], .int g] z₀ := fun c₁ s₁ g₁ e => by
  simp only [List.cons.injEq, TV.str.injEq, TV.int.injEq, TV.bool.injEq, TV.agg.injEq, TV.list.injEq, zat, and_true, true_and, and_assoc] at e; obtain ⟨rfl, rfl, rfl⟩ := e
  exact h
theorem zgv {c : List Int} {s : List Int} {g : Int} {Q : TV → Prop} : (∀ z₀, bglyphL.post [.agg [ints c, ints s], .int g] z₀ → Q z₀) ↔ Q (.int (zb6 c s g)) := ⟨fun h => h _ (zrz rfl), fun h z₀ hr => by rw [hr _ _ _ rfl]; exact h⟩
theorem zsa (k : Nat) : Contract Tryz.prog (mkEnv globT []) gtab (zby k) bglyphL.pre bglyphL.post := Contract.env (Γ := mkEnv globT [sizeL]) (zhe (fun _ => rfl) (fun s hs => by
    simp only [cx_brailleline_Glyph, List.mem_cons, List.not_mem_nil, or_false] at hs
    rcases hs with rfl
    · exact Contract.inEnv rfl (size_c 0) rfl) k (by
  rintro ts hl ⟨c, s, g, rfl, hp⟩
  have hfin : ∀ z₀ : TV, z₀ = .int (zb6 c s g) → bglyphL.post [.agg [ints c, ints s], .int g] z₀ := fun z₀ hz₀ => zrz hz₀
  generalize bglyphL.post [.agg [ints c, ints s], .int g] = R at hfin ⊢
  unfold tr_brailleline_Glyph
  obtain ⟨hc, hs⟩ := hp
  unfold zb6 at hfin
  by_cases hP : PL c s
  · have hsz := zww hP
    have hlen := hP.1
    simp only [Tree.den, E.den, P1.den, P2.den, P3.den, qa, qb, qc, qd, qe, qf, qg, qh, zac, zab, zad, zaa, zae, TV.cell, zah, zai, zag, zaf, qi, qj, qk, ql, qm, qn, ne_eq, qo, qp, forall_eq, qs, qt, Int.reduceToNat, qu, exists_eq_left', zmg, hsz]
    simp only [Tree.den, E.den, P1.den, P2.den, P3.den, qa, qb, qc, qd, qe, qf, qg, qh, zac, zab, zad, zaa, zae, TV.cell, zah, zai, zag, zaf, qi, qj, qk, ql, qm, qn, ne_eq, qo, qp, forall_eq, qs, qt, Int.reduceToNat, qu, exists_eq_left', zaj, zao, zaq, zan, zap, zam, zal, zar, qv, qq, qr, zak]
    refine ⟨zm8 ⟨hc, hs⟩, fun h => absurd h (by simp), fun _ => ⟨fun h1 => hfin _ (by rw [if_pos (.inr (.inl h1))]), fun h1 => ⟨fun h2 => hfin _ (by rw [if_pos (.inr (.inr h2))]), fun h2 => ⟨fun h3 => hfin _ ?_, fun h3 => ⟨by omega, by omega, hfin _ ?_⟩⟩⟩⟩⟩
    · rw [if_neg (by rintro (h | h | h) <;> first | exact h hP | omega), if_neg (by omega)]
    · rw [if_neg (by rintro (h | h | h) <;> first | exact h hP | omega), if_pos (by omega)]
  · have hsz := zwi hP
    simp only [Tree.den, E.den, P1.den, P2.den, P3.den, qa, qb, qc, qd, qe, qf, qg, qh, zac, zab, zad, zaa, zae, TV.cell, zah, zai, zag, zaf, qi, qj, qk, ql, qm, qn, ne_eq, qo, qp, forall_eq, qs, qt, Int.reduceToNat, qu, exists_eq_left', zmg, hsz]
    exact ⟨zm8 ⟨hc, hs⟩, fun _ => hfin _ (by rw [if_pos (.inl hP)]), fun h => absurd h (by simp)⟩)) rfl
end Go.Proofs.YtlhagkbhojmjpaaGreatDoor
namespace Go.Proofs.YtlhagkbhojmjpaaGreatDoor
set_option linter.unusedSimpArgs false
set_option linter.unusedVariables false
set_option linter.unusedSectionVars false
end Go.Proofs.YtlhagkbhojmjpaaGreatDoor


/- Written by this repo's own program out of its texts. -/
import Derived.Test.YtlhagkbhojmjpaaGreatDoorPPla
import Derived.Test.YtlhagkbhojmjpaaGreatDoorPGl
set_option linter.unusedSimpArgs false
set_option linter.unusedVariables false
set_option linter.unusedSectionVars false
namespace Go.Proofs.YtlhagkbhojmjpaaGreatDoor
theorem mark_width {m : Int} (h : markZ m = true) : za5 m = 0 := by
 have hb : ∀ p ∈ marksL', 768 ≤ p.1 ∧ p.2 ≤ 65071 := by decide
 have h1 : 768 ≤ m := by
  unfold markZ inTab at h
  obtain ⟨p, hp, hq⟩ := List.any_eq_true.1 h
  simp only [Bool.and_eq_true, decide_eq_true_eq] at hq
  have := (hb p hp).1
  omega
 unfold za5
 rw [if_neg (by omega), if_pos h]
theorem clus {s : By} (h : zbf s = 0) : ∃ c ms, zbj s = c :: ms ∧ 1 ≤ za5 c ∧ (∀ m ∈ ms, za5 m = 0) ∧ s = encS (c :: ms) ∧ (∀ r ∈ zbj s, (0 ≤ r ∧ r ≤ 55295) ∨ (57344 ≤ r ∧ r ≤ 1114111)) := by
 obtain ⟨hv, b, ms, hr, hw, hm, hl⟩ := check_iff.1 h
 refine ⟨b, ms, hr, by omega, fun m hx => mark_width (hm m hx), ?_, ?_⟩
 ·have h3 := (zej hv).2.2.1
  rw [← hr]
  exact (zxb hv).symm
 ·intro r hx
  have := (zej hv).1 r hx
  unfold isCh at this
  omega
def attS (s : By) (m : Int) : Option By := if zbf s = 0 ∧ markZ m = true ∧ (qcw s).length < 3 then some (s ++ encS [m]) else none
theorem clus_att {s : By} (h : zbf s = 0) (j : Nat) (m : Int) (hm : (zbj s)[j + 1]? = some m) : attS (encS ((zbj s).take (j + 1))) m = some (encS ((zbj s).take (j + 2))) := by
 obtain ⟨hv, b, ms, hr, hw, hmk, hl⟩ := check_iff.1 h
 have hc : Cl ((zbj s).take (j + 1)) := by
  rw [hr, List.take_succ_cons]
  exact ⟨b, ms.take j, rfl, hw, fun x hx => hmk x (List.mem_of_mem_take hx), by rw [List.length_take]; omega⟩
 rw [hr, List.getElem?_cons_succ] at hm
 have hj : j < ms.length := (List.getElem?_eq_some_iff.1 hm).1
 have hmm : markZ m = true := hmk m (List.mem_of_getElem? hm)
 have hmarks : (qcw (encS ((zbj s).take (j + 1)))).length = j := by
  unfold qcw
  rw [if_pos (z34 hc), zq7, List.length_drop, List.length_map, hr, List.take_succ_cons, List.length_cons, List.length_take]
  omega
 unfold attS
 rw [if_pos ⟨z34 hc, hmm, by omega⟩, ← zds]
 congr 2
 rw [hr, List.take_succ_cons, List.take_succ_cons, List.cons_append]
 congr 1
 rw [List.take_add_one, hm]; rfl
theorem runes_four {s : By} (h : zbf s = 0) : (zbj s).length ≤ 4 := by
 obtain ⟨hv, b, ms, hr, hw, hmk, hl⟩ := check_iff.1 h
 rw [hr, List.length_cons]
 omega
theorem q4d (l : List Int) : l.length ≤ (encS l).length ∧ (encS l).length ≤ 4 * l.length := by
 unfold encS unbs
 rw [List.length_map]
 exact zcp l
theorem enc_bd (r : Int) : encS [r] ≠ [] ∧ (encS [r]).length ≤ 40 := by
 have h := q4d [r]
 simp only [List.length_cons, List.length_nil] at h
 exact ⟨fun e => by rw [e] at h; simp at h, by omega⟩
theorem clus_len {s : By} (h : zbf s = 0) : s.length ≤ 16 := by
 have h4 := runes_four h
 obtain ⟨c, ms, hr, _, _, hs, _⟩ := clus h
 have := q4d (c :: ms)
 rw [hr] at h4
 rw [hs]
 omega
theorem att_bd {s t : By} {m : Int} (h : attS s m = some t) : t ≠ [] ∧ t.length ≤ 40 := by
 unfold attS at h
 split at h
 ·rename_i c
  cases h
  have h1 := clus_len c.1
  have h2 := enc_bd m
  have h3 := q4d [m]
  simp only [List.length_cons, List.length_nil] at h3
  refine ⟨fun e => h2.1 (List.append_eq_nil_iff.1 e).2, ?_⟩
  rw [List.length_append]; omega
 ·cases h
structure Stg where
 spell : Bool
 digs : Bool
 rep : Int
def kindG (g : Gl) : Nat := match g.s with
 | [c] => if 97 ≤ c ∧ c ≤ 122 then 1 else if 65 ≤ c ∧ c ≤ 90 then 2 else if 48 ≤ c ∧ c ≤ 57 then 3 else 0
 | _ => 0
def cntG (k : Nat) (y : Int) : List Gl → Nat
 | [] => 0
 | g :: l => if kindG g = k ∧ g.y = y then cntG k y l + 1 else 0
def sameG (g : Gl) : Nat → List Gl → Nat
 | 0, _ => 0
 | _, [] => 0
 | m + 1, h :: l => if h.s = g.s ∧ h.w = g.w ∧ h.y = g.y then sameG g m l + 1 else 0
def quf (st : Stg) : List Gl → Nat
 | [] => 0
 | g :: l => if kindG g = 1 ∨ kindG g = 3 then cntG (kindG g) g.y (g :: l)
  else if kindG g = 2 then (if 1 < cntG 2 g.y (g :: l) then cntG 2 g.y (g :: l) else 1 + cntG 1 g.y l)
  else if 0 < st.rep ∧ st.rep ≤ ((1 + sameG g 131 l : Nat) : Int) ∧ (zbj g.s).length = 1 then 1 + sameG g 131 l else 1
def txG (l : List Gl) : By := l.flatMap (·.s)
def cwd (i : Nat) : By := ctrlL.getD i []
def styW (y : Int) : By := cwd (10 + y.toNat)
def lowC (c : UInt8) : UInt8 := if 65 ≤ c ∧ c ≤ 90 then c + 32 else c
def upC (c : UInt8) : UInt8 := if 97 ≤ c ∧ c ≤ 122 then c - 32 else c
def resB (w : By) : Bool := vocabL.contains w || ctrlL.contains w || nameL.contains w
def highN (t : By) : Nat := t.countP fun c => decide (lowC c ≠ c)
def quw (t : By) (sp : Bool) : List By :=
 (if highN t = 1 then [cwd 2] else if 1 < highN t then [cwd 3] else []) ++ if sp = true then cwd 7 :: ((t.map lowC).map fun c => [c]) ++ [cwd 8] else (if resB (t.map lowC) = true then [cwd 4] else []) ++ [t.map lowC]
def decV (t : By) : Nat := t.foldl (fun n c => 10 * n + (c.toNat - 48)) 0
def qu4 (t : By) (dg : Bool) : List By := if dg = true ∨ 9 < t.length ∨ (1 < t.length ∧ t.head? = some 48) then cwd 9 :: t.flatMap fun c => qub (c.toNat - 48) else qub (decV t)
def sgnI (r : Int) : Option Nat := signL.findIdx? fun c => (c.toNat : Int) == r
def qud (r : Int) : List By := match sgnI r with
 | some i => [nameL.getD i []]
 | none => cwd 0 :: qub r.toNat
def qul (s : By) : List By := if s = [32] then [cwd 5] else (zbj s).flatMap qud
def quu (st : Stg) (l : List Gl) : List By := match l with
 | [] => []
 | g :: t => if kindG g = 1 ∨ kindG g = 2 then quw (txG l) st.spell else if kindG g = 3 then qu4 (txG l) st.digs else if t = [] then qul g.s else qub l.length ++ cwd 6 :: qul g.s
def isNum (w : By) : Bool := vocabL.contains w
def preW (y sy : Int) (k b : Nat) (w0 : By) (last : Option By) : List By :=
 if y ≠ sy then [styW y] else if k ≠ 0 ∧ b ≠ 0 then [cwd 1] else match last with
  | some x => if isNum w0 = true ∧ isNum x = true then [cwd 1] else []
  | none => []
def qu1 (st : Stg) : Nat → List Gl → Int → Nat → Option By → List By
 | 0, _, _, _, _ => []
 | f + 1, l, sy, b, last => match l with
  | [] => []
  | g :: t =>
   preW g.y sy (kindG g) b ((quu st (l.take (quf st l))).headD []) last ++ quu st (l.take (quf st l)) ++
    qu1 st f (l.drop (quf st l)) g.y (kindG g) ((preW g.y sy (kindG g) b ((quu st (l.take (quf st l))).headD []) last ++ quu st (l.take (quf st l))).getLast?.or last)
structure Ps where
 ws : List By
 out : List Gl
 y : Int
 j : Bool
def qvh (w : By) : Bool := !w.isEmpty && w.all fun c => decide (97 ≤ c ∧ c ≤ 122)
def txtP (p : Ps) (t : By) (n : Nat) : Ps := ⟨p.ws.drop n, p.out ++ (if p.j = true then [⟨[32], false, p.y⟩] else []) ++ t.map fun c => ⟨[c], false, p.y⟩, p.y, true⟩
def quq (w : By) : Option Nat := (List.range 4).find? fun i => cwd (10 + i) == w
def qum (p : Ps) : Option Ps := match p.ws with
 | [] => none
 | w :: ws => match quq w with
  | some i => some ⟨ws, p.out, i, false⟩
  | none => if w = cwd 1 then some ⟨ws, p.out, p.y, false⟩ else none
def qui : List By → By → Nat → By × Nat
 | [], _, _ => ([], 0)
 | w :: l, s, i => if w = cwd 8 ∧ s ≠ [] then (s, i + 1) else if qvh w = false ∨ w.length ≠ 1 then ([], 0) else qui l (s ++ w) (i + 1)
def qut (l : List By) : By × Nat := match l with
 | [] => ([], 0)
 | w :: t => if w = cwd 4 ∧ t ≠ [] ∧ qvh (t.headD []) = true then (t.headD [], 2) else if qvh w = true ∧ resB w = false then (w, 1) else if w = cwd 7 then qui t [] 1 else ([], 0)
def capN (w : By) : Nat := if w = cwd 2 ∨ w = cwd 3 then 1 else 0
theorem qvk (w : By) (t : List By) : qut (w :: t) = if w = cwd 4 ∧ t ≠ [] ∧ qvh (t.headD []) = true then (t.headD [], 2) else if qvh w = true ∧ resB w = false then (w, 1) else if w = cwd 7 then qui t [] 1 else ([], 0) := rfl
def wordP (p : Ps) : Option Ps :=
 let r := qut (p.ws.drop (capN (p.ws.headD [])))
 if r.2 = 0 then none else some (txtP p (if p.ws.headD [] = cwd 3 then r.1.map upC else if capN (p.ws.headD []) = 1 then (r.1.take 1).map upC ++ r.1.drop 1 else r.1) (capN (p.ws.headD []) + r.2))
def figN : List By → By → Nat → By × Nat
 | [], s, i => (s, i)
 | w :: l, s, i => match numZ [w] with
  | some d => if 0 ≤ d ∧ d ≤ 9 then figN l (s ++ [(48 + d.toNat).toUInt8]) (i + 1) else (s, i)
  | none => (s, i)
def qux (p : Ps) : Option Ps := match p.ws with
 | [] => none
 | w :: ws => if w = cwd 9 then (if (figN ws [] 1).1 = [] then none else some (txtP p (figN ws [] 1).1 (figN ws [] 1).2)) else none
def chrP (l : List By) : Int × Nat := match l with
 | [] => (0, 0)
 | w :: ws => if w = cwd 5 then (32, 1) else match nameL.findIdx? (· == w) with
  | some i => (((signL.getD i 0).toNat : Int), 1)
  | none => if w = cwd 0 then (match qvc ws with
   | some (n, k) => if ((0 ≤ n ∧ n ≤ 55295) ∨ (57344 ≤ n ∧ n ≤ 1114111)) ∧ sgnI n = none then (n, 1 + k) else (0, 0)
   | none => (0, 0)) else (0, 0)
def addP (p : Ps) (r : Int) (n m : Nat) : Option Ps :=
 if za5 r < 0 then none else if za5 r = 0 then (if 1 < n then none else match p.out.getLast? with
  | none => none
  | some g => (attS g.s r).map fun s => ⟨p.ws.drop m, p.out.dropLast ++ [⟨s, g.w, g.y⟩], p.y, false⟩)
 else some ⟨p.ws.drop m, p.out ++ List.replicate n ⟨encS [r], decide (za5 r = 2), p.y⟩, p.y, false⟩
def signP (p : Ps) : Option Ps := if (chrP p.ws).2 = 0 then none else addP p (chrP p.ws).1 1 (chrP p.ws).2
def decW : Nat → Nat → By → By
 | 0, _, s => s
 | f + 1, m, s => if 0 < m ∨ s = [] then decW f (m / 10) ((48 + m % 10).toUInt8 :: s) else s
def qvm (p : Ps) : Option Ps := match qvc p.ws with
 | none => none
 | some (n, u) => if n < 0 then none else if (p.ws.drop u).headD [] ≠ cwd 6 then some (txtP p (decW 12 n.toNat []) u)
  else if (chrP (p.ws.drop (u + 1))).2 = 0 ∨ n < 2 ∨ 132 < n then none else addP p (chrP (p.ws.drop (u + 1))).1 n.toNat (u + 1 + (chrP (p.ws.drop (u + 1))).2)
def partP (p : Ps) : Option Ps := (qum p).or ((wordP p).or ((qux p).or ((signP p).or (qvm p))))
inductive Parse : Ps → List Gl → Prop where
 | done {p : Ps} (h : p.ws = []) : Parse p p.out
 | step {p q : Ps} {o : List Gl} (h : p.ws ≠ []) (hq : partP p = some q) (k : Parse q o) : Parse p o
theorem qu3 : ∀ w ∈ vocabL, quq w = none ∧ w ≠ cwd 1 ∧ w ≠ cwd 2 ∧ w ≠ cwd 3 ∧ w ≠ cwd 4 ∧ w ≠ cwd 7 ∧ w ≠ cwd 9 ∧ w ≠ cwd 5 ∧ w ≠ cwd 0 ∧ w ≠ cwd 6 ∧ resB w = true ∧ nameL.findIdx? (· == w) = none := by decide
theorem name_facts : ∀ w ∈ nameL, quq w = none ∧ w ≠ cwd 1 ∧ w ≠ cwd 2 ∧ w ≠ cwd 3 ∧ w ≠ cwd 4 ∧ w ≠ cwd 7 ∧ w ≠ cwd 9 ∧ w ≠ cwd 5 ∧ w ≠ cwd 6 ∧ resB w = true ∧ isNum w = false := by decide
theorem name_idx : ∀ i : Fin 32, nameL.findIdx? (· == nameL.getD i.val []) = some i.val := by decide
theorem wd_num : ∀ i : Fin 14, isNum (cwd i.val) = false ∧ resB (cwd i.val) = true := by decide
theorem wd_ne : ∀ i j : Fin 14, i ≠ j → cwd i.val ≠ cwd j.val := by decide
theorem sty_idx : ∀ i : Fin 4, quq (cwd (10 + i.val)) = some i.val := by decide
theorem wd_name : ∀ i : Fin 14, nameL.findIdx? (· == cwd i.val) = none := by decide
theorem isNum_iff {w : By} : isNum w = true ↔ w ∈ vocabL := by
 unfold isNum
 exact List.contains_iff_mem
theorem not_res {w : By} (h : resB w = false) : w ∉ vocabL ∧ w ∉ ctrlL ∧ w ∉ nameL := by
 unfold resB at h
 simp only [Bool.or_eq_false_iff] at h
 refine ⟨fun k => ?_, fun k => ?_, fun k => ?_⟩
 ·rw [List.contains_iff_mem.2 k] at h; exact absurd h.1.1 (by decide)
 ·rw [List.contains_iff_mem.2 k] at h; exact absurd h.1.2 (by decide)
 ·rw [List.contains_iff_mem.2 k] at h; exact absurd h.2 (by decide)
theorem wd_mem : ∀ i : Fin 14, cwd i.val ∈ ctrlL := by decide
theorem qva {w : By} (h : resB w = false) (i : Fin 14) : w ≠ cwd i.val := fun e => (not_res h).2.1 (e ▸ wd_mem i)
theorem styleI_none {w : By} (h : ∀ i : Fin 4, w ≠ cwd (10 + i.val)) : quq w = none := by
 unfold quq
 rw [List.find?_eq_none]
 intro i hi
 have hi : i < 4 := List.mem_range.1 hi
 have := h ⟨i, hi⟩
 simpa using fun e => this e.symm
theorem quv {p : Ps} {w : By} {t : List By} (hp : p.ws = w :: t) (h1 : quq w = none) (h2 : w ≠ cwd 1) : qum p = none := by
 unfold qum
 rw [hp]
 simp only [h1]
 rw [if_neg h2]
theorem qvt {p : Ps} {w : By} {t : List By} (hp : p.ws = w :: t) (h2 : w ≠ cwd 2) (h3 : w ≠ cwd 3) (h4 : w ≠ cwd 4) (h7 : w ≠ cwd 7) (hr : resB w = true) : wordP p = none := by
 unfold wordP
 rw [hp]
 have hl : qut (w :: t) = ([], 0) := by
  rw [qvk]
  rw [if_neg (fun k => h4 k.1), if_neg (by rw [hr]; exact fun k => absurd k.2 (by decide)), if_neg h7]
 have hc : capN w = 0 := if_neg (fun k => k.elim h2 h3)
 simp only [List.headD_cons, hc, List.drop_zero, hl, if_true]
theorem qvi {p : Ps} {w : By} {t : List By} (hp : p.ws = w :: t) (h9 : w ≠ cwd 9) : qux p = none := by
 unfold qux
 rw [hp]
 exact if_neg h9
theorem sign_none {p : Ps} {w : By} {t : List By} (hp : p.ws = w :: t) (h5 : w ≠ cwd 5) (hn : nameL.findIdx? (· == w) = none) (h0 : w ≠ cwd 0) : signP p = none := by
 have hc : chrP p.ws = (0, 0) := by
  unfold chrP
  rw [hp]
  simp only
  rw [if_neg h5]
  simp only [hn]
  rw [if_neg h0]
 unfold signP
 rw [hc]
 rfl
def smB (c : UInt8) : Prop := 97 ≤ c ∧ c ≤ 122
def cpB (c : UInt8) : Prop := 65 ≤ c ∧ c ≤ 90
def dgB (c : UInt8) : Prop := 48 ≤ c ∧ c ≤ 57
theorem quk : ∀ c : UInt8, (97 ≤ c ∧ c ≤ 122 → lowC c = c) ∧ (65 ≤ c ∧ c ≤ 90 → lowC c ≠ c ∧ upC (lowC c) = c ∧ 97 ≤ lowC c ∧ lowC c ≤ 122) := by
 intro c
 unfold lowC upC
 refine ⟨fun h => ?_, fun h => ?_⟩
 ·rw [if_neg]
  intro k
  have h1 := UInt8.le_iff_toNat_le.1 h.1
  have h2 := UInt8.le_iff_toNat_le.1 k.2
  simp at h1 h2
  omega
 ·rw [if_pos h]
  have h1 := UInt8.le_iff_toNat_le.1 h.1
  have h2 := UInt8.le_iff_toNat_le.1 h.2
  simp at h1 h2
  have e : (c + 32).toNat = c.toNat + 32 := by rw [UInt8.toNat_add]; simp; omega
  have g1 : 97 ≤ c + 32 := UInt8.le_iff_toNat_le.2 (by rw [e]; simp; omega)
  have g2 : c + 32 ≤ 122 := UInt8.le_iff_toNat_le.2 (by rw [e]; simp; omega)
  refine ⟨fun k => ?_, ?_, g1, g2⟩
  ·have := congrArg UInt8.toNat k; omega
  ·rw [if_pos ⟨g1, g2⟩]
   apply UInt8.toNat_inj.1
   rw [UInt8.toNat_sub_of_le _ _ (UInt8.le_iff_toNat_le.2 (by rw [e]; simp)), e]
   simp
theorem plainB_of {t : By} (h0 : t ≠ []) (h : ∀ c ∈ t, smB c) : qvh t = true := by
 unfold qvh
 cases t with
 | nil => exact absurd rfl h0
 | cons c t =>
  rw [show (List.isEmpty (c :: t)) = false from rfl]
  simp only [Bool.not_false, Bool.true_and, List.all_eq_true, decide_eq_true_eq]
  exact h
theorem qvs (rest : List By) : ∀ (t s : By) (i : Nat), (∀ c ∈ t, smB c) → s ++ t ≠ [] → qui (t.map (fun c => [c]) ++ cwd 8 :: rest) s i = (s ++ t, i + t.length + 1)
 | [], s, i, _, h => by
  rw [List.append_nil] at h ⊢
  show qui (cwd 8 :: rest) s i = _
  unfold qui
  rw [if_pos ⟨rfl, h⟩]
  rfl
 | c :: t, s, i, ht, h => by
  show qui ([c] :: (t.map (fun c => [c]) ++ cwd 8 :: rest)) s i = _
  unfold qui
  have hc := ht c (by simp)
  have h8 : ¬ ([c] : By) = cwd 8 := fun e => by have := congrArg List.length e; exact absurd this (by show ¬ 1 = List.length (cwd 8); decide)
  have hpl : qvh [c] = true := plainB_of (by simp) (fun x hx => by simp at hx; subst hx; exact hc)
  rw [if_neg (fun k => h8 k.1), if_neg (by rw [hpl]; simp)]
  rw [qvs rest t (s ++ [c]) (i + 1) (fun x hx => ht x (by simp [hx])) (by simp)]
  simp only [List.append_assoc, List.singleton_append, List.length_cons]
  congr 1
  omega
theorem lit_body (rest : List By) {t : By} (h0 : t ≠ []) (h : ∀ c ∈ t, smB c) (sp : Bool) : qut ((if sp = true then cwd 7 :: (t.map fun c => [c]) ++ [cwd 8] else (if resB t = true then [cwd 4] else []) ++ [t]) ++ rest) = (t, (if sp = true then cwd 7 :: (t.map fun c => [c]) ++ [cwd 8] else (if resB t = true then [cwd 4] else []) ++ [t]).length) := by
 have hpl := plainB_of h0 h
 cases sp with
 | true =>
  rw [if_pos rfl]
  show qut (cwd 7 :: ((t.map fun c => [c]) ++ [cwd 8] ++ rest)) = _
  rw [qvk]
  rw [if_neg (fun k => wd_ne ⟨7, by decide⟩ ⟨4, by decide⟩ (by decide) k.1), if_neg (by rw [(wd_num ⟨7, by decide⟩).2]; exact fun k => absurd k.2 (by decide)), if_pos rfl, List.append_assoc]
  show qui ((t.map fun c => [c]) ++ cwd 8 :: rest) [] 1 = _
  rw [qvs rest t [] 1 h (by simpa using h0)]
  simp
  omega
 | false =>
  rw [if_neg (by decide)]
  by_cases hr : resB t = true
  ·rw [if_pos hr]
   show qut (cwd 4 :: t :: rest) = _
   rw [qvk]
   rw [if_pos ⟨rfl, by simp, hpl⟩]
   rfl
  ·have hr : resB t = false := by simpa using hr
   rw [if_neg (by rw [hr]; decide)]
   show qut (t :: rest) = _
   rw [qvk]
   rw [if_neg (fun k => qva hr ⟨4, by decide⟩ k.1), if_pos ⟨hpl, hr⟩]
   rfl
def ShapeL (t : By) : Prop := t ≠ [] ∧ ((∀ c ∈ t, smB c) ∨ (∃ c r, t = c :: r ∧ cpB c ∧ ∀ x ∈ r, smB x) ∨ (2 ≤ t.length ∧ ∀ c ∈ t, cpB c))
theorem high_small {t : By} (h : ∀ c ∈ t, smB c) : highN t = 0 ∧ t.map lowC = t := by
 have e : ∀ c ∈ t, lowC c = c := fun c hc => (quk c).1 (h c hc)
 refine ⟨?_, ?_⟩
 ·unfold highN
  rw [List.countP_eq_zero]
  intro c hc
  simpa using e c hc
 ·exact (List.map_congr_left e).trans (List.map_id' t)
theorem body_head {t : By} (sp : Bool) : ∃ w u, (if sp = true then cwd 7 :: (t.map fun c => [c]) ++ [cwd 8] else (if resB t = true then [cwd 4] else []) ++ [t]) = w :: u ∧ (w = cwd 7 ∨ w = cwd 4 ∨ resB w = false) := by
 cases sp with
 | true => exact ⟨_, _, rfl, .inl rfl⟩
 | false =>
  rw [if_neg (by decide)]
  by_cases hr : resB t = true
  ·rw [if_pos hr]; exact ⟨_, _, rfl, .inr (.inl rfl)⟩
  ·rw [if_neg hr]; exact ⟨_, _, rfl, .inr (.inr (by simpa using hr))⟩
theorem head_ok {w : By} (h : w = cwd 7 ∨ w = cwd 4 ∨ resB w = false) : w ≠ cwd 2 ∧ w ≠ cwd 3 ∧ quq w = none ∧ w ≠ cwd 1 ∧ w ≠ cwd 6 ∧ isNum w = false := by
 rcases h with rfl | rfl | h
 ·decide
 ·decide
 ·refine ⟨qva h ⟨2, by decide⟩, qva h ⟨3, by decide⟩, styleI_none fun i => qva h ⟨10 + i.val, by omega⟩, qva h ⟨1, by decide⟩, qva h ⟨6, by decide⟩, ?_⟩
  cases hn : isNum w with
  | false => rfl
  | true => exact absurd (isNum_iff.1 hn) (not_res h).1
theorem qvf {t : By} (ht : ShapeL t) (sp : Bool) (rest : List By) {p : Ps} (hp : p.ws = quw t sp ++ rest) :
  (∃ w u, quw t sp = w :: u ∧ quq w = none ∧ w ≠ cwd 1 ∧ w ≠ cwd 6 ∧ isNum w = false) ∧ wordP p = some (txtP p t (quw t sp).length) := by
 obtain ⟨h0, hs⟩ := ht
 -- the lower text
 have hlow : (∀ c ∈ t.map lowC, smB c) ∧ t.map lowC ≠ [] := by
  refine ⟨fun c hc => ?_, by simpa using h0⟩
  obtain ⟨d, hd, rfl⟩ := List.mem_map.1 hc
  have key : smB d ∨ cpB d := by
   rcases hs with h | ⟨c, r, rfl, h1, h2⟩ | ⟨_, h⟩
   ·exact .inl (h d hd)
   ·rcases List.mem_cons.1 hd with rfl | hd
    ·exact .inr h1
    ·exact .inl (h2 d hd)
   ·exact .inr (h d hd)
  rcases key with k | k
  ·show 97 ≤ lowC d ∧ lowC d ≤ 122
   rw [(quk d).1 k]; exact k
  ·exact ((quk d).2 k).2.2
 obtain ⟨w, u, hb, hw⟩ := body_head (t := t.map lowC) sp
 have hw' := head_ok hw
 have hlit := lit_body rest hlow.2 hlow.1 sp
 obtain ⟨B, hB⟩ : ∃ B, (if sp = true then cwd 7 :: ((t.map lowC).map fun c => [c]) ++ [cwd 8] else (if resB (t.map lowC) = true then [cwd 4] else []) ++ [t.map lowC]) = B := ⟨_, rfl⟩
 have eL : quw t sp = (if highN t = 1 then [cwd 2] else if 1 < highN t then [cwd 3] else []) ++ B := by rw [← hB]; rfl
 rw [hB] at hb hlit
 have cap2 : cwd 2 ≠ cwd 3 := wd_ne ⟨2, by decide⟩ ⟨3, by decide⟩ (by decide)
 rcases hs with h | ⟨c, r, ec, h1, h2⟩ | ⟨hl2, h⟩
 ·obtain ⟨e0, e1⟩ := high_small h
  rw [e0, if_neg (by decide), if_neg (by decide), List.nil_append] at eL
  refine ⟨⟨w, u, by rw [eL, hb], hw'.2.2.1, hw'.2.2.2.1, hw'.2.2.2.2.1, hw'.2.2.2.2.2⟩, ?_⟩
  rw [eL] at hp ⊢
  unfold wordP
  have hh : p.ws.headD [] = w := by rw [hp, hb]; rfl
  rw [hh]
  have hc : capN w = 0 := if_neg (fun k => k.elim hw'.1 hw'.2.1)
  simp only [hc, List.drop_zero, hp, hlit]
  rw [if_neg (by rw [hb]; simp), if_neg hw'.2.1, if_neg (by decide), e1, Nat.zero_add]
 ·have hhc := (quk c).2 h1
  obtain ⟨e0, e1⟩ := high_small h2
  have hN : highN t = 1 := by
   rw [ec]
   unfold highN at e0 ⊢
   rw [List.countP_cons, e0]
   simp [hhc.1]
  rw [hN, if_pos rfl] at eL
  refine ⟨⟨cwd 2, B, by rw [eL]; rfl, by decide, by decide, by decide, by decide⟩, ?_⟩
  rw [eL] at hp ⊢
  unfold wordP
  have hh : p.ws.headD [] = cwd 2 := by rw [hp]; rfl
  have hd : p.ws.drop 1 = B ++ rest := by rw [hp]; rfl
  rw [hh]
  have hc : capN (cwd 2) = 1 := if_pos (.inl rfl)
  simp only [hc, hd, hlit]
  rw [if_neg (by rw [hb]; simp), if_neg cap2, if_pos trivial]
  have et : ((t.map lowC).take 1).map upC ++ (t.map lowC).drop 1 = t := by
   rw [ec]
   show upC (lowC c) :: r.map lowC = c :: r
   rw [hhc.2.1, e1]
  rw [et]
  congr 2
  simp
  omega
 ·have hN : 1 < highN t := by
   unfold highN
   rw [List.countP_eq_length.2 (fun c hc => by simpa using ((quk c).2 (h c hc)).1)]
   omega
  rw [if_neg (by omega), if_pos hN] at eL
  refine ⟨⟨cwd 3, B, by rw [eL]; rfl, by decide, by decide, by decide, by decide⟩, ?_⟩
  rw [eL] at hp ⊢
  unfold wordP
  have hh : p.ws.headD [] = cwd 3 := by rw [hp]; rfl
  have hd : p.ws.drop 1 = B ++ rest := by rw [hp]; rfl
  rw [hh]
  have hc : capN (cwd 3) = 1 := if_pos (.inr rfl)
  simp only [hc, hd, hlit]
  rw [if_neg (by rw [hb]; simp), if_pos trivial]
  have et : (t.map lowC).map upC = t := by
   rw [List.map_map]
   exact (List.map_congr_left fun c hc => ((quk c).2 (h c hc)).2.1).trans (List.map_id' t)
  rw [et]
  congr 2
  simp
  omega
def Lead (p q : Ps) : Prop := ∀ o, Parse q o → Parse p o
theorem lead_refl (p : Ps) : Lead p p := fun _ k => k
theorem quz {p q : Ps} (h : p.ws ≠ []) (hq : partP p = some q) : Lead p q := fun _ k => .step h hq k
theorem lead_trans {p q r : Ps} (h : Lead p q) (k : Lead q r) : Lead p r := fun o c => h o (k o c)
theorem qu0 (a b : List Gl) : txG (a ++ b) = txG a ++ txG b := by unfold txG; exact List.flatMap_append
theorem txG_map (y : Int) : ∀ t : By, txG (t.map fun c => ⟨[c], false, y⟩) = t
 | [] => rfl
 | c :: t => by
  show [c] ++ txG (t.map fun c => ⟨[c], false, y⟩) = c :: t
  rw [txG_map y t]; rfl
theorem txG_rep (g : Gl) : ∀ n : Nat, txG (List.replicate n g) = (List.replicate n g.s).flatten
 | 0 => rfl
 | n + 1 => by
  show g.s ++ txG (List.replicate n g) = _
  rw [txG_rep g n]; rfl
def quh (W R : List By) : Prop := ∀ x, W.getLast? = some x → x ∈ vocabL → ∀ w, R.head? = some w → w ∉ vocabL
theorem qup {a b R : List By} (h : quh (a ++ b) R) : quh b R := by
 intro x hx
 refine h x ?_
 rw [List.getLast?_append, hx]; rfl
theorem qu2 (W : List By) {w : By} {u : List By} (h : w ∉ vocabL) : quh W (w :: u) := by
 intro x _ _ v hv
 have : w = v := by simpa using hv
 exact this ▸ h
theorem qvn : ∀ d : Fin 10, qub d.val = [vw d.val] := by decide
theorem dg_nat {c : UInt8} (h : dgB c) : 48 ≤ c.toNat ∧ c.toNat ≤ 57 := by
 have h1 := UInt8.le_iff_toNat_le.1 h.1
 have h2 := UInt8.le_iff_toNat_le.1 h.2
 simp at h1 h2
 exact ⟨h1, h2⟩
theorem fig_run {R : List By} : ∀ (t : By) (s : By) (i : Nat), (∀ c ∈ t, dgB c) → (∀ w, R.head? = some w → w ∉ vocabL) → figN (t.flatMap (fun c => qub (c.toNat - 48)) ++ R) s i = (s ++ t, i + t.length)
 | [], s, i, _, hR => by
  show figN R s i = _
  rw [List.append_nil]
  cases R with
  | nil => rfl
  | cons w R =>
   unfold figN
   rw [num_none (w := w) (by simp) (hR w rfl)]
   rfl
 | c :: t, s, i, ht, hR => by
  have hc := dg_nat (ht c (by simp))
  have hw : qub (c.toNat - 48) = [vw (c.toNat - 48)] := qvn ⟨c.toNat - 48, by omega⟩
  show figN (qub (c.toNat - 48) ++ t.flatMap (fun c => qub (c.toNat - 48)) ++ R) s i = _
  rw [hw]
  show figN (vw (c.toNat - 48) :: (t.flatMap (fun c => qub (c.toNat - 48)) ++ R)) s i = _
  unfold figN
  rw [← hw, num_words (by omega)]
  simp only
  rw [if_pos (by omega), fig_run t _ _ (fun x hx => ht x (by simp [hx])) hR]
  have e : (48 + (((c.toNat - 48 : Nat) : Int)).toNat).toUInt8 = c := by
   rw [Int.toNat_natCast, show 48 + (c.toNat - 48) = c.toNat by omega]
   exact UInt8.ofNat_toNat
  rw [e]
  simp only [List.append_assoc, List.singleton_append, List.length_cons]
  congr 1
  omega
theorem decV_snoc (u : By) (c : UInt8) : decV (u ++ [c]) = 10 * decV u + (c.toNat - 48) := by
 unfold decV
 rw [List.foldl_append]; rfl
theorem decV_lt : ∀ (t : By) (n : Nat), (∀ c ∈ t, dgB c) → t.foldl (fun n c => 10 * n + (c.toNat - 48)) n < (n + 1) * 10 ^ t.length
 | [], n, _ => by simp
 | c :: t, n, h => by
  have hc := dg_nat (h c (by simp))
  have k := decV_lt t (10 * n + (c.toNat - 48)) (fun x hx => h x (by simp [hx]))
  show t.foldl _ (10 * n + (c.toNat - 48)) < (n + 1) * 10 ^ (t.length + 1)
  refine Nat.lt_of_lt_of_le k ?_
  rw [Nat.pow_succ, Nat.mul_comm (10 ^ t.length) 10, ← Nat.mul_assoc]
  exact Nat.mul_le_mul_right _ (by omega)
theorem fold_ge : ∀ (t : By) (n : Nat), n ≤ t.foldl (fun n c => 10 * n + (c.toNat - 48)) n
 | [], n => Nat.le_refl n
 | c :: t, n => Nat.le_trans (by omega) (fold_ge t (10 * n + (c.toNat - 48)))
theorem decV_pos {c : UInt8} {t : By} (h : dgB c) (h0 : c ≠ 48) : 0 < decV (c :: t) := by
 have hc := dg_nat h
 have : c.toNat ≠ 48 := fun e => h0 (UInt8.toNat_inj.1 e)
 exact Nat.lt_of_lt_of_le (by omega) (fold_ge t (10 * 0 + (c.toNat - 48)))
theorem qvj {u : By} {c : UInt8} (hc : dgB c) : decV (u ++ [c]) / 10 = decV u ∧ (48 + decV (u ++ [c]) % 10).toUInt8 = c := by
 have hc := dg_nat hc
 rw [decV_snoc]
 refine ⟨by omega, ?_⟩
 rw [show 48 + (10 * decV u + (c.toNat - 48)) % 10 = c.toNat by omega]
 exact UInt8.ofNat_toNat
theorem decW_run : ∀ (f : Nat) (t s : By), t.length ≤ f → (∀ c ∈ t, dgB c) → t.head? ≠ some 48 → s ≠ [] → decW f (decV t) s = t ++ s
 | 0, t, s, hl, _, _, _ => by
  have : t = [] := List.length_eq_zero_iff.1 (by omega)
  subst this; rfl
 | f + 1, t, s, hl, hd, h0, hs => by
  rcases List.eq_nil_or_concat t with rfl | ⟨u, c, rfl⟩
  ·show (if 0 < 0 ∨ s = [] then _ else s) = s
   exact if_neg (fun k => k.elim (fun k => absurd k (by decide)) hs)
  ·rw [List.concat_eq_append] at *
   have hc := hd c (by simp)
   have hp : 0 < decV (u ++ [c]) := by
    cases u with
    | nil => exact decV_pos (t := []) hc (fun e => h0 (by rw [e]; rfl))
    | cons d u => exact decV_pos (hd d (by simp)) (fun e => h0 (by rw [e]; rfl))
   unfold decW
   rw [if_pos (.inl hp), (qvj hc).1, (qvj hc).2, decW_run f u (c :: s) (by simp at hl; omega) (fun x hx => hd x (by simp [hx])) ?_ (by simp)]
   ·simp
   ·cases u with
    | nil => simp
    | cons d u => exact h0
theorem dec_top {t : By} (h0 : t ≠ []) (hl : t.length ≤ 9) (hd : ∀ c ∈ t, dgB c) (hz : t.length = 1 ∨ t.head? ≠ some 48) : decW 12 (decV t) [] = t := by
 rcases List.eq_nil_or_concat t with rfl | ⟨u, c, rfl⟩
 ·exact absurd rfl h0
 ·rw [List.concat_eq_append] at *
  have hc := hd c (by simp)
  unfold decW
  rw [if_pos (.inr rfl), (qvj hc).1, (qvj hc).2, decW_run 11 u [c] (by simp at hl; omega) (fun x hx => hd x (by simp [hx])) ?_ (by simp)]
  cases u with
  | nil => simp
  | cons d u => exact hz.elim (fun k => by simp at k) id
theorem part_word {p q : Ps} (h1 : qum p = none) (h : wordP p = some q) : partP p = some q := by
 unfold partP; rw [h1, h]; rfl
theorem part_fig {p q : Ps} (h1 : qum p = none) (h2 : wordP p = none) (h : qux p = some q) : partP p = some q := by
 unfold partP; rw [h1, h2, h]; rfl
theorem part_sign {p q : Ps} (h1 : qum p = none) (h2 : wordP p = none) (h3 : qux p = none) (h : signP p = some q) : partP p = some q := by
 unfold partP; rw [h1, h2, h3, h]; rfl
theorem words_cons {n : Nat} (h : n ≤ 999999999) : ∃ w u, qub n = w :: u ∧ w ∈ vocabL := by
 cases e : qub n with
 | nil => exact absurd e (qu5 n)
 | cons w u => exact ⟨w, u, rfl, qve h w (by rw [e]; simp)⟩
theorem vocab_part {p : Ps} {w : By} {t : List By} (hp : p.ws = w :: t) (hw : w ∈ vocabL) : partP p = qvm p := by
 have h := qu3 w hw
 unfold partP
 rw [quv hp h.1 h.2.1, qvt hp h.2.2.1 h.2.2.2.1 h.2.2.2.2.1 h.2.2.2.2.2.1 h.2.2.2.2.2.2.2.2.2.2.1, qvi hp h.2.2.2.2.2.2.1, sign_none hp h.2.2.2.2.2.2.2.1 h.2.2.2.2.2.2.2.2.2.2.2 h.2.2.2.2.2.2.2.2.1]
 rfl
theorem vocab_last {n : Nat} (h : n ≤ 999999999) : ∃ x, (qub n).getLast? = some x ∧ x ∈ vocabL := by
 cases e : (qub n).getLast? with
 | none => exact absurd (List.getLast?_eq_none_iff.1 e) (qu5 n)
 | some x => exact ⟨x, rfl, qve h x (List.mem_of_getLast? e)⟩
theorem quy {n : Nat} (h : n ≤ 999999999) {R : List By} (hr : quh (qub n) R) : qvc (qub n ++ R) = some ((n : Int), (qub n).length) := by
 obtain ⟨x, hx, hv⟩ := vocab_last h
 exact prefix_words h (fun w hw => hr x hx hv w hw)
theorem digits_part {t : By} (h0 : t ≠ []) (hd : ∀ c ∈ t, dgB c) (dg : Bool) :
  (∃ w u, qu4 t dg = w :: u ∧ w ≠ cwd 6) ∧ ∀ (R : List By) (p : Ps), p.ws = qu4 t dg ++ R → (∀ w, R.head? = some w → w ≠ cwd 6) → quh (qu4 t dg) R → partP p = some (txtP p t (qu4 t dg).length) := by
 unfold qu4
 by_cases hc : dg = true ∨ 9 < t.length ∨ (1 < t.length ∧ t.head? = some 48)
 ·rw [if_pos hc]
  refine ⟨⟨_, _, rfl, by decide⟩, fun R p hp h6 he => ?_⟩
  replace hp : p.ws = cwd 9 :: (t.flatMap (fun c => qub (c.toNat - 48)) ++ R) := hp
  have hlast : ∀ w, R.head? = some w → w ∉ vocabL := by
   have key : ∃ x, (cwd 9 :: t.flatMap fun c => qub (c.toNat - 48)).getLast? = some x ∧ x ∈ vocabL := by
    rcases List.eq_nil_or_concat t with rfl | ⟨u, c, rfl⟩
    ·exact absurd rfl h0
    ·rw [List.concat_eq_append] at *
     have := dg_nat (hd c (by simp))
     obtain ⟨x, hx, hv⟩ := vocab_last (n := c.toNat - 48) (by omega)
     refine ⟨x, ?_, hv⟩
     rw [List.flatMap_append, show ([c] : By).flatMap (fun c => qub (c.toNat - 48)) = qub (c.toNat - 48) by simp, ← List.cons_append, List.getLast?_append, hx]
     rfl
   obtain ⟨x, hx, hv⟩ := key
   exact he x hx hv
  have hlen : (t.flatMap fun c => qub (c.toNat - 48)).length = t.length := by
   clear hp he hlast hc h6 h0
   induction t with
   | nil => rfl
   | cons c t ih =>
    have := dg_nat (hd c (by simp))
    rw [List.flatMap_cons, List.length_append, ih (fun x hx => hd x (by simp [hx])), qvn ⟨c.toNat - 48, by omega⟩]
    simp
    omega
  refine part_fig (quv hp (by decide) (by decide)) (qvt hp (by decide) (by decide) (by decide) (by decide) (by decide)) ?_
  unfold qux
  rw [hp]
  simp only
  rw [if_pos trivial, fig_run t [] 1 hd hlast]
  simp only [List.nil_append]
  rw [if_neg h0]
  congr 2
  rw [List.length_cons, hlen]
  omega
 ·rw [if_neg hc]
  simp only [not_or] at hc
  have hv : decV t ≤ 999999999 := by
   have k := decV_lt t 0 hd
   have : 10 ^ t.length ≤ 10 ^ 9 := Nat.pow_le_pow_right (by decide) (by omega)
   have e : decV t < 1 * 10 ^ t.length := by simpa [decV] using k
   omega
  obtain ⟨w, u, hw, hm⟩ := words_cons hv
  refine ⟨⟨w, u, hw, (qu3 w hm).2.2.2.2.2.2.2.2.2.1⟩, fun R p hp h6 he => ?_⟩
  have hp' : p.ws = w :: (u ++ R) := by rw [hp, hw]; rfl
  rw [vocab_part hp' hm]
  unfold qvm
  rw [hp, quy hv he]
  simp only
  have hlen : t.length = 1 ∨ t.head? ≠ some 48 := by
   have : t.length ≠ 0 := fun k => h0 (List.length_eq_zero_iff.1 k)
   by_cases h1 : t.length = 1
   ·exact .inl h1
   ·exact .inr fun k => hc.2.2 ⟨by omega, k⟩
  rw [if_neg (by omega), List.drop_left, Int.toNat_natCast, dec_top h0 (by omega) hd hlen, if_pos]
  cases R with
  | nil => exact fun k => absurd k (by decide)
  | cons w R => exact h6 w rfl
def okR (r : Int) : Prop := (0 ≤ r ∧ r ≤ 55295) ∨ (57344 ≤ r ∧ r ≤ 1114111)
theorem sgn_idx {r : Int} {i : Nat} (h : sgnI r = some i) : i < 32 ∧ ((signL.getD i 0).toNat : Int) = r := by
 obtain ⟨hl, hp, -⟩ := List.findIdx?_eq_some_iff_getElem.1 h
 refine ⟨hl, ?_⟩
 have e : signL.getD i 0 = signL[i] := by
  rw [List.getD_eq_getElem?_getD, List.getElem?_eq_getElem hl]; rfl
 rw [e]
 simpa using hp
theorem name_mem {i : Nat} (h : i < 32) : nameL.getD i [] ∈ nameL := by
 have hl : i < nameL.length := h
 rw [List.getD_eq_getElem?_getD, List.getElem?_eq_getElem hl]
 exact List.getElem_mem hl
theorem quj {r : Int} : ∃ w u, qud r = w :: u ∧ w ∉ vocabL ∧ quq w = none ∧ w ≠ cwd 1 ∧ w ≠ cwd 2 ∧ w ≠ cwd 3 ∧ w ≠ cwd 4 ∧ w ≠ cwd 7 ∧ w ≠ cwd 9 ∧ w ≠ cwd 6 ∧ resB w = true := by
 unfold qud
 cases h : sgnI r with
 | none => exact ⟨_, _, rfl, by decide, by decide, by decide, by decide, by decide, by decide, by decide, by decide, by decide, by decide⟩
 | some i =>
  have hm := name_mem (sgn_idx h).1
  have k := name_facts _ hm
  refine ⟨_, _, rfl, fun c => ?_, k.1, k.2.1, k.2.2.1, k.2.2.2.1, k.2.2.2.2.1, k.2.2.2.2.2.1, k.2.2.2.2.2.2.1, k.2.2.2.2.2.2.2.2.1, k.2.2.2.2.2.2.2.2.2.1⟩
  have := isNum_iff.2 c
  rw [k.2.2.2.2.2.2.2.2.2.2] at this
  exact absurd this (by decide)
theorem name_five : ∀ w ∈ nameL, w ≠ cwd 5 := by decide
theorem chr_spell {r : Int} (hr : okR r) {R : List By} (he : quh (qud r) R) : chrP (qud r ++ R) = (r, (qud r).length) ∧ (qud r).length ≠ 0 := by
 unfold okR at hr
 unfold qud at he ⊢
 cases h : sgnI r with
 | some i =>
  obtain ⟨hi, hs⟩ := sgn_idx h
  have hm := name_mem hi
  refine ⟨?_, by simp⟩
  show chrP (nameL.getD i [] :: R) = _
  unfold chrP
  simp only
  rw [if_neg (name_five _ hm), name_idx ⟨i, hi⟩]
  simp only
  rw [hs]; rfl
 | none =>
  rw [h] at he
  refine ⟨?_, by simp⟩
  have he : quh (qub r.toNat) R := qup (a := [cwd 0]) he
  show chrP (cwd 0 :: (qub r.toNat ++ R)) = _
  unfold chrP
  simp only
  rw [if_neg (by decide), show nameL.findIdx? (· == cwd 0) = none from wd_name ⟨0, by decide⟩]
  simp only [if_true]
  rw [quy (by omega) he]
  simp only
  rw [show (r.toNat : Int) = r by omega, if_pos ⟨hr, h⟩, List.length_cons, Nat.add_comm]
theorem spell_part {r : Int} (hr : okR r) {R : List By} (he : quh (qud r) R) {p q : Ps} (hp : p.ws = qud r ++ R) (hq : addP p r 1 (qud r).length = some q) : partP p = some q := by
 obtain ⟨w, u, hw, h0, h1, h2, h3, h4, h5, h6, h7, h8, h9⟩ := quj (r := r)
 have hp' : p.ws = w :: (u ++ R) := by rw [hp, hw]; rfl
 refine part_sign (quv hp' h1 h2) (qvt hp' h3 h4 h5 h6 h9) (qvi hp' h7) ?_
 obtain ⟨hc, hn⟩ := chr_spell hr he
 unfold signP
 rw [hp, hc]
 simp only
 rw [if_neg hn]
 exact hq
theorem marks_part {s : By} (hs : zbf s = 0) {R : List By} {O : List Gl} {b : Bool} {y : Int} (hm : ∀ k, 0 < k → ∀ m, (zbj s)[k]? = some m → za5 m = 0 ∧ okR m) :
  ∀ (ms : List Int) (k : Nat) (p : Ps), (zbj s).drop (k + 1) = ms → k < (zbj s).length → quh (ms.flatMap qud) R → p.ws = ms.flatMap qud ++ R → p.out = O ++ [⟨encS ((zbj s).take (k + 1)), b, y⟩] → p.j = false →
   ∃ q, Lead p q ∧ q.ws = R ∧ q.out = O ++ [⟨encS (zbj s), b, y⟩] ∧ q.y = p.y ∧ q.j = false
 | [], k, p, hd, hk, _, hp, ho, hj => by
  refine ⟨p, lead_refl p, hp, ?_, rfl, hj⟩
  rw [ho, List.take_of_length_le (List.drop_eq_nil_iff.1 hd)]
 | m :: ms, k, p, hd, hk, he, hp, ho, hj => by
  have hk1 : k + 1 < (zbj s).length := by
   have := congrArg List.length hd
   simp at this
   omega
  have hget : (zbj s)[k + 1]? = some m := by
   have := congrArg List.head? hd
   rwa [List.head?_drop] at this
  obtain ⟨hw0, hok⟩ := hm (k + 1) (by omega) m hget
  have hd2 : (zbj s).drop (k + 1 + 1) = ms := by
   have := congrArg List.tail hd
   rwa [List.tail_drop] at this
  rw [List.flatMap_cons] at he hp
  rw [List.append_assoc] at hp
  have hE : quh (qud m) (ms.flatMap qud ++ R) := by
   cases ms with
   | nil => rw [List.flatMap_nil, List.append_nil] at he; exact he
   | cons m2 ms =>
    obtain ⟨w, u, hw, h0, -⟩ := quj (r := m2)
    rw [List.flatMap_cons, hw]
    exact qu2 _ h0
  have hE2 : quh (ms.flatMap qud) R := qup he
  have hatt := clus_att hs k m hget
  let q1 : Ps := ⟨ms.flatMap qud ++ R, O ++ [⟨encS ((zbj s).take (k + 2)), b, y⟩], p.y, false⟩
  have hq : addP p m 1 (qud m).length = some q1 := by
   unfold addP
   rw [if_neg (by omega), if_pos hw0, if_neg (by omega), ho, List.getLast?_concat]
   simp only
   rw [hatt, hp, List.drop_left, List.dropLast_concat]
   rfl
  obtain ⟨q, hl, h1, h2, h3, h4⟩ := marks_part hs hm ms (k + 1) q1 hd2 hk1 hE2 rfl rfl rfl
  obtain ⟨w, u, hw, -⟩ := quj (r := m)
  refine ⟨q, lead_trans (quz (by rw [hp, hw]; simp) (spell_part hok hE hp hq)) hl, h1, h2, h3, h4⟩
theorem qvg {s : By} (h : s ≠ [32]) : qul s = (zbj s).flatMap qud := if_neg h
theorem single_part {s : By} (hs : zbf s = 0) (h32 : s ≠ [32]) :
  (∃ w u, qul s = w :: u ∧ w ≠ cwd 6) ∧ ∀ (R : List By) (p : Ps), p.ws = qul s ++ R → quh (qul s) R →
   ∃ q b, Lead p q ∧ q.ws = R ∧ q.out = p.out ++ [⟨s, b, p.y⟩] ∧ q.y = p.y ∧ q.j = false := by
 rw [qvg h32]
 obtain ⟨c, ms, hr, hw1, hms, hse, hok⟩ := clus hs
 constructor
 ·obtain ⟨w, u, hw, -, -, -, -, -, -, -, -, h6, -⟩ := quj (r := c)
  rw [hr, List.flatMap_cons, hw]
  exact ⟨_, _, rfl, h6⟩
 ·intro R p hp he
  rw [hr, List.flatMap_cons] at hp he
  rw [List.append_assoc] at hp
  have hE : quh (qud c) (ms.flatMap qud ++ R) := by
   cases ms with
   | nil => rw [List.flatMap_nil, List.append_nil] at he; exact he
   | cons m2 ms =>
    obtain ⟨w, u, hw, h0, -⟩ := quj (r := m2)
    rw [List.flatMap_cons, hw]
    exact qu2 _ h0
  let q1 : Ps := ⟨ms.flatMap qud ++ R, p.out ++ [⟨encS ((zbj s).take (0 + 1)), decide (za5 c = 2), p.y⟩], p.y, false⟩
  have hq : addP p c 1 (qud c).length = some q1 := by
   unfold addP
   rw [if_neg (by omega), if_neg (by omega), hp, List.drop_left]
   have e1 : (zbj s).take (0 + 1) = [c] := by rw [hr]; rfl
   simp only [q1, e1]
   rfl
  have hm : ∀ k, 0 < k → ∀ m, (zbj s)[k]? = some m → za5 m = 0 ∧ okR m := by
   intro k hk m hg
   refine ⟨?_, hok m (List.mem_of_getElem? hg)⟩
   rw [hr] at hg
   obtain ⟨k, rfl⟩ : ∃ j, k = j + 1 := ⟨k - 1, by omega⟩
   rw [List.getElem?_cons_succ] at hg
   exact hms m (List.mem_of_getElem? hg)
  obtain ⟨q, hl, h1, h2, h3, h4⟩ := marks_part hs hm ms 0 q1 (by rw [hr]; rfl) (by rw [hr]; simp) (qup he) rfl rfl rfl
  obtain ⟨w, u, hw, -⟩ := quj (r := c)
  have hse2 : encS (zbj s) = s := by rw [hr]; exact hse.symm
  refine ⟨q, decide (za5 c = 2), lead_trans (quz (by rw [hp, hw]; simp) (spell_part (hok c (by rw [hr]; simp)) hE hp hq)) hl, h1, ?_, h3, h4⟩
  rw [h2, hse2]
theorem times_part {s : By} (hs : zbf s = 0) (h32 : s ≠ [32]) (h1 : (zbj s).length = 1) {n : Nat} (hn : 2 ≤ n) (hn2 : n ≤ 132) :
  (∃ w u, qub n ++ cwd 6 :: qul s = w :: u ∧ w ≠ cwd 6) ∧ ∀ (R : List By) (p : Ps), p.ws = (qub n ++ cwd 6 :: qul s) ++ R → quh (qub n ++ cwd 6 :: qul s) R →
   ∃ q b, Lead p q ∧ q.ws = R ∧ q.out = p.out ++ List.replicate n ⟨s, b, p.y⟩ ∧ q.y = p.y ∧ q.j = false := by
 rw [qvg h32]
 obtain ⟨c, ms, hr, hw1, hms, hse, hok⟩ := clus hs
 have hms0 : ms = [] := by rw [hr] at h1; simpa using h1
 subst hms0
 have hf : (zbj s).flatMap qud = qud c := by rw [hr]; simp
 rw [hf]
 obtain ⟨w, u, hw, hv⟩ := words_cons (n := n) (by omega)
 constructor
 ·rw [hw]
  exact ⟨_, _, rfl, (qu3 w hv).2.2.2.2.2.2.2.2.2.1⟩
 ·intro R p hp he
  have he2 : quh (qud c) R := qup (a := qub n ++ [cwd 6]) (by rw [List.append_assoc]; exact he)
  obtain ⟨hc, hcn⟩ := chr_spell (hok c (by rw [hr]; simp)) he2
  have hp1 : p.ws = qub n ++ (cwd 6 :: (qud c ++ R)) := by rw [hp]; simp
  have hp' : p.ws = w :: (u ++ (cwd 6 :: (qud c ++ R))) := by rw [hp1, hw]; rfl
  have hd0 : p.ws.drop (qub n).length = cwd 6 :: (qud c ++ R) := by rw [hp1, List.drop_left]
  have hd1 : p.ws.drop ((qub n).length + 1) = qud c ++ R := by rw [← List.drop_drop, hd0]; rfl
  have hd2 : p.ws.drop ((qub n).length + 1 + (qud c).length) = R := by rw [← List.drop_drop, hd1, List.drop_left]
  have hse2 : encS [c] = s := hse.symm
  refine ⟨⟨R, p.out ++ List.replicate n ⟨s, decide (za5 c = 2), p.y⟩, p.y, false⟩, decide (za5 c = 2), quz (by rw [hp']; simp) ?_, rfl, rfl, rfl, rfl⟩
  rw [vocab_part hp' hv]
  unfold qvm
  rw [show qvc p.ws = some ((n : Int), (qub n).length) by rw [hp1]; exact quy (by omega) (qu2 _ (by decide))]
  simp only
  rw [if_neg (by omega), hd0, if_neg (by simp), hd1, hc]
  simp only
  rw [if_neg (by omega)]
  unfold addP
  rw [if_neg (by omega), if_neg (by omega), Int.toNat_natCast, hd2, hse2]
def GoodG (g : Gl) : Prop := zbf g.s = 0 ∧ 0 ≤ g.y ∧ g.y ≤ 3 ∧ g.s ≠ [32]
theorem qur (st : Stg) (g : Gl) (l : List Gl) : quf st (g :: l) = if kindG g = 1 ∨ kindG g = 3 then cntG (kindG g) g.y (g :: l)
  else if kindG g = 2 then (if 1 < cntG 2 g.y (g :: l) then cntG 2 g.y (g :: l) else 1 + cntG 1 g.y l)
  else if 0 < st.rep ∧ st.rep ≤ ((1 + sameG g 131 l : Nat) : Int) ∧ (zbj g.s).length = 1 then 1 + sameG g 131 l else 1 := rfl
theorem kind_one (c : UInt8) (w : Bool) (y : Int) : kindG ⟨[c], w, y⟩ = if 97 ≤ c ∧ c ≤ 122 then 1 else if 65 ≤ c ∧ c ≤ 90 then 2 else if 48 ≤ c ∧ c ≤ 57 then 3 else 0 := rfl
theorem qu9 {g : Gl} (h : kindG g ≠ 0) : ∃ c, g.s = [c] ∧ ((kindG g = 1 ∧ smB c) ∨ (kindG g = 2 ∧ cpB c) ∨ (kindG g = 3 ∧ dgB c)) := by
 obtain ⟨s, w, y⟩ := g
 match s, h with
 | [], h => exact absurd rfl h
 | _ :: _ :: _, h => exact absurd rfl h
 | [c], h =>
  rw [kind_one] at h ⊢
  refine ⟨c, rfl, ?_⟩
  by_cases k1 : 97 ≤ c ∧ c ≤ 122
  ·exact .inl ⟨if_pos k1, k1⟩
  ·rw [if_neg k1] at h ⊢
   by_cases k2 : 65 ≤ c ∧ c ≤ 90
   ·exact .inr (.inl ⟨if_pos k2, k2⟩)
   ·rw [if_neg k2] at h ⊢
    by_cases k3 : 48 ≤ c ∧ c ≤ 57
    ·exact .inr (.inr ⟨if_pos k3, k3⟩)
    ·exact absurd (if_neg k3) h
theorem cnt_le (k : Nat) (y : Int) : ∀ l, cntG k y l ≤ l.length
 | [] => Nat.le_refl _
 | g :: l => by
  unfold cntG
  have := cnt_le k y l
  split
  ·simp only [List.length_cons]; omega
  ·omega
theorem qu7 (k : Nat) (y : Int) : ∀ l : List Gl, ∀ g ∈ List.take (cntG k y l) l, kindG g = k
 | [], _, h => absurd h (by simp [cntG])
 | g :: l, x, h => by
  unfold cntG at h
  split at h
  ·rename_i c
   rw [List.take_succ_cons] at h
   rcases List.mem_cons.1 h with rfl | h
   ·exact c.1
   ·exact qu7 k y l x h
  ·simp at h
theorem same_le (g : Gl) : ∀ m l, sameG g m l ≤ l.length ∧ sameG g m l ≤ m
 | 0, l => by simp [sameG]
 | m + 1, [] => by simp [sameG]
 | m + 1, h :: l => by
  unfold sameG
  have := same_le g m l
  split
  ·simp only [List.length_cons]; omega
  ·simp
theorem same_take (g : Gl) : ∀ (m : Nat) (l : List Gl), txG (l.take (sameG g m l)) = (List.replicate (sameG g m l) g.s).flatten
 | 0, l => by simp [sameG, txG]
 | m + 1, [] => by simp [sameG, txG]
 | m + 1, h :: l => by
  unfold sameG
  split
  ·rename_i c
   rw [List.take_succ_cons]
   show h.s ++ txG (l.take (sameG g m l)) = _
   rw [same_take g m l, c.1]
   rfl
  ·simp [txG]
theorem qvq {k : Nat} (P : UInt8 → Prop) (hP : ∀ g, kindG g = k → ∃ c, g.s = [c] ∧ P c) : ∀ l : List Gl, (∀ g ∈ l, kindG g = k) → (∀ c ∈ txG l, P c) ∧ (txG l).length = l.length
 | [], _ => ⟨by simp [txG], rfl⟩
 | g :: l, h => by
  obtain ⟨c, hc, hp⟩ := hP g (h g (by simp))
  obtain ⟨h1, h2⟩ := qvq P hP l (fun x hx => h x (by simp [hx]))
  have e : txG (g :: l) = c :: txG l := by show g.s ++ txG l = _; rw [hc]; rfl
  rw [e]
  refine ⟨fun x hx => ?_, by simp [h2]⟩
  rcases List.mem_cons.1 hx with rfl | hx
  ·exact hp
  ·exact h1 x hx
theorem kind1 (g : Gl) (h : kindG g = 1) : ∃ c, g.s = [c] ∧ smB c := by
 obtain ⟨c, hc, k | k | k⟩ := qu9 (g := g) (by omega)
 ·exact ⟨c, hc, k.2⟩
 ·omega
 ·omega
theorem kind2 (g : Gl) (h : kindG g = 2) : ∃ c, g.s = [c] ∧ cpB c := by
 obtain ⟨c, hc, k | k | k⟩ := qu9 (g := g) (by omega)
 ·omega
 ·exact ⟨c, hc, k.2⟩
 ·omega
theorem kind3 (g : Gl) (h : kindG g = 3) : ∃ c, g.s = [c] ∧ dgB c := by
 obtain ⟨c, hc, k | k | k⟩ := qu9 (g := g) (by omega)
 ·omega
 ·omega
 ·exact ⟨c, hc, k.2⟩
theorem kind_cases (g : Gl) : kindG g = 0 ∨ kindG g = 1 ∨ kindG g = 2 ∨ kindG g = 3 := by
 by_cases h : kindG g = 0
 ·exact .inl h
 ·obtain ⟨c, hc, k | k | k⟩ := qu9 h
  ·exact .inr (.inl k.1)
  ·exact .inr (.inr (.inl k.1))
  ·exact .inr (.inr (.inr k.1))
theorem qvr (st : Stg) (g : Gl) (t : List Gl) : 1 ≤ quf st (g :: t) ∧ quf st (g :: t) ≤ (g :: t).length := by
 rw [qur]
 have self : ∀ k, kindG g = k → cntG k g.y (g :: t) = cntG k g.y t + 1 := fun k hk => if_pos ⟨hk, rfl⟩
 have c1 := cnt_le (kindG g) g.y t
 have c2 := cnt_le 1 g.y t
 have c3 := same_le g 131 t
 have c4 := cnt_le 2 g.y t
 simp only [List.length_cons]
 split
 ·rw [self _ rfl]; omega
 ·split
  ·rename_i h
   rw [self 2 h]
   split <;> omega
  ·split <;> omega
theorem piece_part (st : Stg) (g : Gl) (t : List Gl) (hg : GoodG g) :
  (∃ w u, quu st ((g :: t).take (quf st (g :: t))) = w :: u ∧ w ≠ cwd 6) ∧
  ∀ (R : List By) (p : Ps), p.ws = quu st ((g :: t).take (quf st (g :: t))) ++ R → (kindG g ≠ 0 → p.j = false) → (∀ w, R.head? = some w → w ≠ cwd 6) → quh (quu st ((g :: t).take (quf st (g :: t)))) R →
   ∃ q, Lead p q ∧ q.ws = R ∧ txG q.out = txG p.out ++ txG ((g :: t).take (quf st (g :: t))) ∧ q.y = p.y ∧ q.j = decide (kindG g ≠ 0) := by
 obtain ⟨hN, hL⟩ := qvr st g t
 obtain ⟨m, hm⟩ : ∃ m, quf st (g :: t) = m + 1 := ⟨quf st (g :: t) - 1, by omega⟩
 have htk : (g :: t).take (quf st (g :: t)) = g :: t.take m := by rw [hm, List.take_succ_cons]
 have text : ∀ (W R : List By) (p : Ps) (T : By), (∃ w u, W = w :: u ∧ w ≠ cwd 6) → p.ws = W ++ R → p.j = false → partP p = some (txtP p T W.length) → kindG g ≠ 0 → ∃ q, Lead p q ∧ q.ws = R ∧ txG q.out = txG p.out ++ T ∧ q.y = p.y ∧ q.j = decide (kindG g ≠ 0) := by
  intro W R p T hW hp hj hq hk
  obtain ⟨w, u, rfl, -⟩ := hW
  refine ⟨_, quz (by rw [hp]; simp) hq, ?_, ?_, rfl, (decide_eq_true hk).symm⟩
  ·show p.ws.drop _ = R
   rw [hp, List.drop_left]
  ·show txG (p.out ++ (if p.j = true then _ else []) ++ T.map fun c => ⟨[c], false, p.y⟩) = _
   rw [hj, if_neg (by decide), List.append_nil, qu0, txG_map]
 have hsp : quu st ((g :: t).take (quf st (g :: t))) = if kindG g = 1 ∨ kindG g = 2 then quw (txG (g :: t.take m)) st.spell else if kindG g = 3 then qu4 (txG (g :: t.take m)) st.digs else if t.take m = [] then qul g.s else qub (g :: t.take m).length ++ cwd 6 :: qul g.s := by rw [htk]; rfl
 rw [hsp, htk]
 by_cases h12 : kindG g = 1 ∨ kindG g = 2
 ·rw [if_pos h12]
  have hshape : ShapeL (txG (g :: t.take m)) := by
   rw [← htk]
   rcases h12 with h | h
   ·have e : quf st (g :: t) = cntG 1 g.y (g :: t) := by rw [qur]; rw [if_pos (.inl h), h]
    obtain ⟨a1, a2⟩ := qvq smB kind1 ((g :: t).take (quf st (g :: t))) (by rw [e]; exact qu7 1 g.y (g :: t))
    refine ⟨fun k => ?_, .inl a1⟩
    rw [k, htk] at a2
    simp at a2
   ·have e : quf st (g :: t) = if 1 < cntG 2 g.y (g :: t) then cntG 2 g.y (g :: t) else 1 + cntG 1 g.y t := by rw [qur]; rw [if_neg (by omega), if_pos h]
    by_cases hc : 1 < cntG 2 g.y (g :: t)
    ·rw [if_pos hc] at e
     obtain ⟨a1, a2⟩ := qvq cpB kind2 ((g :: t).take (quf st (g :: t))) (by rw [e]; exact qu7 2 g.y (g :: t))
     have hlen : 2 ≤ (txG ((g :: t).take (quf st (g :: t)))).length := by
      rw [a2, List.length_take, e]
      have := cnt_le 2 g.y (g :: t)
      omega
     refine ⟨fun k => ?_, .inr (.inr ⟨hlen, a1⟩)⟩
     rw [k] at hlen
     simp at hlen
    ·rw [if_neg hc] at e
     obtain ⟨c, hc, hcp⟩ := kind2 g h
     rw [e, Nat.add_comm, List.take_succ_cons]
     obtain ⟨a1, a2⟩ := qvq smB kind1 _ (qu7 1 g.y t)
     have e2 : txG (g :: t.take (cntG 1 g.y t)) = c :: txG (t.take (cntG 1 g.y t)) := by show g.s ++ _ = _; rw [hc]; rfl
     rw [e2]
     exact ⟨by simp, .inr (.inl ⟨c, _, rfl, hcp, a1⟩)⟩
  have hp0 := qvf hshape st.spell [] (p := ⟨quw (txG (g :: t.take m)) st.spell ++ [], [], 0, false⟩) rfl
  obtain ⟨⟨w, u, hw, h1, h2, h6, h7⟩, -⟩ := hp0
  refine ⟨⟨w, u, hw, h6⟩, fun R p hp hj hr he => ?_⟩
  have hq := (qvf hshape st.spell R hp).2
  have hk : kindG g ≠ 0 := by omega
  refine text _ R p _ ⟨w, u, hw, h6⟩ hp (hj hk) (part_word (quv (w := w) (t := u ++ R) (by rw [hp, hw]; rfl) h1 h2) hq) hk
 ·rw [if_neg h12]
  by_cases h3 : kindG g = 3
  ·rw [if_pos h3]
   have e : quf st (g :: t) = cntG 3 g.y (g :: t) := by rw [qur]; rw [if_pos (.inr h3), h3]
   obtain ⟨a1, a2⟩ := qvq dgB kind3 ((g :: t).take (quf st (g :: t))) (by rw [e]; exact qu7 3 g.y (g :: t))
   rw [htk] at a1 a2
   have h0 : txG (g :: t.take m) ≠ [] := fun k => by rw [k] at a2; simp at a2
   obtain ⟨b1, b2⟩ := digits_part h0 a1 st.digs
   refine ⟨b1, fun R p hp hj hr he => ?_⟩
   have hk : kindG g ≠ 0 := by omega
   exact text _ R p _ b1 hp (hj hk) (b2 R p hp hr he) hk
  ·rw [if_neg h3]
   have hk : kindG g = 0 := by have := kind_cases g; omega
   have hdec : decide (kindG g ≠ 0) = false := decide_eq_false (by omega)
   by_cases hnil : t.take m = []
   ·rw [if_pos hnil, hnil]
    obtain ⟨b1, b2⟩ := single_part hg.1 hg.2.2.2
    refine ⟨b1, fun R p hp hj hr he => ?_⟩
    obtain ⟨q, b, hl, q1, q2, q3, q4⟩ := b2 R p hp he
    refine ⟨q, hl, q1, ?_, q3, by rw [q4, hdec]⟩
    rw [q2, qu0]
    rfl
   ·rw [if_neg hnil]
    have e : quf st (g :: t) = if 0 < st.rep ∧ st.rep ≤ ((1 + sameG g 131 t : Nat) : Int) ∧ (zbj g.s).length = 1 then 1 + sameG g 131 t else 1 := by rw [qur]; rw [if_neg (by omega), if_neg (by omega)]
    by_cases hc : 0 < st.rep ∧ st.rep ≤ ((1 + sameG g 131 t : Nat) : Int) ∧ (zbj g.s).length = 1
    ·rw [if_pos hc] at e
     have hms : m = sameG g 131 t := by omega
     have hle := same_le g 131 t
     have hlen : (g :: t.take m).length = m + 1 := by
      rw [List.length_cons, List.length_take]; omega
     have hm0 : m ≠ 0 := fun k => hnil (by rw [k]; rfl)
     rw [hlen]
     obtain ⟨b1, b2⟩ := times_part hg.1 hg.2.2.2 hc.2.2 (n := m + 1) (by omega) (by omega)
     refine ⟨b1, fun R p hp hj hr he => ?_⟩
     obtain ⟨q, b, hl, q1, q2, q3, q4⟩ := b2 R p hp he
     refine ⟨q, hl, q1, ?_, q3, by rw [q4, hdec]⟩
     rw [q2, qu0, txG_rep]
     congr 1
     show g.s ++ (List.replicate m g.s).flatten = g.s ++ txG (t.take m)
     rw [hms, same_take]
    ·rw [if_neg hc] at e
     exact absurd (by rw [show m = 0 by omega]; rfl) hnil
theorem speak_head (st : Stg) : ∀ (f : Nat) (l : List Gl) (sy : Int) (b : Nat) (last : Option By) (w : By), (∀ g ∈ l, GoodG g) → (qu1 st f l sy b last).head? = some w → w ≠ cwd 6 ∧ ∀ x, last = some x → x ∈ vocabL → w ∉ vocabL
 | 0, _, _, _, _, _, _, h => by simp [qu1] at h
 | f + 1, [], _, _, _, _, _, h => by simp [qu1] at h
 | f + 1, g :: t, sy, b, last, w, hg, h => by
  obtain ⟨⟨w0, u, hw, h6⟩, -⟩ := piece_part st g t (hg g (by simp))
  unfold qu1 at h
  simp only at h
  rw [hw] at h
  simp only [List.headD_cons] at h
  have ctl : ∀ i : Fin 14, i.val ≠ 6 → cwd i.val ≠ cwd 6 ∧ ∀ x : By, last = some x → x ∈ vocabL → cwd i.val ∉ vocabL := by
   intro i hi
   refine ⟨wd_ne i ⟨6, by decide⟩ (fun e => hi (congrArg Fin.val e)), fun x _ _ k => ?_⟩
   have := isNum_iff.2 k
   rw [(wd_num i).1] at this
   exact absurd this (by decide)
  unfold preW at h
  by_cases hy : g.y = sy
  ·rw [if_neg (fun k => k hy)] at h
   by_cases hk : kindG g ≠ 0 ∧ b ≠ 0
   ·rw [if_pos hk] at h
    have : cwd 1 = w := by simpa using h
    rw [← this]
    exact ctl ⟨1, by decide⟩ (by decide)
   ·rw [if_neg hk] at h
    cases last with
    | none =>
     have : w0 = w := by simpa using h
     rw [← this]
     exact ⟨h6, fun x hx => by cases hx⟩
    | some x =>
     simp only at h
     by_cases hc : isNum w0 = true ∧ isNum x = true
     ·rw [if_pos hc] at h
      have : cwd 1 = w := by simpa using h
      rw [← this]
      exact ctl ⟨1, by decide⟩ (by decide)
     ·rw [if_neg hc] at h
      have : w0 = w := by simpa using h
      rw [← this]
      refine ⟨h6, fun y hy hv k => hc ⟨isNum_iff.2 k, ?_⟩⟩
      cases hy
      exact isNum_iff.2 hv
  ·rw [if_pos hy] at h
   have e : styW g.y = w := by simpa using h
   have hgy := hg g (by simp)
   have := hgy.2.1
   have := hgy.2.2.1
   rw [← e]
   exact ctl ⟨10 + g.y.toNat, by omega⟩ (by simp; omega)
theorem qvp (st : Stg) : ∀ (f : Nat) (l : List Gl) (sy : Int) (b : Nat) (last : Option By) (p : Ps), l.length ≤ f → (∀ g ∈ l, GoodG g) → p.ws = qu1 st f l sy b last → p.y = sy → p.j = decide (b ≠ 0) → ∃ o, Parse p o ∧ txG o = txG p.out ++ txG l
 | 0, l, _, _, _, p, hl, _, hp, _, _ => by
  have : l = [] := List.length_eq_zero_iff.1 (by omega)
  subst this
  exact ⟨p.out, .done hp, by simp [txG]⟩
 | f + 1, [], _, _, _, p, hl, _, hp, _, _ => ⟨p.out, .done hp, by simp [txG]⟩
 | f + 1, g :: t, sy, b, last, p, hl, hg, hp, hy, hj => by
  obtain ⟨⟨w0, u, hw, h6⟩, hpart⟩ := piece_part st g t (hg g (by simp))
  obtain ⟨hN, hL⟩ := qvr st g t
  unfold qu1 at hp
  simp only at hp
  generalize hW : quu st ((g :: t).take (quf st (g :: t))) = W at *
  generalize hPre : preW g.y sy (kindG g) b (W.headD []) last = pre at *
  generalize hR : qu1 st f ((g :: t).drop (quf st (g :: t))) g.y (kindG g) ((pre ++ W).getLast?.or last) = R at *
  have hgd : ∀ x ∈ (g :: t).drop (quf st (g :: t)), GoodG x := fun x hx => hg x (List.mem_of_mem_drop hx)
  have hlast : ∀ x, W.getLast? = some x → (pre ++ W).getLast?.or last = some x := by
   intro x hx
   rw [List.getLast?_append, hx]
   rfl
  have hR6 : ∀ w, R.head? = some w → w ≠ cwd 6 := fun w hw => (speak_head st f _ _ _ _ w hgd (by rw [hR]; exact hw)).1
  have hRe : quh W R := fun x hx hv w hw => (speak_head st f _ _ _ _ w hgd (by rw [hR]; exact hw)).2 x (hlast x hx) hv
  have hgy := hg g (by simp)
  -- the word ahead
  have step1 : ∃ p1, Lead p p1 ∧ p1.ws = W ++ R ∧ p1.out = p.out ∧ p1.y = g.y ∧ (kindG g ≠ 0 → p1.j = false) := by
   have join : pre = [cwd 1] → g.y = sy → ∃ p1, Lead p p1 ∧ p1.ws = W ++ R ∧ p1.out = p.out ∧ p1.y = g.y ∧ (kindG g ≠ 0 → p1.j = false) := by
    intro e hy2
    rw [e] at hp
    refine ⟨⟨W ++ R, p.out, p.y, false⟩, quz (by rw [hp]; simp) ?_, rfl, rfl, by rw [hy2]; exact hy, fun _ => rfl⟩
    have hs : qum p = some ⟨W ++ R, p.out, p.y, false⟩ := by
     have hp2 : p.ws = cwd 1 :: (W ++ R) := by rw [hp]; rfl
     unfold qum
     rw [hp2]
     simp only
     rw [show quq (cwd 1) = none by decide]
     simp only [if_true]
    unfold partP
    rw [hs]; rfl
   by_cases hy2 : g.y = sy
   ·unfold preW at hPre
    rw [if_neg (fun k => k hy2)] at hPre
    by_cases hk : kindG g ≠ 0 ∧ b ≠ 0
    ·rw [if_pos hk] at hPre
     exact join hPre.symm hy2
    ·rw [if_neg hk] at hPre
     have stay : pre = [] → ∃ p1, Lead p p1 ∧ p1.ws = W ++ R ∧ p1.out = p.out ∧ p1.y = g.y ∧ (kindG g ≠ 0 → p1.j = false) := by
      intro e
      rw [e] at hp
      refine ⟨p, lead_refl p, hp, rfl, by rw [hy2]; exact hy, fun k => ?_⟩
      rw [hj]
      exact decide_eq_false (fun k2 => hk ⟨k, k2⟩)
     cases last with
     | none => exact stay hPre.symm
     | some x =>
      simp only at hPre
      split at hPre
      ·exact join hPre.symm hy2
      ·exact stay hPre.symm
   ·unfold preW at hPre
    rw [if_pos hy2] at hPre
    rw [← hPre] at hp
    have h1 := hgy.2.1
    have h2 := hgy.2.2.1
    refine ⟨⟨W ++ R, p.out, g.y, false⟩, quz (by rw [hp]; simp) ?_, rfl, rfl, rfl, fun _ => rfl⟩
    have hs : qum p = some ⟨W ++ R, p.out, g.y, false⟩ := by
     have hp2 : p.ws = styW g.y :: (W ++ R) := by rw [hp]; rfl
     unfold qum
     rw [hp2]
     simp only
     rw [show quq (styW g.y) = some g.y.toNat from sty_idx ⟨g.y.toNat, by omega⟩]
     simp only
     rw [Int.toNat_of_nonneg h1]
    unfold partP
    rw [hs]; rfl
  obtain ⟨p1, hl1, a1, a2, a3, a4⟩ := step1
  obtain ⟨q, hl2, b1, b2, b3, b4⟩ := hpart R p1 a1 a4 hR6 hRe
  have hrec := qvp st f ((g :: t).drop (quf st (g :: t))) g.y (kindG g) ((pre ++ W).getLast?.or last) q (by rw [List.length_drop]; omega) hgd (by rw [b1, hR]) (by rw [b3, a3]) b4
  obtain ⟨o, ho, hto⟩ := hrec
  refine ⟨o, hl1 o (hl2 o ho), ?_⟩
  rw [hto, b2, a2, List.append_assoc, ← qu0, List.take_append_drop]
theorem speak_back (st : Stg) (l : List Gl) (hg : ∀ g ∈ l, GoodG g) : ∃ o, Parse ⟨qu1 st l.length l 0 0 none, [], 0, false⟩ o ∧ txG o = txG l := by
 obtain ⟨o, ho, ht⟩ := qvp st l.length l 0 0 none ⟨qu1 st l.length l 0 0 none, [], 0, false⟩ (Nat.le_refl _) hg rfl rfl rfl
 exact ⟨o, ho, ht⟩
theorem parse_det {p : Ps} {a : List Gl} (h : Parse p a) : ∀ {b : List Gl}, Parse p b → a = b := by
 induction h with
 | done h0 =>
  intro b k
  cases k with
  | done _ => rfl
  | step h1 _ _ => exact absurd h0 h1
 | step h0 hq k ih =>
  intro b kb
  cases kb with
  | done h1 => exact absurd h1 h0
  | step _ hq' k' =>
   rw [hq] at hq'
   cases hq'
   exact ih k'
theorem q4a : ∀ (l : List By) (s : By) (i : Nat), (qui l s i).2 ≤ i + l.length
 | [], s, i => Nat.zero_le _
 | w :: l, s, i => by
  unfold qui
  split
  ·simp only [List.length_cons]; omega
  ·split
   ·exact Nat.zero_le _
   ·have := q4a l (s ++ w) (i + 1)
    simp only [List.length_cons]; omega
theorem q39 : ∀ (l : List By) (s : By) (i : Nat), (qui l s i).1.length ≤ s.length + l.length
 | [], s, i => Nat.zero_le _
 | w :: l, s, i => by
  unfold qui
  split
  ·simp only [List.length_cons]; omega
  ·split
   ·exact Nat.zero_le _
   ·rename_i h
    have hw : w.length = 1 := Classical.byContradiction fun c => h (.inr c)
    have := q39 l (s ++ w) (i + 1)
    rw [List.length_append, hw] at this
    simp only [List.length_cons]; omega
theorem q4c {w : By} (h : qvh w = true) : w ≠ [] ∧ ∀ c ∈ w, smB c := by
 unfold qvh at h
 simp only [Bool.and_eq_true, Bool.not_eq_true', List.isEmpty_eq_false_iff, List.all_eq_true, decide_eq_true_eq] at h
 exact ⟨h.1, h.2⟩
theorem q4b : ∀ (l : List By) (s : By) (i : Nat), (∀ c ∈ s, smB c) → (qui l s i).2 ≠ 0 → (qui l s i).1 ≠ [] ∧ ∀ c ∈ (qui l s i).1, smB c
 | [], s, i, _, h => absurd rfl h
 | w :: l, s, i, hs, h => by
  unfold qui at h ⊢
  split
  ·rename_i c
   exact ⟨c.2, hs⟩
  ·rename_i c
   rw [if_neg c] at h
   split
   ·rename_i d
    rw [if_pos d] at h
    exact absurd rfl h
   ·rename_i d
    rw [if_neg d] at h
    refine q4b l (s ++ w) (i + 1) (fun x hx => ?_) h
    rcases List.mem_append.1 hx with hx | hx
    ·exact hs x hx
    ·have hp : qvh w = true := by
      cases hb : qvh w with
      | true => rfl
      | false => exact absurd (.inl hb) d
     exact (q4c hp).2 x hx
theorem literal_le (l : List By) : (qut l).2 ≤ l.length := by
 match l with
 | [] => exact Nat.le_refl _
 | w :: t =>
  rw [qvk]
  split
  ·rename_i h
   have := List.length_pos_iff.2 h.2.1
   simp only [List.length_cons]; omega
  ·split
   ·simp only [List.length_cons]; omega
   ·split
    ·have := q4a t [] 1
     simp only [List.length_cons]; omega
    ·exact Nat.zero_le _
theorem literal_len {l : List By} {B : Nat} (h : ∀ w ∈ l, w.length ≤ B) : (qut l).1.length ≤ B + l.length := by
 match l, h with
 | [], _ => exact Nat.zero_le _
 | w :: t, h =>
  rw [qvk]
  split
  ·rename_i c
   cases t with
   | nil => exact absurd rfl c.2.1
   | cons x t =>
    have := h x (.tail _ (.head _))
    show x.length ≤ _
    omega
  ·split
   ·have := h w (.head _)
    show w.length ≤ _
    omega
   ·split
    ·have := q39 t [] 1
     simp only [List.length_cons, List.length_nil] at this ⊢; omega
    ·exact Nat.zero_le _
theorem literal_sm (l : List By) (h : (qut l).2 ≠ 0) : (qut l).1 ≠ [] ∧ ∀ c ∈ (qut l).1, smB c := by
 match l, h with
 | [], h => exact absurd rfl h
 | w :: t, h =>
  rw [qvk] at h ⊢
  split
  ·rename_i c
   exact q4c c.2.2
  ·rename_i c
   rw [if_neg c] at h
   split
   ·rename_i d
    exact q4c d.1
   ·rename_i d
    rw [if_neg d] at h
    split
    ·rename_i e
     rw [if_pos e] at h
     exact q4b t [] 1 (fun _ hx => by cases hx) h
    ·rename_i e
     rw [if_neg e] at h
     exact absurd rfl h
theorem figN_bd : ∀ (l : List By) (s : By) (i : Nat), i ≤ (figN l s i).2 ∧ (figN l s i).2 ≤ i + l.length ∧ (figN l s i).1.length ≤ s.length + l.length
 | [], s, i => ⟨Nat.le_refl _, Nat.le_refl _, Nat.le_refl _⟩
 | w :: l, s, i => by
  unfold figN
  simp only [List.length_cons]
  split
  ·rename_i d _
   split
   ·have := figN_bd l (s ++ [(48 + d.toNat).toUInt8]) (i + 1)
    rw [List.length_append, List.length_cons, List.length_nil] at this
    omega
   ·simp only; omega
  ·simp only; omega
theorem numZ_bd {l : List By} {n : Int} (h : numZ l = some n) : -999999999 ≤ n ∧ n ≤ 999999999 := by
 unfold numZ at h
 split at h
 ·cases h
 ·cases hf : quc l (0, 0) with
  | none => rw [hf] at h; cases h
  | some s =>
   rw [hf] at h
   simp only [Option.bind_some] at h
   have key : ∀ m : Int, wordsZ m = some l → -999999999 ≤ m ∧ m ≤ 999999999 := by
    intro m hm
    unfold wordsZ at hm
    split at hm
    ·cases hm
    ·omega
   obtain ⟨m, hm⟩ : ∃ m : Int, m = if l.head? = some (vw 31) then -(s.1 + s.2) else s.1 + s.2 := ⟨_, rfl⟩
   rw [← hm] at h
   by_cases hw : wordsZ m = some l
   ·rw [if_pos hw] at h
    cases h
    exact key _ hw
   ·rw [if_neg hw] at h
    cases h
theorem prefZ_bd {l : List By} {n : Int} : ∀ {k u : Nat}, prefZ l k = some (n, u) → 1 ≤ u ∧ u ≤ k ∧ -999999999 ≤ n ∧ n ≤ 999999999
 | 0, u, h => by cases h
 | k + 1, u, h => by
  unfold prefZ at h
  split at h
  ·rename_i m hm
   cases h
   have := numZ_bd hm
   omega
  ·have := prefZ_bd h
   omega
theorem prefixZ_bd {l : List By} {n : Int} {u : Nat} (h : qvc l = some (n, u)) : 1 ≤ u ∧ u ≤ l.length ∧ -999999999 ≤ n ∧ n ≤ 999999999 := by
 have := prefZ_bd h
 omega
theorem chrP_bd (l : List By) : (chrP l).2 ≤ l.length ∧ 0 ≤ (chrP l).1 ∧ (chrP l).1 ≤ 1114111 := by
 match l with
 | [] => exact ⟨Nat.le_refl _, Int.le_refl _, by show (0 : Int) ≤ _; omega⟩
 | w :: t =>
  unfold chrP
  simp only
  split
  ·simp only [List.length_cons]; omega
  ·split
   ·rename_i i _
    have := (signL.getD i 0).toNat_lt
    simp only [List.length_cons]; omega
   ·split
    ·split
     ·rename_i n k hk
      have := prefixZ_bd hk
      split
      ·simp only [List.length_cons]; omega
      ·simp only; omega
     ·simp only; omega
    ·simp only; omega
def OkO (l : List Gl) : Prop := ∀ g ∈ l, g.s ≠ [] ∧ g.s.length ≤ 40
theorem okO_app {a b : List Gl} (h : OkO a) (k : OkO b) : OkO (a ++ b) := fun g hg => by
 rcases List.mem_append.1 hg with hg | hg
 ·exact h g hg
 ·exact k g hg
theorem okO_text (y : Int) (t : By) : OkO (t.map fun c => ⟨[c], false, y⟩) := fun g hg => by
 obtain ⟨c, _, rfl⟩ := List.mem_map.1 hg
 exact ⟨List.cons_ne_nil _ _, by show 1 ≤ 40; omega⟩
structure Step (p q : Ps) : Prop where
 ws : q.ws.length < p.ws.length
 sub : ∀ w ∈ q.ws, w ∈ p.ws
 out : p.out.length ≤ q.out.length
 ok : OkO p.out → OkO q.out
theorem drop_lt {l : List By} {n : Nat} (h : l ≠ []) (hn : n ≠ 0) : (l.drop n).length < l.length := by
 have := List.length_pos_iff.2 h
 rw [List.length_drop]; omega
theorem step_txt {p : Ps} {t : By} {n : Nat} (h : p.ws ≠ []) (hn : n ≠ 0) : Step p (txtP p t n) := by
 refine ⟨drop_lt h hn, fun w hw => List.mem_of_mem_drop hw, ?_, fun ho => ?_⟩
 ·show p.out.length ≤ ((p.out ++ _) ++ _).length
  rw [List.length_append, List.length_append]; omega
 ·refine okO_app (okO_app ho ?_) (okO_text _ _)
  split
  ·exact fun g hg => by
    rcases List.mem_singleton.1 hg with rfl
    exact ⟨List.cons_ne_nil _ _, by show 1 ≤ 40; omega⟩
  ·exact fun g hg => by cases hg
theorem step_add {p q : Ps} {r : Int} {n m : Nat} (h : p.ws ≠ []) (hm : m ≠ 0) (hq : addP p r n m = some q) : Step p q := by
 unfold addP at hq
 split at hq
 ·cases hq
 ·split at hq
  ·split at hq
   ·cases hq
   ·split at hq
    ·cases hq
    ·rename_i g hg
     cases ha : attS g.s r with
     | none => rw [ha] at hq; cases hq
     | some s =>
      rw [ha] at hq
      cases hq
      have hne : p.out ≠ [] := fun e => by rw [e] at hg; cases hg
      refine ⟨drop_lt h hm, fun w hw => List.mem_of_mem_drop hw, ?_, fun ho => okO_app (fun x hx => ho x (List.dropLast_subset _ hx)) fun x hx => ?_⟩
      ·show p.out.length ≤ (p.out.dropLast ++ [_]).length
       rw [List.length_append, List.length_dropLast]
       simp only [List.length_cons, List.length_nil]; omega
      ·rcases List.mem_singleton.1 hx with rfl
       exact att_bd ha
  ·cases hq
   refine ⟨drop_lt h hm, fun w hw => List.mem_of_mem_drop hw, ?_, fun ho => okO_app ho fun x hx => ?_⟩
   ·show p.out.length ≤ (p.out ++ _).length
    rw [List.length_append]; omega
   ·rw [List.eq_of_mem_replicate hx]
    exact enc_bd r
theorem step_part {p q : Ps} (h : p.ws ≠ []) (hq : partP p = some q) : Step p q := by
 unfold partP at hq
 rcases Option.or_eq_some_iff.1 hq with h1 | ⟨_, hq⟩
 ·unfold qum at h1
  split at h1
  ·cases h1
  ·rename_i w ws hw
   have e : ∀ (y : Int), Step p ⟨ws, p.out, y, false⟩ := fun y => ⟨by rw [hw]; exact Nat.lt_succ_self _, fun x hx => by rw [hw]; exact .tail _ hx, Nat.le_refl _, id⟩
   split at h1
   ·cases h1; exact e _
   ·split at h1
    ·cases h1; exact e _
    ·cases h1
 rcases Option.or_eq_some_iff.1 hq with h1 | ⟨_, hq⟩
 ·unfold wordP at h1
  simp only at h1
  split at h1
  ·cases h1
  ·rename_i c
   cases h1
   exact step_txt h (by omega)
 rcases Option.or_eq_some_iff.1 hq with h1 | ⟨_, hq⟩
 ·unfold qux at h1
  split at h1
  ·cases h1
  ·rename_i w ws hw
   split at h1
   ·split at h1
    ·cases h1
    ·cases h1
     exact step_txt h (by have := figN_bd ws [] 1; omega)
   ·cases h1
 rcases Option.or_eq_some_iff.1 hq with h1 | ⟨_, hq⟩
 ·unfold signP at h1
  split at h1
  ·cases h1
  ·rename_i c
   exact step_add h c h1
 ·unfold qvm at hq
  split at hq
  ·cases hq
  ·rename_i n u hp
   have hb := prefixZ_bd hp
   split at hq
   ·cases hq
   ·split at hq
    ·cases hq
     exact step_txt h (by omega)
    ·split at hq
     ·cases hq
     ·exact step_add h (by omega) hq
theorem parse_out {p : Ps} {o : List Gl} (h : Parse p o) : p.out.length ≤ o.length ∧ (OkO p.out → OkO o) := by
 induction h with
 | done _ => exact ⟨Nat.le_refl _, id⟩
 | step h0 hq _ ih =>
  have s := step_part h0 hq
  exact ⟨Nat.le_trans s.out ih.1, fun k => ih.2 (s.ok k)⟩
theorem okO_len : ∀ {l : List Gl}, OkO l → l.length ≤ (txG l).length
 | [], _ => Nat.le_refl _
 | g :: l, h => by
  have h1 := List.length_pos_iff.2 (h g (.head _)).1
  have h2 := okO_len (l := l) fun x hx => h x (.tail _ hx)
  show l.length + 1 ≤ (g.s ++ txG l).length
  rw [List.length_append]; omega
theorem getD_len {L : List By} {B : Nat} (h : ∀ w ∈ L, w.length ≤ B) (i : Nat) : (L.getD i []).length ≤ B := by
 rw [List.getD_eq_getElem?_getD]
 cases hi : L[i]? with
 | none => exact Nat.zero_le _
 | some w => exact h w (List.mem_of_getElem? hi)
theorem vw_len (i : Nat) : (vw i).length ≤ 9 := getD_len (L := vocabL) (by decide) i
theorem q35 (i : Nat) : (cwd i).length ≤ 10 := getD_len (L := ctrlL) (by decide) i
theorem q37 (n : Nat) : ∀ w ∈ qub n, w.length ≤ 9 := fun w hw => by
 obtain ⟨i, _, rfl⟩ := List.mem_map.1 hw
 exact vw_len i
theorem spellC_bd (r : Int) : (qud r).length ≤ 15 ∧ ∀ w ∈ qud r, w.length ≤ 10 := by
 unfold qud
 split
 ·rename_i i _
  refine ⟨by show 1 ≤ 15; omega, fun w hw => ?_⟩
  rcases List.mem_singleton.1 hw with rfl
  exact getD_len (L := nameL) (by decide) i
 ·have := wordsW_len r.toNat
  refine ⟨by rw [List.length_cons]; omega, fun w hw => ?_⟩
  rcases List.mem_cons.1 hw with rfl | hw
  ·exact q35 0
  ·have := q37 _ w hw
   omega
theorem q38 {α : Type} {f : α → List By} {a : Nat} : ∀ {l : List α}, (∀ x ∈ l, (f x).length ≤ a) → (l.flatMap f).length ≤ a * l.length
 | [], _ => Nat.zero_le _
 | x :: l, h => by
  have h1 := h x (.head _)
  have h2 := q38 (l := l) fun y hy => h y (.tail _ hy)
  rw [List.flatMap_cons, List.length_append, List.length_cons, Nat.mul_add]; omega
theorem single_bd {s : By} (h : zbf s = 0) : (qul s).length ≤ 60 ∧ ∀ w ∈ qul s, w.length ≤ 10 := by
 unfold qul
 split
 ·exact ⟨by show 1 ≤ 60; omega, fun w hw => by rcases List.mem_singleton.1 hw with rfl; exact q35 5⟩
 ·have h4 := runes_four h
  have hb := q38 (f := qud) (a := 15) (l := zbj s) fun x _ => (spellC_bd x).1
  refine ⟨by omega, fun w hw => ?_⟩
  obtain ⟨x, _, hx⟩ := List.mem_flatMap.1 hw
  exact (spellC_bd x).2 w hx
theorem single_ne {s : By} (h : zbf s = 0) : qul s ≠ [] := by
 unfold qul
 split
 ·exact List.cons_ne_nil _ _
 ·obtain ⟨c, ms, hr, _⟩ := clus h
  rw [hr, List.flatMap_cons]
  obtain ⟨w, u, e, _⟩ := quj (r := c)
  rw [e]
  exact List.cons_ne_nil _ _
theorem letters_bd (t : By) (sp : Bool) : (quw t sp).length ≤ 5 + t.length ∧ (∀ w ∈ quw t sp, w.length ≤ 10 + t.length) ∧ quw t sp ≠ [] := by
 unfold quw
 have hc : ∀ w, w ∈ (if highN t = 1 then [cwd 2] else if 1 < highN t then [cwd 3] else []) → w.length ≤ 10 := by
  intro w hw
  split at hw
  ·rcases List.mem_singleton.1 hw with rfl; exact q35 2
  ·split at hw
   ·rcases List.mem_singleton.1 hw with rfl; exact q35 3
   ·cases hw
 have hl : (if highN t = 1 then [cwd 2] else if 1 < highN t then [cwd 3] else []).length ≤ 1 := by
  split
  ·exact Nat.le_refl _
  ·split
   ·exact Nat.le_refl _
   ·exact Nat.zero_le _
 generalize (if highN t = 1 then [cwd 2] else if 1 < highN t then [cwd 3] else []) = C at hc hl ⊢
 refine ⟨?_, fun w hw => ?_, ?_⟩
 ·rw [List.length_append]
  cases sp with
  | true => rw [if_pos rfl, List.length_append, List.length_cons, List.length_map, List.length_map, List.length_cons, List.length_nil]; omega
  | false =>
   rw [if_neg (by decide), List.length_append, List.length_cons, List.length_nil]
   have : (if resB (t.map lowC) = true then [cwd 4] else []).length ≤ 1 := by
    split
    ·exact Nat.le_refl _
    ·exact Nat.zero_le _
   omega
 ·rcases List.mem_append.1 hw with hw | hw
  ·have := hc w hw; omega
  ·split at hw
   ·rcases List.mem_append.1 hw with hw | hw
    ·rcases List.mem_cons.1 hw with rfl | hw
     ·have := q35 7; omega
     ·obtain ⟨c, _, rfl⟩ := List.mem_map.1 hw
      show 1 ≤ _; omega
    ·rcases List.mem_singleton.1 hw with rfl
     have := q35 8; omega
   ·rcases List.mem_append.1 hw with hw | hw
    ·split at hw
     ·rcases List.mem_singleton.1 hw with rfl
      have := q35 4; omega
     ·cases hw
    ·rcases List.mem_singleton.1 hw with rfl
     rw [List.length_map]; omega
 ·intro e
  have := (List.append_eq_nil_iff.1 e).2
  cases sp with
  | true => rw [if_pos rfl] at this; cases this
  | false => rw [if_neg (by decide)] at this; exact absurd (List.append_eq_nil_iff.1 this).2 (List.cons_ne_nil _ _)
theorem digits_bd (t : By) (dg : Bool) : (qu4 t dg).length ≤ 15 + 14 * t.length ∧ (∀ w ∈ qu4 t dg, w.length ≤ 10) ∧ qu4 t dg ≠ [] := by
 unfold qu4
 split
 ·have hb := q38 (f := fun c : UInt8 => qub (c.toNat - 48)) (a := 14) (l := t) fun x _ => wordsW_len _
  refine ⟨by rw [List.length_cons]; omega, fun w hw => ?_, List.cons_ne_nil _ _⟩
  rcases List.mem_cons.1 hw with rfl | hw
  ·exact q35 9
  ·obtain ⟨x, _, hx⟩ := List.mem_flatMap.1 hw
   have := q37 _ w hx
   omega
 ·have := wordsW_len (decV t)
  exact ⟨by omega, fun w hw => by have := q37 _ w hw; omega, qu5 _⟩
theorem spoken_bd (st : Stg) (l : List Gl) (hg : ∀ g ∈ l, GoodG g) : (quu st l).length ≤ 100 + 14 * (txG l).length ∧ (∀ w ∈ quu st l, w.length ≤ 10 + (txG l).length) ∧ (l ≠ [] → quu st l ≠ []) := by
 match l, hg with
 | [], _ => exact ⟨Nat.zero_le _, (fun w hw => absurd hw (by intro h; cases h)), fun h => absurd rfl h⟩
 | g :: t, hg =>
  have hc := (hg g (.head _)).1
  have hs := single_bd hc
  have hl := letters_bd (txG (g :: t)) st.spell
  have hd := digits_bd (txG (g :: t)) st.digs
  have hw := wordsW_len (g :: t).length
  unfold quu
  simp only
  split
  ·exact ⟨by omega, hl.2.1, fun _ => hl.2.2⟩
  ·split
   ·exact ⟨by omega, fun w hw => by have := hd.2.1 w hw; omega, fun _ => hd.2.2⟩
   ·split
    ·exact ⟨by omega, fun w hw => by have := hs.2 w hw; omega, fun _ => single_ne hc⟩
    ·refine ⟨by rw [List.length_append, List.length_cons]; have h5 := wordsW_len (g :: t).length; have h6 := hs.1; simp only [List.length_cons] at h5 h6 ⊢; omega, fun w hw => ?_, fun _ e => ?_⟩
     ·rcases List.mem_append.1 hw with hw | hw
      ·have := q37 _ w hw; omega
      ·rcases List.mem_cons.1 hw with rfl | hw
       ·have := q35 6; omega
       ·have := hs.2 w hw; omega
     ·exact qu5 _ (List.append_eq_nil_iff.1 e).1
theorem pre_bd (y sy : Int) (k b : Nat) (w0 : By) (last : Option By) : (preW y sy k b w0 last).length ≤ 1 ∧ ∀ w ∈ preW y sy k b w0 last, w.length ≤ 10 := by
 unfold preW
 have o : ∀ i, ([cwd i] : List By).length ≤ 1 ∧ ∀ w ∈ ([cwd i] : List By), w.length ≤ 10 := fun i => ⟨Nat.le_refl _, fun w hw => by rcases List.mem_singleton.1 hw with rfl; exact q35 i⟩
 have n : ([] : List By).length ≤ 1 ∧ ∀ w ∈ ([] : List By), w.length ≤ 10 := ⟨Nat.zero_le _, fun w hw => by cases hw⟩
 split
 ·exact o _
 ·split
  ·exact o _
  ·split
   ·split
    ·exact o _
    ·exact n
   ·exact n
theorem txG_split (n : Nat) (l : List Gl) : (txG l).length = (txG (l.take n)).length + (txG (l.drop n)).length := by
 rw [← List.length_append, ← qu0, List.take_append_drop]
theorem speak_bd (st : Stg) : ∀ (f : Nat) (l : List Gl) (sy : Int) (b : Nat) (last : Option By), (∀ g ∈ l, GoodG g) → (qu1 st f l sy b last).length ≤ 101 * l.length + 14 * (txG l).length ∧ ∀ w ∈ qu1 st f l sy b last, w.length ≤ 10 + (txG l).length
 | 0, l, sy, b, last, _ => ⟨Nat.zero_le _, fun w hw => by cases hw⟩
 | f + 1, [], sy, b, last, _ => ⟨Nat.zero_le _, fun w hw => by cases hw⟩
 | f + 1, g :: t, sy, b, last, hg => by
  have hr := qvr st g t
  unfold qu1
  simp only
  obtain ⟨n, hn⟩ : ∃ n, n = quf st (g :: t) := ⟨_, rfl⟩
  rw [← hn] at hr ⊢
  have h1 := spoken_bd st ((g :: t).take n) fun x hx => hg x (List.mem_of_mem_take hx)
  obtain ⟨A, hA⟩ : ∃ A, A = quu st ((g :: t).take n) := ⟨_, rfl⟩
  rw [← hA] at h1 ⊢
  have h2 := pre_bd g.y sy (kindG g) b (A.headD []) last
  obtain ⟨B, hB⟩ : ∃ B, B = preW g.y sy (kindG g) b (A.headD []) last := ⟨_, rfl⟩
  rw [← hB] at h2 ⊢
  have h3 := speak_bd st f ((g :: t).drop n) g.y (kindG g) ((B ++ A).getLast?.or last) fun x hx => hg x (List.mem_of_mem_drop hx)
  have hs := txG_split n (g :: t)
  have hl : ((g :: t).drop n).length = (g :: t).length - n := List.length_drop
  refine ⟨by rw [List.length_append, List.length_append]; omega, fun w hw => ?_⟩
  rcases List.mem_append.1 hw with hw | hw
  ·rcases List.mem_append.1 hw with hw | hw
   ·have := h2.2 w hw; omega
   ·have := h1.2.1 w hw; omega
  ·have := h3.2 w hw; omega
end Go.Proofs.YtlhagkbhojmjpaaGreatDoor

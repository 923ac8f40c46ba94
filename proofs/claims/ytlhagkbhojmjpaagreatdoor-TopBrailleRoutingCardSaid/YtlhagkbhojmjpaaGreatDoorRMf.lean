/- Written by this repo's own program out of its texts. -/
import Derived.Test.YtlhagkbhojmjpaaGreatDoorRMe
import Derived.Test.YtlhagkbhojmjpaaGreatDoorRR1
namespace Go.Proofs.YtlhagkbhojmjpaaGreatDoor
set_option linter.unusedSimpArgs false
set_option linter.unusedVariables false
set_option linter.unusedSectionVars false
def signsB : List (List UInt8 × List UInt8) := [([97, 110, 100], [175]), ([102, 111, 114], [191]), ([111, 102], [183]), ([116, 104, 101], [174]), ([119, 105, 116, 104], [190]), ([99, 104], [161]), ([103, 104], [163]), ([115, 104], [169]), ([116, 104], [185]), ([119, 104], [177]), ([101, 100], [171]), ([101, 114], [187]), ([111, 117], [179]), ([111, 119], [170]), ([115, 116], [140]), ([105, 110, 103], [172]), ([97, 114], [156]), ([101, 110], [162]), ([105, 110], [148]), ([101, 97], [130]), ([98, 98], [134]), ([99, 99], [146]), ([102, 102], [150]), ([103, 103], [182]), ([111, 117, 110, 100], [168, 25]), ([97, 110, 99, 101], [168, 17]), ([115, 105, 111, 110], [168, 29]), ([108, 101, 115, 115], [168, 14]), ([111, 117, 110, 116], [168, 30]), ([101, 110, 99, 101], [176, 17]), ([111, 110, 103], [176, 27]), ([102, 117, 108], [176, 7]), ([116, 105, 111, 110], [176, 29]), ([110, 101, 115, 115], [176, 14]), ([109, 101, 110, 116], [176, 30]), ([105, 116, 121], [176, 61])]
def zav (l : List Int) (t : List UInt8) : Bool := (bs t).isPrefixOf l
structure U where
  size : Nat
  cells : List Int
  total : Nat
def zU : U := ⟨0, [], 0⟩
def zbb (l : List Int) (t : Nat → Nat) (b : U) (s : List UInt8 × List UInt8) : U :=
  if zav l s.1 = true then
    (if s.2.length + t s.1.length < b.total ∨ (s.2.length + t s.1.length = b.total ∧ b.size < s.1.length) then ⟨s.1.length, bs s.2, s.2.length + t s.1.length⟩ else b)
  else b
def zla (r : Int) (t : Nat) : U := ⟨1, oneZ (chZ r), (oneZ (chZ r)).length + t⟩
def tabU : List Int → List U
  | [] => [zU]
  | r :: l => signsB.foldl (zbb (r :: l) fun n => ((tabU l).getD (n - 1) zU).total) (zla r ((tabU l).getD 0 zU).total) :: tabU l
def bestU (l : List Int) : U := (tabU l).getD 0 zU
def totZ (l : List Int) : Nat := (bestU l).total
theorem zcu (l : List Int) : (tabU l).length = l.length + 1 := by
  induction l with
  | nil => rfl
  | cons r l ih => simp [tabU, ih]
theorem zg2 : ∀ (l : List Int) (k : Nat), (tabU l).getD k zU = bestU (l.drop k)
  | l, 0 => by rw [List.drop_zero]; rfl
  | [], k + 1 => by simp [tabU, bestU]
  | r :: l, k + 1 => by
    rw [List.drop_succ_cons, ← zg2 l k]
    rfl
theorem zbi : ∀ s ∈ signsB, 2 ≤ s.1.length ∧ s.1.length ≤ 4 ∧ 1 ≤ s.2.length ∧ s.2.length ≤ 2 := by decide +kernel
theorem zlb {α β : Type} {f g : β → α → β} : ∀ {l : List α} {b : β}, (∀ a ∈ l, ∀ b, f b a = g b a) → l.foldl f b = l.foldl g b
  | [], _, _ => rfl
  | a :: l, b, h => by
    rw [List.foldl_cons, List.foldl_cons, h a (by simp) b]
    exact zlb fun x hx b => h x (by simp [hx]) b
theorem zwf {l : List Int} {t t' : Nat → Nat} {b : U} {s : List UInt8 × List UInt8} (h : t s.1.length = t' s.1.length) : zbb l t b s = zbb l t' b s := by unfold zbb; rw [h]
theorem znm (r : Int) (l : List Int) : bestU (r :: l) = signsB.foldl (zbb (r :: l) fun n => totZ ((r :: l).drop n)) (zla r (totZ l)) := by
  have e : bestU (r :: l) = signsB.foldl (zbb (r :: l) fun n => ((tabU l).getD (n - 1) zU).total) (zla r ((tabU l).getD 0 zU).total) := rfl
  rw [e, zg2, List.drop_zero]
  refine zlb fun s hs b => ?_
  have h2 := (zbi s hs).1
  have e2 : ((tabU l).getD (s.1.length - 1) zU).total = totZ ((r :: l).drop s.1.length) := by
    rw [zg2]
    obtain ⟨k, hk⟩ : ∃ k, s.1.length = k + 1 := ⟨s.1.length - 1, by omega⟩
    rw [hk, List.drop_succ_cons]
    rfl
  exact zwf e2
def Cand (l : List Int) (n : Nat) (c : List Int) : Prop := (∃ r m, l = r :: m ∧ n = 1 ∧ c = oneZ (chZ r)) ∨ ∃ s ∈ signsB, zav l s.1 = true ∧ n = s.1.length ∧ c = bs s.2
def Fits (l : List Int) (u : U) : Prop := Cand l u.size u.cells ∧ u.total = u.cells.length + totZ (l.drop u.size)
theorem zz2 {l : List Int} {b : U} {s : List UInt8 × List UInt8} (hs : s ∈ signsB) (h : Fits l b) : Fits l (zbb l (fun n => totZ (l.drop n)) b s) := by
  unfold zbb
  split
  · rename_i hb
    split
    · exact ⟨.inr ⟨s, hs, hb, rfl, rfl⟩, by rw [zak]⟩
    · exact h
  · exact h
def Top (l : List Int) (u : U) (n c : Nat) : Prop := u.total ≤ c + totZ (l.drop n) ∧ (c + totZ (l.drop n) = u.total → n ≤ u.size)
theorem z3c {l : List Int} {b : U} {s : List UInt8 × List UInt8} {n c : Nat} (h : Top l b n c) : Top l (zbb l (fun n => totZ (l.drop n)) b s) n c := by
  unfold zbb Top at *
  dsimp only
  split
  · split
    · dsimp only; omega
    · exact h
  · exact h
theorem zy3 {l : List Int} {b : U} {s : List UInt8 × List UInt8} (h : zav l s.1 = true) : Top l (zbb l (fun n => totZ (l.drop n)) b s) s.1.length s.2.length := by
  unfold zbb Top
  dsimp only
  rw [if_pos h]
  split
  · dsimp only; omega
  · rename_i hn; omega
theorem zwj {l : List Int} : ∀ (ss : List (List UInt8 × List UInt8)) (b : U), (∀ s ∈ ss, s ∈ signsB) → Fits l b → Fits l (ss.foldl (zbb l fun n => totZ (l.drop n)) b)
  | [], b, _, h => h
  | s :: ss, b, hs, h => zwj ss _ (fun x hx => hs x (by simp [hx])) (zz2 (hs s (by simp)) h)
theorem zsg {l : List Int} {n c : Nat} : ∀ (ss : List (List UInt8 × List UInt8)) (b : U), Top l b n c → Top l (ss.foldl (zbb l fun n => totZ (l.drop n)) b) n c
  | [], b, h => h
  | s :: ss, b, h => zsg ss _ (z3c h)
theorem z1e {l : List Int} : ∀ (ss : List (List UInt8 × List UInt8)) (b : U), ∀ s ∈ ss, zav l s.1 = true → Top l (ss.foldl (zbb l fun n => totZ (l.drop n)) b) s.1.length s.2.length
  | x :: ss, b, s, hs, h => by
    rcases List.mem_cons.1 hs with rfl | hs
    · exact zsg ss _ (zy3 h)
    · exact z1e ss _ s hs h
theorem zkz (r : Int) (l : List Int) : Fits (r :: l) (bestU (r :: l)) := by
  rw [znm]
  exact zwj signsB _ (fun _ h => h) ⟨.inl ⟨r, l, rfl, rfl, rfl⟩, rfl⟩
theorem z2k {l : List Int} {n : Nat} {c : List Int} (h : Cand l n c) : Top l (bestU l) n c.length := by
  rcases h with ⟨r, m, rfl, rfl, rfl⟩ | ⟨s, hs, hb, rfl, rfl⟩
  · rw [znm]
    exact zsg signsB _ ⟨Nat.le_refl _, fun _ => Nat.le_refl _⟩
  · cases l with
    | nil =>
      have h2 := (zbi s hs).1
      unfold zav at hb
      have := List.isPrefixOf_iff_prefix.1 hb
      have := this.length_le
      rw [zak] at this
      simp only [List.length_nil] at this
      omega
    | cons r m =>
      rw [znm, zak]
      exact z1e signsB _ s hs hb
theorem ziw {l : List Int} {n : Nat} {c : List Int} (h : Cand l n c) : 1 ≤ n ∧ n ≤ l.length ∧ n ≤ 4 ∧ 1 ≤ c.length ∧ c.length ≤ 7 := by
  rcases h with ⟨r, m, rfl, rfl, rfl⟩ | ⟨s, hs, hb, rfl, rfl⟩
  · have h1 := zcw (chZ r)
    have h2 : 1 ≤ (oneZ (chZ r)).length := by unfold oneZ; split <;> simp [escZ]
    simp only [List.length_cons]
    omega
  · have h2 := zbi s hs
    unfold zav at hb
    have := (List.isPrefixOf_iff_prefix.1 hb).length_le
    rw [zak] at this ⊢
    omega
inductive Div : List Int → List (Nat × List Int) → Prop where
  | nil : Div [] []
  | cons {l : List Int} {n : Nat} {c : List Int} {us : List (Nat × List Int)} (h : Cand l n c) (t : Div (l.drop n) us) : Div l ((n, c) :: us)
def cellsOf (us : List (Nat × List Int)) : List Int := us.flatMap (·.2)
theorem za6 (n : Nat) (c : List Int) (us : List (Nat × List Int)) : cellsOf ((n, c) :: us) = c ++ cellsOf us := rfl
theorem zlx {l : List Int} {us : List (Nat × List Int)} (h : Div l us) : totZ l ≤ (cellsOf us).length := by
  induction h with
  | nil => exact Nat.le_refl _
  | cons h t ih =>
    have := (z2k h).1
    rw [za6, List.length_append]
    unfold totZ at *
    omega
def zrk : Nat → List Int → List (Nat × List Int)
  | 0, _ => []
  | _ + 1, [] => []
  | k + 1, r :: l => ((bestU (r :: l)).size, (bestU (r :: l)).cells) :: zrk k ((r :: l).drop (bestU (r :: l)).size)
def zay (l : List Int) : List (Nat × List Int) := zrk l.length l
theorem zcq (r : Int) (l : List Int) : 1 ≤ (bestU (r :: l)).size ∧ (bestU (r :: l)).size ≤ l.length + 1 ∧ (bestU (r :: l)).size ≤ 4 ∧ 1 ≤ (bestU (r :: l)).cells.length ∧ (bestU (r :: l)).cells.length ≤ 7 := by
  have := ziw (zkz r l).1
  simpa using this
theorem zwn : ∀ (k j : Nat) (l : List Int), l.length ≤ k → l.length ≤ j → zrk k l = zrk j l
  | 0, 0, [], _, _ => rfl
  | 0, _ + 1, [], _, _ => rfl
  | _ + 1, 0, [], _, _ => rfl
  | _ + 1, _ + 1, [], _, _ => rfl
  | 0, _, _ :: _, h, _ => by simp at h
  | _, 0, _ :: _, _, h => by simp at h
  | k + 1, j + 1, r :: l, h, h' => by
    have hs := zcq r l
    simp only [List.length_cons] at h h'
    unfold zrk
    rw [zwn k j _ (by rw [List.length_drop, List.length_cons]; omega) (by rw [List.length_drop, List.length_cons]; omega)]
theorem zn4 : zay [] = [] := rfl
theorem zdz (r : Int) (l : List Int) : zay (r :: l) = ((bestU (r :: l)).size, (bestU (r :: l)).cells) :: zay ((r :: l).drop (bestU (r :: l)).size) := by
  have hs := zcq r l
  unfold zay
  rw [List.length_cons]
  conv => lhs; unfold zrk
  rw [zwn l.length ((r :: l).drop (bestU (r :: l)).size).length _ (by rw [List.length_drop, List.length_cons]; omega) (Nat.le_refl _)]
theorem znd : ∀ (k : Nat) (l : List Int), l.length ≤ k → Div l (zay l) ∧ (cellsOf (zay l)).length = totZ l
  | _, [], _ => ⟨.nil, rfl⟩
  | 0, _ :: _, h => by simp at h
  | k + 1, r :: l, h => by
    simp only [List.length_cons] at h
    have hs := zcq r l
    obtain ⟨h1, h2⟩ := znd k ((r :: l).drop (bestU (r :: l)).size) (by rw [List.length_drop, List.length_cons]; omega)
    have hf := zkz r l
    rw [zdz]
    refine ⟨.cons hf.1 h1, ?_⟩
    rw [za6, List.length_append, h2]
    exact hf.2.symm
theorem zbu (l : List Int) : Div l (zay l) := (znd l.length l (Nat.le_refl _)).1
theorem zbm (l : List Int) : (cellsOf (zay l)).length = totZ l := (znd l.length l (Nat.le_refl _)).2
theorem zgt : ∀ (l : List Int), Div l (l.map fun r => (1, oneZ (chZ r)))
  | [] => .nil
  | r :: l => .cons (.inl ⟨r, l, rfl, rfl, rfl⟩) (zgt l)
theorem zuh (l : List Int) (h : Chars l) : cellsOf (l.map fun r => (1, oneZ (chZ r))) = za8 l := by
  induction l with
  | nil => rfl
  | cons r l ih =>
    rw [List.map_cons, za6, ih fun n hn => h n (by simp [hn]), zu0 (h r (by simp))]
    rfl
theorem zpi {l : List Int} (h : Chars l) : totZ l ≤ (za8 l).length := by
  have := zlx (zgt l)
  rwa [zuh l h] at this
theorem zg8 (l : List Int) : totZ l ≤ 7 * l.length := by
  have := zlx (zgt l)
  refine Nat.le_trans this ?_
  induction l with
  | nil => simp [cellsOf]
  | cons r l ih =>
    have h1 := zcw (chZ r)
    have := ih (zlx (zgt l))
    rw [List.map_cons, za6, List.length_append, List.length_cons]
    omega
theorem zc9 {l : List Int} {t : List UInt8} (h : zav l t = true) : l.take t.length = bs t := by
  unfold zav at h
  have := List.prefix_iff_eq_take.1 (List.isPrefixOf_iff_prefix.1 h)
  rw [zak] at this
  exact this.symm
end Go.Proofs.YtlhagkbhojmjpaaGreatDoor
namespace Go.Proofs.YtlhagkbhojmjpaaGreatDoor
set_option linter.unusedSimpArgs false
set_option linter.unusedVariables false
set_option linter.unusedSectionVars false
def sT (s : List UInt8 × List UInt8) : TV := .agg [.str s.1, .str s.2]
def signsT : TV := .list (signsB.map sT)
theorem zid : signsT.asList = signsB.map sT := rfl
theorem zaz : signsB.length = 36 := rfl
def sgn (k : Nat) : List UInt8 × List UInt8 := signsB.getD k ([], [])
theorem zvj {k : Nat} (h : k < 36) : (signsB.map sT).getD k (.int 0) = sT (sgn k) := by
  unfold sgn
  rw [List.getD_eq_getElem?_getD, List.getElem?_map, List.getD_eq_getElem?_getD, List.getElem?_eq_getElem (by rw [zaz]; exact h)]
  rfl
theorem zs0 {k : Nat} (h : k < 36) : sgn k ∈ signsB := by
  unfold sgn
  rw [List.getD_eq_getElem?_getD, List.getElem?_eq_getElem (by rw [zaz]; exact h)]
  exact List.getElem_mem _
theorem zgm {k : Nat} (h : k < 36) : signsB.take (k + 1) = signsB.take k ++ [sgn k] := by
  rw [List.take_add_one, List.getElem?_eq_getElem (by rw [zaz]; exact h)]
  unfold sgn
  rw [List.getD_eq_getElem?_getD, List.getElem?_eq_getElem (by rw [zaz]; exact h)]
  rfl
def letterL : Law := ⟨fun ts => ∃ (r : Int), ts = [.int r] ∧ (-2147483648 ≤ r ∧ r ≤ 2147483647), fun ts z₀ => ∀ (r : Int), ts = [.int r] → z₀ = .str [UInt8.ofNat (cellZ r).toNat]⟩
theorem z23 {r : Int} (h : -2147483648 ≤ r ∧ r ≤ 2147483647) : letterL.pre [.int r] := ⟨r, rfl, h⟩
theorem zqy {r : Int} {z₀ : TV} (h : z₀ = .str [UInt8.ofNat (cellZ r).toNat]) : letterL.post [.int r] z₀ := fun r₁ e => by
  simp only [List.cons.injEq, TV.str.injEq, TV.int.injEq, TV.bool.injEq, TV.agg.injEq, TV.list.injEq, zat, and_true, true_and, and_assoc] at e; subst e
  exact h
theorem z4e {r : Int} {Q : TV → Prop} : (∀ z₀, letterL.post [.int r] z₀ → Q z₀) ↔ Q (.str [UInt8.ofNat (cellZ r).toNat]) := ⟨fun h => h _ (zqy rfl), fun h z₀ hr => by rw [hr _ rfl]; exact h⟩
theorem letter_c (k : Nat) : Contract Tryz.prog (mkEnv globT []) gtab (zd7 k) letterL.pre letterL.post := Contract.env (Γ := mkEnv globT [cellL]) (zfz (fun _ => rfl) (fun s hs => by
    simp only [cx_contraction_letter, List.mem_cons, List.not_mem_nil, or_false] at hs
    rcases hs with rfl
    · exact Contract.inEnv rfl (cell_c 0) rfl) k (by
  rintro ts hl ⟨r, rfl, hp⟩
  have hfin : ∀ z₀ : TV, z₀ = .str [UInt8.ofNat (cellZ r).toNat] → letterL.post [.int r] z₀ := fun z₀ hz₀ => zqy hz₀
  generalize letterL.post [.int r] = R at hfin ⊢
  unfold tr_contraction_letter
  simp only [Tree.den, E.den, P1.den, P2.den, P3.den, qa, qb, qc, qd, qe, qf, qg, qh, zac, zab, zad, zaa, zae, TV.cell, zah, zai, zag, zaf, qi, qj, qk, ql, qm, qn, ne_eq, qo, qp, forall_eq, qs, qt, Int.reduceToNat, qu, exists_eq_left', ze8, pairT]
  exact ⟨ze2 hp.1 hp.2, hfin _ rfl⟩)) rfl
def signsL : Law := ⟨fun ts => ts = [], fun ts z₀ => ts = [] → z₀ = signsT⟩
theorem zv8 : signsL.pre [] := rfl
theorem z9v {z₀ : TV} (h : z₀ = signsT) : signsL.post [] z₀ := fun _ => h
theorem zwr {Q : TV → Prop} : (∀ z₀, signsL.post [] z₀ → Q z₀) ↔ Q (signsT) := ⟨fun h => h _ fun _ => rfl, fun h z₀ hr => by rw [hr rfl]; exact h⟩
theorem z8m (k : Nat) : Contract Tryz.prog (mkEnv globT []) gtab (zda k) signsL.pre signsL.post := Contract.env (Γ := mkEnv globT [letterL]) (zhb (fun _ => rfl) (fun s hs => by
    simp only [cx_contraction_signs, List.mem_cons, List.not_mem_nil, or_false] at hs
    rcases hs with rfl
    · exact Contract.inEnv rfl (letter_c 0) rfl) k (by
  rintro ts hl rfl
  have hfin : ∀ z₀ : TV, z₀ = signsT → signsL.post [] z₀ := fun z₀ hz₀ => z9v hz₀
  generalize signsL.post [] = R at hfin ⊢
  unfold tr_contraction_signs
  simp only [Tree.den, E.den, P1.den, P2.den, P3.den, qa, qb, qc, qd, qe, qf, qg, qh, zac, zab, zad, zaa, zae, TV.cell, zah, zai, zag, zaf, qi, qj, qk, ql, qm, qn, ne_eq, qo, qp, forall_eq, qs, qt, Int.reduceToNat, qu, exists_eq_left', z4e]
  repeat' (first
    | exact hfin _ (by kernel_rfl)
    | (refine ⟨z23 (by omega), ?_⟩)
    | (refine ⟨by simp, ?_⟩)))) rfl
theorem hp_eq (s p : List UInt8) : ((s.take p.length) == p) = p.isPrefixOf s := by
  rw [Bool.eq_iff_iff, List.isPrefixOf_iff_prefix, List.prefix_iff_eq_take, beq_iff_eq]
  exact eq_comm
theorem hp_short {s p : List UInt8} (h : s.length < p.length) : p.isPrefixOf s = false := by
  rw [Bool.eq_false_iff]
  intro e
  have := (List.isPrefixOf_iff_prefix.1 e).length_le
  omega
def hpL : Law := ⟨fun ts => ∃ (s : List UInt8) (p : List UInt8), ts = [.str s, .str p] ∧ (s.length ≤ 9223372036854775807), fun ts z₀ => ∀ (s : List UInt8) (p : List UInt8), ts = [.str s, .str p] → z₀ = .bool (p.isPrefixOf s)⟩
theorem z90 {s : List UInt8} {p : List UInt8} (h : s.length ≤ 9223372036854775807) : hpL.pre [.str s, .str p] := ⟨s, p, rfl, h⟩
theorem hp_fin {s : List UInt8} {p : List UInt8} {z₀ : TV} (h : z₀ = .bool (p.isPrefixOf s)) : hpL.post [.str s, .str p] z₀ := fun s₁ p₁ e => by
  simp only [List.cons.injEq, TV.str.injEq, TV.int.injEq, TV.bool.injEq, TV.agg.injEq, TV.list.injEq, zat, and_true, true_and, and_assoc] at e; obtain ⟨rfl, rfl⟩ := e
  exact h
theorem hp_all {s : List UInt8} {p : List UInt8} {Q : TV → Prop} : (∀ z₀, hpL.post [.str s, .str p] z₀ → Q z₀) ↔ Q (.bool (p.isPrefixOf s)) := ⟨fun h => h _ (hp_fin rfl), fun h z₀ hr => by rw [hr _ _ rfl]; exact h⟩
theorem hp_c (k : Nat) : Contract Tryz.prog (mkEnv globT []) gtab (zeh k) hpL.pre hpL.post := Contract.env (Γ := mkEnv globT []) (zhd (fun _ => rfl) (fun s hs => by
    cases hs) k (by
  rintro ts hl ⟨s, p, rfl, hp⟩
  have hfin : ∀ z₀ : TV, z₀ = .bool (p.isPrefixOf s) → hpL.post [.str s, .str p] z₀ := fun z₀ hz₀ => hp_fin hz₀
  generalize hpL.post [.str s, .str p] = R at hfin ⊢
  unfold tr_strings_HasPrefix
  simp only [Tree.den, E.den, P1.den, P2.den, P3.den, qa, qb, qc, qd, qe, qf, qg, qh, zac, zab, zad, zaa, zae, TV.cell, zah, zai, zag, zaf, qi, qj, qk, ql, qm, qn, ne_eq, qo, qp, forall_eq, qs, qt, Int.reduceToNat, qu, exists_eq_left']
  refine ⟨fun h => ⟨by omega, by omega, hfin _ ?_⟩, fun h => hfin _ ?_⟩
  · rw [← hp_eq]
    simp
  · rw [hp_short (by omega)])) rfl
def ccharsL : Law := ⟨fun ts => ∃ (s : List UInt8), ts = [.str s] ∧ (s.length ≤ 1000000), fun ts z₀ => ∀ (s : List UInt8), ts = [.str s] → z₀ = ints (Go.Proofs.YtlhagkbhojmjpaaGreatDoor.fin (bs s))⟩
theorem z41 {s : List UInt8} (h : s.length ≤ 1000000) : ccharsL.pre [.str s] := ⟨s, rfl, h⟩
theorem zqt {s : List UInt8} {z₀ : TV} (h : z₀ = ints (Go.Proofs.YtlhagkbhojmjpaaGreatDoor.fin (bs s))) : ccharsL.post [.str s] z₀ := fun s₁ e => by
  simp only [List.cons.injEq, TV.str.injEq, TV.int.injEq, TV.bool.injEq, TV.agg.injEq, TV.list.injEq, zat, and_true, true_and, and_assoc] at e; subst e
  exact h
theorem z26 {s : List UInt8} {Q : TV → Prop} : (∀ z₀, ccharsL.post [.str s] z₀ → Q z₀) ↔ Q (ints (Go.Proofs.YtlhagkbhojmjpaaGreatDoor.fin (bs s))) := ⟨fun h => h _ (zqt rfl), fun h z₀ hr => by rw [hr _ rfl]; exact h⟩
theorem cchars_c (k : Nat) : Contract Tryz.prog (mkEnv globT []) gtab (zcx k) ccharsL.pre ccharsL.post := Contract.env (Γ := mkEnv globT [decodeL, finishL]) (zep (fun _ => rfl) (fun s hs => by
    simp only [cx_contraction_characters, List.mem_cons, List.not_mem_nil, or_false] at hs
    rcases hs with rfl | rfl
    · exact Contract.inEnv rfl (zo6 0) rfl
    · exact Contract.inEnv rfl (zm5 1) rfl) k (by
  rintro ts hl ⟨s, rfl, hp⟩
  have hfin : ∀ z₀ : TV, z₀ = ints (Go.Proofs.YtlhagkbhojmjpaaGreatDoor.fin (bs s)) → ccharsL.post [.str s] z₀ := fun z₀ hz₀ => zqt hz₀
  generalize ccharsL.post [.str s] = R at hfin ⊢
  unfold tr_contraction_characters
  have hrest := zvw s
  simp only [Tree.den, E.den, P1.den, P2.den, P3.den, qa, qb, qc, qd, qe, qf, qg, qh, zac, zab, zad, zaa, zae, TV.cell, zah, zai, zag, zaf, qi, qj, qk, ql, qm, qn, ne_eq, qo, qp, forall_eq, qs, qt, Int.reduceToNat, qu, exists_eq_left', zch, zb1, decT]
  simp only [Tree.den, E.den, P1.den, P2.den, P3.den, qa, qb, qc, qd, qe, qf, qg, qh, zac, zab, zad, zaa, zae, TV.cell, zah, zai, zag, zaf, qi, qj, qk, ql, qm, qn, ne_eq, qo, qp, forall_eq, qs, qt, Int.reduceToNat, qu, exists_eq_left', zaj, zao, zaq, zan, zap, zam, zal, zar, qv, qq, qr, zak, zb1, hrest, ← zk4]
  have hlen := zls (bs s)
  have hsl := zak s
  have hdl := zfq (bs s)
  have hul := zi3 (dec (bs s)).2
  exact ⟨zck (by rw [List.length_nil]; omega), zdy (by omega), by omega, hfin _ rfl⟩)) rfl
theorem zzm (r : Int) : za8 (Go.Proofs.YtlhagkbhojmjpaaGreatDoor.fin (encZ [r])) = oneZ (chZ r) := by
  rw [zft]
  simp [za8]
theorem zcs (l : List Int) : bs (unbs (encZ l)) = encZ l := zec fun b hb => zk3 hb
theorem za9 (l : List Int) : (unbs l).length = l.length := by simp [unbs]
def aloneL : Law := ⟨fun ts => ∃ (r : Int), ts = [.int r] ∧ (-2147483648 ≤ r ∧ r ≤ 2147483647), fun ts z₀ => ∀ (r : Int), ts = [.int r] → z₀ = ints (oneZ (chZ r))⟩
theorem z8q {r : Int} (h : -2147483648 ≤ r ∧ r ≤ 2147483647) : aloneL.pre [.int r] := ⟨r, rfl, h⟩
theorem zu3 {r : Int} {z₀ : TV} (h : z₀ = ints (oneZ (chZ r))) : aloneL.post [.int r] z₀ := fun r₁ e => by
  simp only [List.cons.injEq, TV.str.injEq, TV.int.injEq, TV.bool.injEq, TV.agg.injEq, TV.list.injEq, zat, and_true, true_and, and_assoc] at e; subst e
  exact h
theorem z9h {r : Int} {Q : TV → Prop} : (∀ z₀, aloneL.post [.int r] z₀ → Q z₀) ↔ Q (ints (oneZ (chZ r))) := ⟨fun h => h _ (zu3 rfl), fun h z₀ hr => by rw [hr _ rfl]; exact h⟩
theorem alone_c (k : Nat) : Contract Tryz.prog (mkEnv globT []) gtab (zef k) aloneL.pre aloneL.post := Contract.env (Γ := mkEnv globT [encL, cellsL]) (zg7 (fun _ => rfl) (fun s hs => by
    simp only [cx_contraction_alone, List.mem_cons, List.not_mem_nil, or_false] at hs
    rcases hs with rfl | rfl
    · exact Contract.inEnv rfl (enc_c 0) rfl
    · exact Contract.inEnv rfl (ze1 1) rfl) k (by
  rintro ts hl ⟨r, rfl, hp⟩
  have hfin : ∀ z₀ : TV, z₀ = ints (oneZ (chZ r)) → aloneL.post [.int r] z₀ := fun z₀ hz₀ => zu3 hz₀
  generalize aloneL.post [.int r] = R at hfin ⊢
  unfold tr_contraction_alone
  have l1 : ∀ z : Int, TV.list [.int z] = ints [z] := fun _ => rfl
  simp only [Tree.den, E.den, P1.den, P2.den, P3.den, qa, qb, qc, qd, qe, qf, qg, qh, zac, zab, zad, zaa, zae, TV.cell, zah, zai, zag, zaf, qi, qj, qk, ql, qm, qn, ne_eq, qo, qp, forall_eq, qs, qt, Int.reduceToNat, qu, exists_eq_left', l1, zhf, zcz, zcs, zzm]
  have h1 := zcp [r]
  have h2 := za9 (encZ [r])
  simp only [List.length_singleton] at h1
  exact ⟨ze3 ⟨fun n hn => by simp at hn; omega, by simp⟩, zei (by omega), hfin _ rfl⟩)) rfl
theorem z0c {l : List Int} {t : List UInt8} {k : Nat} (hl : k < l.length) (ht : k < t.length) (h : l.take k = bs (t.take k)) (e : l.getD k 0 = (bs t).getD k 0) : l.take (k + 1) = bs (t.take (k + 1)) := by
  rw [zbd hl, h, e, z3j, z3j, zbd (by rw [zak]; exact ht)]
theorem beg_no {l : List Int} {t : List UInt8} {k : Nat} (hl : k < l.length) (ht : k < t.length) (e : ¬ l.getD k 0 = (bs t).getD k 0) : zav l t = false := by
  rw [Bool.eq_false_iff]
  intro h
  have := zc9 h
  rw [← this, zuj l ht] at e
  exact e rfl
theorem z3u {l : List Int} {t : List UInt8} (h : l.take t.length = bs t) : zav l t = true := by
  unfold zav
  exact List.isPrefixOf_iff_prefix.2 (List.prefix_iff_eq_take.2 (by rw [zak]; exact h.symm))
theorem zwu {l : List Int} {t : List UInt8} (h : l.length < t.length) : zav l t = false := by
  rw [Bool.eq_false_iff]
  intro e
  unfold zav at e
  have := (List.isPrefixOf_iff_prefix.1 e).length_le
  rw [zak] at this
  omega
def BI (l : List Int) (t : List UInt8) (xs : List TV) : Prop := ∃ k : Nat, xs = [.int k] ∧ k ≤ t.length ∧ l.take k = bs (t.take k)
def Bm (t : List UInt8) (xs : List TV) : Nat := t.length - (xs.getD 0 (.int 0)).asInt.toNat
def beginsL : Law := ⟨fun ts => ∃ (l : List Int) (t : List UInt8), ts = [ints l, .str t] ∧ (l.length ≤ 1000000), fun ts z₀ => ∀ (l : List Int) (t : List UInt8), ts = [ints l, .str t] → z₀ = .bool (zav l t)⟩
theorem z4g {l : List Int} {t : List UInt8} (h : l.length ≤ 1000000) : beginsL.pre [ints l, .str t] := ⟨l, t, rfl, h⟩
theorem zqe {l : List Int} {t : List UInt8} {z₀ : TV} (h : z₀ = .bool (zav l t)) : beginsL.post [ints l, .str t] z₀ := fun l₁ t₁ e => by
  simp only [List.cons.injEq, TV.str.injEq, TV.int.injEq, TV.bool.injEq, TV.agg.injEq, TV.list.injEq, zat, and_true, true_and, and_assoc] at e; obtain ⟨rfl, rfl⟩ := e
  exact h
theorem z2x {l : List Int} {t : List UInt8} {Q : TV → Prop} : (∀ z₀, beginsL.post [ints l, .str t] z₀ → Q z₀) ↔ Q (.bool (zav l t)) := ⟨fun h => h _ (zqe rfl), fun h z₀ hr => by rw [hr _ _ rfl]; exact h⟩
theorem begins_c (k : Nat) : Contract Tryz.prog (mkEnv globT []) gtab (zd0 k) beginsL.pre beginsL.post := Contract.env (Γ := mkEnv globT []) (zgb (fun _ => rfl) (fun s hs => by
    cases hs) k (by
  rintro ts hl ⟨l, t, rfl, hp⟩
  have hfin : ∀ z₀ : TV, z₀ = .bool (zav l t) → beginsL.post [ints l, .str t] z₀ := fun z₀ hz₀ => zqe hz₀
  generalize beginsL.post [ints l, .str t] = R at hfin ⊢
  unfold tr_contraction_begins
  simp only [Tree.den, E.den, P1.den, P2.den, P3.den, qa, qb, qc, qd, qe, qf, qg, qh, zac, zab, zad, zaa, zae, TV.cell, zah, zai, zag, zaf, qi, qj, qk, ql, qm, qn, ne_eq, qo, qp, forall_eq, qs, qt, Int.reduceToNat, qu, exists_eq_left']
  simp only [Tree.den, E.den, P1.den, P2.den, P3.den, qa, qb, qc, qd, qe, qf, qg, qh, zac, zab, zad, zaa, zae, TV.cell, zah, zai, zag, zaf, qi, qj, qk, ql, qm, qn, ne_eq, qo, qp, forall_eq, qs, qt, Int.reduceToNat, qu, exists_eq_left', zaj, zao, zaq, zan, zap, zam, zal, zar, qv, qq, qr, zak]
  refine ⟨fun h => hfin _ (by rw [zwu (by omega)]), fun h => ⟨BI l t, Bm t, ⟨0, rfl, by omega, rfl⟩, ?_⟩⟩
  rintro xs _ ⟨k, rfl, hk, he⟩
  have hD : Bm t [.int (k : Int)] = t.length - k := rfl
  have e64 : IntKind.wrap .i64 ((k : Int) + 1) = ((k + 1 : Nat) : Int) := by rw [wrap_i64 (n := (k : Int) + 1) (by omega) (by omega)]; omega
  have hb := zp6 t k
  simp only [Tree.den, E.den, P1.den, P2.den, P3.den, qa, qb, qc, qd, qe, qf, qg, qh, zac, zab, zad, zaa, zae, TV.cell, zah, zai, zag, zaf, qi, qj, qk, ql, qm, qn, ne_eq, qo, qp, forall_eq, qs, qt, Int.reduceToNat, qu, exists_eq_left', zaj, zao, zaq, zan, zap, zam, zal, zar, qv, qq, qr, zak, hD, e64]
  rw [zax (n := (bs t).getD k 0) (by omega) (by omega)]
  refine ⟨fun hlt => ⟨by omega, by omega, by omega, by omega, fun hne => hfin _ (by rw [beg_no (by omega) (by omega) hne]), fun heq => ⟨⟨k + 1, rfl, by omega, z0c (by omega) (by omega) he heq⟩, ?_⟩⟩, fun hlt => hfin _ ?_⟩
  · simp only [Bm, List.getD_cons_zero, zac]; omega
  · have : k = t.length := by omega
    subst this
    rw [z3u (by rw [he, List.take_of_length_le (Nat.le_refl _)])])) rfl
end Go.Proofs.YtlhagkbhojmjpaaGreatDoor
namespace Go.Proofs.YtlhagkbhojmjpaaGreatDoor
set_option linter.unusedSimpArgs false
set_option linter.unusedVariables false
set_option linter.unusedSectionVars false
def uT (u : U) : TV := .agg [.int u.size, ints u.cells, .int u.total]
theorem uT_mk (n : Nat) (c : List Int) (t : Nat) : TV.agg [.int n, ints c, .int t] = uT ⟨n, c, t⟩ := rfl
theorem ztf (u : U) : (uT u).cells = [.int u.size, ints u.cells, .int u.total] := rfl
theorem zsv (s : List UInt8 × List UInt8) : (sT s).cells = [.str s.1, .str s.2] := rfl
theorem uT_mk1 (c : List Int) (t : Nat) : TV.agg [.int 1, ints c, .int t] = uT ⟨1, c, t⟩ := rfl
def zdw (us : List U) : TV := .list (us.map uT)
theorem zfa (us : List U) : (zdw us).asList = us.map uT := rfl
theorem ziq {us : List U} {i : Nat} (h : i < us.length) : (us.map uT).getD i (.int 0) = uT (us.getD i zU) := by
  rw [List.getD_eq_getElem?_getD, List.getElem?_map, List.getD_eq_getElem?_getD, List.getElem?_eq_getElem h]
  rfl
theorem zu1 (us : List U) (i : Nat) (u : U) : TV.list ((us.map uT).set i (uT u)) = zdw (us.set i u) := by
  unfold zdw
  rw [List.map_set]
def tri (i : Nat) (b : U) (t : List U) : List U := List.replicate i zU ++ b :: t
theorem z8p (i : Nat) (b : U) (t : List U) : (tri i b t).length = i + 1 + t.length := by simp [tri]; omega
theorem z1g (i : Nat) (b : U) (t : List U) : (tri i b t).getD i zU = b := by
  unfold tri
  rw [List.getD_eq_getElem?_getD, List.getElem?_append_right (by simp)]
  simp
theorem zmy (i : Nat) (b : U) (t : List U) {n : Nat} (h : 1 ≤ n) : (tri i b t).getD (i + n) zU = t.getD (n - 1) zU := by
  unfold tri
  rw [List.getD_eq_getElem?_getD, List.getElem?_append_right (by simp), List.length_replicate, List.getD_eq_getElem?_getD]
  obtain ⟨k, rfl⟩ : ∃ k, n = k + 1 := ⟨n - 1, by omega⟩
  rw [show i + (k + 1) - i = k + 1 by omega]
  rfl
theorem zsi (i : Nat) (b u : U) (t : List U) : (tri i b t).set i u = tri i u t := by
  unfold tri
  rw [List.set_append_right _ _ (by simp)]
  simp
theorem tri_up (i : Nat) (b : U) (t : List U) : List.replicate (i + 1) zU ++ t = tri i zU t := by
  unfold tri
  rw [List.replicate_succ', List.append_assoc]
  rfl
theorem zT : TV.agg [.int 0, .list [], .int 0] = uT zU := rfl
theorem zeu (l : List Int) (k : Nat) : ((tabU l).getD k zU).total ≤ 7 * l.length := by
  rw [zg2]
  have h := zg8 (l.drop k)
  rw [List.length_drop] at h
  unfold totZ at h
  omega
theorem z8n (r : Int) (l : List Int) : tabU (r :: l) = signsB.foldl (zbb (r :: l) fun n => ((tabU l).getD (n - 1) zU).total) (zla r ((tabU l).getD 0 zU).total) :: tabU l := rfl
def foldU (r : Int) (l : List Int) (j : Nat) : U := (signsB.take j).foldl (zbb (r :: l) fun n => ((tabU l).getD (n - 1) zU).total) (zla r ((tabU l).getD 0 zU).total)
theorem zj2 (r : Int) (l : List Int) {j : Nat} (h : j < 36) : foldU r l (j + 1) = zbb (r :: l) (fun n => ((tabU l).getD (n - 1) zU).total) (foldU r l j) (sgn j) := by
  unfold foldU
  rw [zgm h, List.foldl_append]
  rfl
theorem zuy (r : Int) (l : List Int) : tabU (r :: l) = foldU r l 36 :: tabU l := by
  unfold foldU
  rw [List.take_of_length_le (by rw [zaz]; omega)]
  exact z8n r l
theorem zst (r : Int) (l : List Int) : ∀ j, j ≤ 36 → (foldU r l j).total ≤ 7 * l.length + 7 ∧ (foldU r l j).size ≤ 4
  | 0, _ => by
    have h1 := zcw (chZ r)
    have h2 := zeu l 0
    unfold foldU zla
    simp only [List.take_zero, List.foldl_nil]
    omega
  | j + 1, h => by
    have ih := zst r l j (by omega)
    rw [zj2 r l (by omega)]
    have hs := zbi _ (zs0 (k := j) (by omega))
    have h2 := zeu l ((sgn j).1.length - 1)
    unfold zbb
    dsimp only
    split
    · split
      · dsimp only; omega
      · exact ih
    · exact ih
theorem zj8 {k : Nat} (h : k < 36) : 2 ≤ (sgn k).1.length ∧ (sgn k).1.length ≤ 4 ∧ 1 ≤ (sgn k).2.length ∧ (sgn k).2.length ≤ 2 := zbi _ (zs0 h)
theorem zka {l : List Int} {t : List UInt8} (h : zav l t = true) : t.length ≤ l.length := by
  unfold zav at h
  have := (List.isPrefixOf_iff_prefix.1 h).length_le
  rwa [zak] at this
theorem qaq {l : List Int} {t : Nat → Nat} {b : U} {s : List UInt8 × List UInt8} (h : zav l s.1 = true) (k : s.2.length + t s.1.length < b.total ∨ (s.2.length + t s.1.length = b.total ∧ b.size < s.1.length)) : zbb l t b s = ⟨s.1.length, bs s.2, s.2.length + t s.1.length⟩ := by
  unfold zbb; rw [if_pos h, if_pos k]
theorem z4x {l : List Int} {t : Nat → Nat} {b : U} {s : List UInt8 × List UInt8} (k : ¬ (s.2.length + t s.1.length < b.total ∨ (s.2.length + t s.1.length = b.total ∧ b.size < s.1.length))) : zbb l t b s = b := by
  unfold zbb; split
  · first | rfl | rw [if_neg k]
  · rfl
theorem zzc {l : List Int} {t : Nat → Nat} {b : U} {s : List UInt8 × List UInt8} (h : zav l s.1 = false) : zbb l t b s = b := by
  unfold zbb; rw [if_neg (by rw [h]; decide)]
def DvI (l : List Int) (xs : List TV) : Prop := ∃ k : Nat, xs = [.int ((k : Int) - 1), zdw (List.replicate k zU ++ tabU (l.drop k))] ∧ k ≤ l.length
def Dvm (xs : List TV) : Nat := ((xs.getD 0 (.int 0)).asInt + 1).toNat
def DwI (l : List Int) (r : Int) (m : List Int) (i : Nat) (xs : List TV) : Prop := ∃ j : Nat, xs = [.int j, zdw (tri i (foldU r m j) (tabU m))] ∧ j ≤ 36
def Dwm (xs : List TV) : Nat := 36 - (xs.getD 0 (.int 0)).asInt.toNat
def divideL : Law := ⟨fun ts => ∃ (l : List Int), ts = [ints l] ∧ (Run l ∧ l.length ≤ 1000000), fun ts z₀ => ∀ (l : List Int), ts = [ints l] → z₀ = zdw (tabU l)⟩
theorem z4l {l : List Int} (h : Run l ∧ l.length ≤ 1000000) : divideL.pre [ints l] := ⟨l, rfl, h⟩
theorem zrq {l : List Int} {z₀ : TV} (h : z₀ = zdw (tabU l)) : divideL.post [ints l] z₀ := fun l₁ e => by
  simp only [List.cons.injEq, TV.str.injEq, TV.int.injEq, TV.bool.injEq, TV.agg.injEq, TV.list.injEq, zat, and_true, true_and, and_assoc] at e; subst e
  exact h
theorem z3n {l : List Int} {Q : TV → Prop} : (∀ z₀, divideL.post [ints l] z₀ → Q z₀) ↔ Q (zdw (tabU l)) := ⟨fun h => h _ (zrq rfl), fun h z₀ hr => by rw [hr _ rfl]; exact h⟩
theorem divide_c (k : Nat) : Contract Tryz.prog (mkEnv globT []) gtab (zd3 k) divideL.pre divideL.post := Contract.env (Γ := mkEnv globT [signsL, aloneL, beginsL]) (zgg (fun _ => rfl) (fun s hs => by
    simp only [cx_contraction_divide, List.mem_cons, List.not_mem_nil, or_false] at hs
    rcases hs with rfl | rfl | rfl
    · exact Contract.inEnv rfl (z8m 0) rfl
    · exact Contract.inEnv rfl (alone_c 1) rfl
    · exact Contract.inEnv rfl (begins_c 2) rfl) k (by
  rintro ts hl ⟨l, rfl, hp⟩
  have hfin : ∀ z₀ : TV, z₀ = zdw (tabU l) → divideL.post [ints l] z₀ := fun z₀ h => zrq h
  generalize divideL.post [ints l] = R at hfin ⊢
  unfold tr_contraction_divide
  obtain ⟨hrun, hsz⟩ := hp
  simp only [Tree.den, E.den, P1.den, P2.den, P3.den, qa, qb, qc, qd, qe, qf, qg, qh, zac, zab, zad, zaa, zae, TV.cell, zah, zai, zag, zaf, qi, qj, qk, ql, qm, qn, ne_eq, qo, qp, forall_eq, qs, qt, Int.reduceToNat, qu, exists_eq_left', zwr]
  simp only [Tree.den, E.den, P1.den, P2.den, P3.den, qa, qb, qc, qd, qe, qf, qg, qh, zac, zab, zad, zaa, zae, TV.cell, zah, zai, zag, zaf, qi, qj, qk, ql, qm, qn, ne_eq, qo, qp, forall_eq, qs, qt, Int.reduceToNat, qu, exists_eq_left', zaj, zao, zaq, zan, zap, zam, zal, zar, qv, qq, qr, zak, zT]
  have e1 : IntKind.wrap .i64 ((l.length : Int) + 1) = ((l.length + 1 : Nat) : Int) := by rw [wrap_i64 (by omega) (by omega)]; omega
  have e2 : IntKind.wrap .i64 ((l.length : Int) - 1) = (l.length : Int) - 1 := by rw [wrap_i64 (by omega) (by omega)]
  rw [e1, e2]
  simp only [Int.toNat_natCast]
  refine ⟨by omega, by omega, by omega, zv8, DvI l, Dvm, ⟨l.length, ?_, Nat.le_refl _⟩, ?_⟩
  · rw [List.drop_of_length_le (Nat.le_refl _)]
    unfold zdw
    rw [List.map_append, List.map_replicate, List.replicate_succ']
    rfl
  rintro xs _ ⟨k, rfl, hk⟩
  have hD : Dvm [.int ((k : Int) - 1), zdw (List.replicate k zU ++ tabU (l.drop k))] = k := by
    simp only [Dvm, List.getD_cons_zero, zac]; omega
  rw [hD]
  simp only [Tree.den, E.den, P1.den, P2.den, P3.den, qa, qb, qc, qd, qe, qf, qg, qh, zac, zab, zad, zaa, zae, TV.cell, zah, zai, zag, zaf, qi, qj, qk, ql, qm, qn, ne_eq, qo, qp, forall_eq, qs, qt, Int.reduceToNat, qu, exists_eq_left', zaj, zao, zaq, zan, zap, zam, zal, zar, qv, qq, qr, zak, zfa, zid, zaz]
  refine ⟨fun hlt => ?_, fun hlt => ?_⟩
  · obtain ⟨i, rfl⟩ : ∃ i, k = i + 1 := ⟨k - 1, by omega⟩
    have ei : ((i + 1 : Nat) : Int) - 1 = (i : Int) := by omega
    have e64 : IntKind.wrap .i64 ((i : Int) + 1) = ((i + 1 : Nat) : Int) := by rw [wrap_i64 (n := (i : Int) + 1) (by omega) (by omega)]; omega
    have e65 : IntKind.wrap .i64 ((i : Int) - 1) = (i : Int) - 1 := by rw [wrap_i64 (by omega) (by omega)]
    have hil : i < l.length := by omega
    have hdl := zcd hil
    have hrr : -2147483648 ≤ l.getD i 0 ∧ l.getD i 0 ≤ 2147483647 := hrun _ (by rw [List.getD_eq_getElem?_getD, List.getElem?_eq_getElem hil]; exact List.getElem_mem hil)
    generalize hr : l.getD i 0 = r at *
    generalize hm : l.drop (i + 1) = m at *
    have hml : m.length = l.length - (i + 1) := by rw [← hm, List.length_drop]
    have hone := zcw (chZ r)
    have ht0 := zeu m 0
    have hbt := tri_up i zU (tabU m)
    rw [hbt]
    have hlen : ∀ b, (tri i b (tabU m)).length = l.length + 1 := fun b => by rw [z8p, zcu]; omega
    simp only [ei, e64, e65, hr, z9h, Tree.den, E.den, P1.den, P2.den, P3.den, qa, qb, qc, qd, qe, qf, qg, qh, zac, zab, zad, zaa, zae, TV.cell, zah, zai, zag, zaf, qi, qj, qk, ql, qm, qn, ne_eq, qo, qp, forall_eq, qs, qt, Int.reduceToNat, qu, exists_eq_left', zaj, zao, zaq, zan, zap, zam, zal, zar, qv, qq, qr, zak, zfa, List.length_map, hlen, List.length_replicate, zcu]
    rw [ziq (by rw [hlen]; omega), zmy i zU (tabU m) (by omega : 1 ≤ 1), Nat.sub_self]
    simp only [ztf, List.getD_cons_zero, List.getD_cons_succ, zac]
    rw [show IntKind.wrap .i64 (((oneZ (chZ r)).length : Int) + (((tabU m).getD 0 zU).total : Int)) = (((oneZ (chZ r)).length + ((tabU m).getD 0 zU).total : Nat) : Int) by rw [wrap_i64 (by omega) (by omega)]; omega]
    rw [uT_mk1, zu1, zsi]
    refine ⟨by omega, by omega, z8q hrr, by omega, by omega, by omega, by omega, DwI l r m i, Dwm, ⟨0, rfl, by omega⟩, ?_⟩
    rintro ys _ ⟨j, rfl, hj⟩
    have hE : ∀ z, Dwm [.int (j : Int), z] = 36 - j := fun z => rfl
    have ej : IntKind.wrap .i64 ((j : Int) + 1) = ((j + 1 : Nat) : Int) := by rw [wrap_i64 (n := (j : Int) + 1) (by omega) (by omega)]; omega
    rw [hE]
    simp only [Tree.den, E.den, P1.den, P2.den, P3.den, qa, qb, qc, qd, qe, qf, qg, qh, zac, zab, zad, zaa, zae, TV.cell, zah, zai, zag, zaf, qi, qj, qk, ql, qm, qn, ne_eq, qo, qp, forall_eq, qs, qt, Int.reduceToNat, qu, exists_eq_left', zaj, zao, zaq, zan, zap, zam, zal, zar, qv, qq, qr, zak, zfa, zid, zaz, ej, hlen]
    refine ⟨fun hlj => ?_, fun hlj => ?_⟩
    · have hj36 : j < 36 := by omega
      have hs2 := zj8 hj36
      have hfb := zst r m j hj
      have hstep := zj2 r m hj36
      rw [zvj hj36]
      simp only [zsv, List.getD_cons_zero, List.getD_cons_succ, zad]
      have hsub : TV.list (((l.map TV.int).drop i).take (l.length - i)) = ints (r :: m) := by rw [zb3, hdl]
      rw [hsub]
      simp only [z2x, Tree.den, E.den, P1.den, P2.den, P3.den, qa, qb, qc, qd, qe, qf, qg, qh, zac, zab, zad, zaa, zae, TV.cell, zah, zai, zag, zaf, qi, qj, qk, ql, qm, qn, ne_eq, qo, qp, forall_eq, qs, qt, Int.reduceToNat, qu, exists_eq_left', zaj, zao, zaq, zan, zap, zam, zal, zar, qv, qq, qr, zak]
      refine ⟨by omega, by omega, by omega, by omega, z4g (by rw [List.length_cons]; omega), fun hno => ⟨⟨j + 1, ?_, by omega⟩, ?_⟩, fun hyes => ?_⟩
      · rw [hstep, zzc (by simpa using hno)]
      · simp only [Dwm, List.getD_cons_zero, zac]; omega
      · have hyes : zav (r :: m) (sgn j).1 = true := by simpa using hyes
        have hbl := zka hyes
        rw [List.length_cons] at hbl
        have htt := zeu m ((sgn j).1.length - 1)
        have en : IntKind.wrap .i64 ((i : Int) + ((sgn j).1.length : Int)) = ((i + (sgn j).1.length : Nat) : Int) := by rw [wrap_i64 (by omega) (by omega)]; omega
        simp only [en, Int.toNat_natCast]
        rw [ziq (by rw [hlen]; omega), ziq (us := tri i (foldU r m j) (tabU m)) (i := i) (by rw [hlen]; omega), zmy i _ (tabU m) (by omega), z1g]
        simp only [ztf, List.getD_cons_zero, List.getD_cons_succ, zac]
        have et : IntKind.wrap .i64 (((sgn j).2.length : Int) + (((tabU m).getD ((sgn j).1.length - 1) zU).total : Int)) = (((sgn j).2.length + ((tabU m).getD ((sgn j).1.length - 1) zU).total : Nat) : Int) := by rw [wrap_i64 (by omega) (by omega)]; omega
        have eb : TV.list ((sgn j).2.map fun b => TV.int b.toNat) = ints (bs (sgn j).2) := by simp [ints, bs]
        rw [et, eb, uT_mk, zu1, zsi]
        have take : ((sgn j).2.length + ((tabU m).getD ((sgn j).1.length - 1) zU).total < (foldU r m j).total ∨ ((sgn j).2.length + ((tabU m).getD ((sgn j).1.length - 1) zU).total = (foldU r m j).total ∧ (foldU r m j).size < (sgn j).1.length)) →
            DwI l r m i [.int ((j + 1 : Nat) : Int), zdw (tri i ⟨(sgn j).1.length, bs (sgn j).2, (sgn j).2.length + ((tabU m).getD ((sgn j).1.length - 1) zU).total⟩ (tabU m))] ∧ Dwm [.int ((j + 1 : Nat) : Int), zdw (tri i ⟨(sgn j).1.length, bs (sgn j).2, (sgn j).2.length + ((tabU m).getD ((sgn j).1.length - 1) zU).total⟩ (tabU m))] < 36 - j := by
          intro h
          refine ⟨⟨j + 1, by rw [hstep, qaq hyes h], by omega⟩, ?_⟩
          simp only [Dwm, List.getD_cons_zero, zac]; omega
        have leave : ¬ ((sgn j).2.length + ((tabU m).getD ((sgn j).1.length - 1) zU).total < (foldU r m j).total ∨ ((sgn j).2.length + ((tabU m).getD ((sgn j).1.length - 1) zU).total = (foldU r m j).total ∧ (foldU r m j).size < (sgn j).1.length)) →
            DwI l r m i [.int ((j + 1 : Nat) : Int), zdw (tri i (foldU r m j) (tabU m))] ∧ Dwm [.int ((j + 1 : Nat) : Int), zdw (tri i (foldU r m j) (tabU m))] < 36 - j := by
          intro h
          refine ⟨⟨j + 1, by rw [hstep, z4x h], by omega⟩, ?_⟩
          simp only [Dwm, List.getD_cons_zero, zac]; omega
        repeat' (first
          | exact take (by omega)
          | exact leave (by omega)
          | (refine ⟨by omega, ?_⟩)
          | (refine ⟨fun _ => ?_, fun _ => ?_⟩)
          | (refine ⟨?_, ?_⟩))
    · have : j = 36 := by omega
      subst this
      refine ⟨⟨i, ?_, by omega⟩, ?_⟩
      · rw [hdl, zuy]
        rfl
      · simp only [Dvm, List.getD_cons_zero, zac]; omega
  · have : k = 0 := by omega
    subst this
    exact hfin _ rfl)) rfl
end Go.Proofs.YtlhagkbhojmjpaaGreatDoor
namespace Go.Proofs.YtlhagkbhojmjpaaGreatDoor
set_option linter.unusedSimpArgs false
set_option linter.unusedVariables false
set_option linter.unusedSectionVars false
theorem z8w (s : List UInt8) : Run (Go.Proofs.YtlhagkbhojmjpaaGreatDoor.fin (bs s)) := fun n hn => by
  have := zy2 (zer s) n hn
  omega
def fromZ : Nat → List (Nat × List Int) → List Int
  | _, [] => []
  | i, (n, c) :: us => List.replicate c.length (i : Int) ++ fromZ (i + n) us
theorem zdb : ∀ (us : List (Nat × List Int)) (i : Nat), (fromZ i us).length = (cellsOf us).length
  | [], _ => rfl
  | (n, c) :: us, i => by
    rw [za6]
    simp only [fromZ, List.length_append, List.length_replicate, zdb us (i + n)]
def zdd (l : List Int) : TV := .agg [ints (cellsOf (zay l)), ints (fromZ 0 (zay l))]
def TrI (l : List Int) (xs : List TV) : Prop := ∃ (k : Nat) (o f : List Int), xs = [.int k, ints o, ints f] ∧ k ≤ l.length ∧ cellsOf (zay l) = o ++ cellsOf (zay (l.drop k)) ∧ fromZ 0 (zay l) = f ++ fromZ k (zay (l.drop k))
def Trm (l : List Int) (xs : List TV) : Nat := l.length - (xs.getD 0 (.int 0)).asInt.toNat
def TsI (f c : List Int) (k : Nat) (xs : List TV) : Prop := ∃ j : Nat, xs = [.int j, ints (f ++ List.replicate j (k : Int))] ∧ j ≤ c.length
def Tsm (c : List Int) (xs : List TV) : Nat := c.length - (xs.getD 0 (.int 0)).asInt.toNat
theorem zgw (f : List Int) (j : Nat) (k : Int) : (f ++ List.replicate j k) ++ [k] = f ++ List.replicate (j + 1) k := by
  rw [List.replicate_succ', List.append_assoc]
def transL : Law := ⟨fun ts => ∃ (s : List UInt8), ts = [.str s] ∧ (s.length ≤ 1000000), fun ts z₀ => ∀ (s : List UInt8), ts = [.str s] → z₀ = zdd (Go.Proofs.YtlhagkbhojmjpaaGreatDoor.fin (bs s))⟩
theorem zf9 {s : List UInt8} (h : s.length ≤ 1000000) : transL.pre [.str s] := ⟨s, rfl, h⟩
theorem zv2 {s : List UInt8} {z₀ : TV} (h : z₀ = zdd (Go.Proofs.YtlhagkbhojmjpaaGreatDoor.fin (bs s))) : transL.post [.str s] z₀ := fun s₁ e => by
  simp only [List.cons.injEq, TV.str.injEq, TV.int.injEq, TV.bool.injEq, TV.agg.injEq, TV.list.injEq, zat, and_true, true_and, and_assoc] at e; subst e
  exact h
theorem zje {s : List UInt8} {Q : TV → Prop} : (∀ z₀, transL.post [.str s] z₀ → Q z₀) ↔ Q (zdd (Go.Proofs.YtlhagkbhojmjpaaGreatDoor.fin (bs s))) := ⟨fun h => h _ (zv2 rfl), fun h z₀ hr => by rw [hr _ rfl]; exact h⟩
theorem zvs (k : Nat) : Contract Tryz.prog (mkEnv globT []) gtab (zc8 k) transL.pre transL.post := Contract.env (Γ := mkEnv globT [ccharsL, divideL]) (zez (fun _ => rfl) (fun s hs => by
    simp only [cx_contraction_Translate, List.mem_cons, List.not_mem_nil, or_false] at hs
    rcases hs with rfl | rfl
    · exact Contract.inEnv rfl (cchars_c 0) rfl
    · exact Contract.inEnv rfl (divide_c 1) rfl) k (by
  rintro ts hl ⟨s, rfl, hp⟩
  have hfin : ∀ z₀ : TV, z₀ = zdd (Go.Proofs.YtlhagkbhojmjpaaGreatDoor.fin (bs s)) → transL.post [.str s] z₀ := fun z₀ hz₀ => zv2 hz₀
  generalize transL.post [.str s] = R at hfin ⊢
  unfold tr_contraction_Translate
  have hll := zco s
  have hrf := z8w s
  simp only [Tree.den, E.den, P1.den, P2.den, P3.den, qa, qb, qc, qd, qe, qf, qg, qh, zac, zab, zad, zaa, zae, TV.cell, zah, zai, zag, zaf, qi, qj, qk, ql, qm, qn, ne_eq, qo, qp, forall_eq, qs, qt, Int.reduceToNat, qu, exists_eq_left', z26, z3n]
  simp only [Tree.den, E.den, P1.den, P2.den, P3.den, qa, qb, qc, qd, qe, qf, qg, qh, zac, zab, zad, zaa, zae, TV.cell, zah, zai, zag, zaf, qi, qj, qk, ql, qm, qn, ne_eq, qo, qp, forall_eq, qs, qt, Int.reduceToNat, qu, exists_eq_left', zaj, zao, zaq, zan, zap, zam, zal, zar, qv, qq, qr, zak, zfa, zcu]
  generalize Go.Proofs.YtlhagkbhojmjpaaGreatDoor.fin (bs s) = l at *
  refine ⟨z41 hp, z4l ⟨hrf, by omega⟩, TrI l, Trm l, ⟨0, [], [], rfl, by omega, by rw [List.drop_zero]; rfl, by rw [List.drop_zero]; rfl⟩, ?_⟩
  rintro xs _ ⟨k, o, f, rfl, hk, ho, hf⟩
  have hD : Trm l [.int (k : Int), ints o, ints f] = l.length - k := rfl
  simp only [Tree.den, E.den, P1.den, P2.den, P3.den, qa, qb, qc, qd, qe, qf, qg, qh, zac, zab, zad, zaa, zae, TV.cell, zah, zai, zag, zaf, qi, qj, qk, ql, qm, qn, ne_eq, qo, qp, forall_eq, qs, qt, Int.reduceToNat, qu, exists_eq_left', zaj, zao, zaq, zan, zap, zam, zal, zar, qv, qq, qr, zak, hD]
  have htl := zbm l
  have htb := zg8 l
  have hfl := zdb (zay l) 0
  have hol := congrArg List.length ho
  have hfl2 := congrArg List.length hf
  rw [List.length_append] at hol hfl2
  refine ⟨fun hlt => ?_, fun hlt => ?_⟩
  · have hkl : k < l.length := by omega
    rw [ziq (by rw [zcu]; omega), zg2]
    simp only [ztf, List.getD_cons_zero, List.getD_cons_succ, zal, zac]
    have hd := zcd hkl
    generalize l.getD k 0 = r at *
    generalize hm : l.drop (k + 1) = m at *
    have hml : m.length = l.length - (k + 1) := by rw [← hm, List.length_drop]
    have hs := zcq r m
    have htc := zdz r m
    rw [← hd] at htc
    rw [← hd] at hs
    have hdd : (l.drop k).drop (bestU (l.drop k)).size = l.drop (k + (bestU (l.drop k)).size) := by rw [List.drop_drop]
    rw [hdd] at htc
    rw [htc, za6] at ho
    rw [htc] at hf
    simp only [fromZ] at hf
    have hol := congrArg List.length ho
    have hfl2 := congrArg List.length hf
    simp only [List.length_append, List.length_replicate] at hol hfl2
    generalize bestU (l.drop k) = u at *
    refine ⟨by omega, by omega, by omega, by omega, by omega, TsI f u.cells k, Tsm u.cells, ⟨0, by simp, by omega⟩, ?_⟩
    rintro ys _ ⟨j, rfl, hj⟩
    have hE : ∀ z, Tsm u.cells [.int (j : Int), z] = u.cells.length - j := fun z => rfl
    have ej : IntKind.wrap .i64 ((j : Int) + 1) = ((j + 1 : Nat) : Int) := by rw [wrap_i64 (n := (j : Int) + 1) (by omega) (by omega)]; omega
    have ek : IntKind.wrap .i64 ((k : Int) + (u.size : Int)) = ((k + u.size : Nat) : Int) := by rw [wrap_i64 (by omega) (by omega)]; omega
    simp only [Tree.den, E.den, P1.den, P2.den, P3.den, qa, qb, qc, qd, qe, qf, qg, qh, zac, zab, zad, zaa, zae, TV.cell, zah, zai, zag, zaf, qi, qj, qk, ql, qm, qn, ne_eq, qo, qp, forall_eq, qs, qt, Int.reduceToNat, qu, exists_eq_left', zaj, zao, zaq, zan, zap, zam, zal, zar, qv, qq, qr, zak, hE, ej, ek, zgw, List.length_replicate]
    refine ⟨fun hlj => ⟨by omega, ⟨j + 1, rfl, by omega⟩, ?_⟩, fun hlj => ⟨by omega, by omega, ⟨k + u.size, _, _, rfl, by omega, ?_, ?_⟩, ?_⟩⟩
    · simp only [Tsm, List.getD_cons_zero, zac]; omega
    · rw [ho, List.append_assoc]
    · have : j = u.cells.length := by omega
      rw [hf, this, List.append_assoc]
    · simp only [Trm, List.getD_cons_zero, zac]; omega
  · have : k = l.length := by omega
    subst this
    rw [List.drop_of_length_le (Nat.le_refl _), zn4] at ho hf
    refine hfin _ ?_
    unfold zdd
    rw [ho, hf]
    simp [cellsOf, fromZ])) rfl
end Go.Proofs.YtlhagkbhojmjpaaGreatDoor
namespace Go.Proofs.YtlhagkbhojmjpaaGreatDoor
set_option linter.unusedSimpArgs false
set_option linter.unusedVariables false
set_option linter.unusedSectionVars false
theorem Run.app {l m : List Int} (h : Run l) (k : Run m) : Run (l ++ m) := fun n hn => by
  rcases List.mem_append.1 hn with hn | hn
  · exact h n hn
  · exact k n hn
end Go.Proofs.YtlhagkbhojmjpaaGreatDoor
namespace Go.Proofs.YtlhagkbhojmjpaaGreatDoor
set_option linter.unusedSimpArgs false
set_option linter.unusedVariables false
set_option linter.unusedSectionVars false
end Go.Proofs.YtlhagkbhojmjpaaGreatDoor
namespace Go.Proofs.YtlhagkbhojmjpaaGreatDoor
set_option linter.unusedSimpArgs false
set_option linter.unusedVariables false
set_option linter.unusedSectionVars false
end Go.Proofs.YtlhagkbhojmjpaaGreatDoor
namespace Go.Proofs.YtlhagkbhojmjpaaGreatDoor
set_option linter.unusedSimpArgs false
set_option linter.unusedVariables false
set_option linter.unusedSectionVars false
structure Seek (l : List Int) (j sz : Nat) (c : List Int) : Prop where
  short : c.length ≤ 7
  cand : sz = 0 ∨ (Cand l sz c ∧ c.length + totZ (l.drop sz) = totZ l)
  single : ∀ r m, l = r :: m → (oneZ (chZ r)).length + totZ (l.drop 1) = totZ l → 1 ≤ sz
  all : ∀ s ∈ signsB.take j, zav l s.1 = true → s.2.length + totZ (l.drop s.1.length) = totZ l → s.1.length ≤ sz
theorem Seek.next {l : List Int} {j sz : Nat} {c : List Int} (h : Seek l j sz c) (hj : j < 36) (hn : zav l (sgn j).1 = true → (sgn j).2.length + totZ (l.drop (sgn j).1.length) = totZ l → (sgn j).1.length ≤ sz) : Seek l (j + 1) sz c :=
  ⟨h.short, h.cand, h.single, fun s hs hb ht => by
    rw [zgm hj] at hs
    rcases List.mem_append.1 hs with hs | hs
    · exact h.all s hs hb ht
    · simp only [List.mem_singleton] at hs
      subst hs
      exact hn hb ht⟩
theorem Seek.take {l : List Int} {j sz : Nat} {c : List Int} (h : Seek l j sz c) (hj : j < 36) (hb : zav l (sgn j).1 = true) (ht : (sgn j).2.length + totZ (l.drop (sgn j).1.length) = totZ l) (hlt : sz < (sgn j).1.length) : Seek l (j + 1) (sgn j).1.length (bs (sgn j).2) := by
  have hs2 := zj8 hj
  refine ⟨by rw [zak]; omega, .inr ⟨.inr ⟨sgn j, zs0 hj, hb, rfl, rfl⟩, by rw [zak]; exact ht⟩, fun r m e he => by omega, fun s hs hb2 ht2 => ?_⟩
  rw [zgm hj] at hs
  rcases List.mem_append.1 hs with hs | hs
  · have := h.all s hs hb2 ht2; omega
  · simp only [List.mem_singleton] at hs
    subst hs
    exact Nat.le_refl _
end Go.Proofs.YtlhagkbhojmjpaaGreatDoor


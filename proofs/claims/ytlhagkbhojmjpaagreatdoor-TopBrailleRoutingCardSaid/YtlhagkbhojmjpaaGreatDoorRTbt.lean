/- Written by this repo's own program out of its texts. -/
import Derived.Test.YtlhagkbhojmjpaaGreatDoorRDcd
namespace Go.Proofs.YtlhagkbhojmjpaaGreatDoor
set_option linter.unusedSimpArgs false
set_option linter.unusedVariables false
set_option linter.unusedSectionVars false
def fxR : List Gl := [⟨[97], false, 0⟩, ⟨[98], false, 0⟩, ⟨[99], false, 0⟩]
theorem fx_gl : glErr fxR = 0 := by decide +kernel
theorem fx_vg : VG fxR := fun g hg => qib (glErr_zero fx_gl g hg)
theorem fx_row : qbi 5 fxR = 0 := qbn fx_gl (by decide) (fun h => absurd (congrArg Gl.s h.2) (by decide))
theorem fx_check : qbo 5 1 [fxR] 0 0 = 0 := by
  unfold qbo
  rw [if_neg (by decide), if_neg (by decide), if_neg (by decide), if_neg (by decide), if_neg (by decide), if_neg (by decide), qbp, if_pos fx_row]
  rfl
theorem fx_small : SmallV [fxR] := ⟨by decide, fun l hl => by
  simp only [List.mem_singleton] at hl
  subst hl
  exact ⟨by decide, by decide⟩⟩
theorem fx_c : brC fxR false = [1, 3, 9] := by decide +kernel
theorem fx_s : brS fxR false = [0, 1, 2, 3] := by decide +kernel
theorem fx_pl : PL [1, 3, 9] [0, 1, 2, 3] := by
  have := br_PL fx_vg false
  rwa [fx_c, fx_s] at this
theorem fx_cur : curV (rw' [fxR] 0) 0 false = 0 := by
  unfold curV
  rw [show rw' [fxR] 0 = fxR from rfl, fx_c, fx_s, show idxG fxR 0 = 0 from by decide]
  unfold zdk
  rw [if_neg (by rintro (h | h | h) <;> first | exact h fx_pl | omega), if_neg (by decide)]
  decide
theorem fx_proper : qhx 2 0 0 5 1 [fxR] 0 0 = true := properD_iff.2 ⟨by decide, by decide, by decide, by decide, by decide, by decide, fx_check⟩
theorem fx_show : showT 2 0 0 5 1 [fxR] 0 0 true false = .agg [ints [1, 3], .int 0] := by
  unfold showT
  rw [if_pos fx_proper, fx_cur, show rw' [fxR] (min 0 (1 - 1)) = fxR from rfl, fx_c]
  rfl
theorem fx_rows : TV.list [TV.list [.agg [.str [97], .bool false, .int 0], .agg [.str [98], .bool false, .int 0], .agg [.str [99], .bool false, .int 0]]] = rowsT [fxR] := rfl
theorem new_pos {n : Int} (h1 : 1 ≤ n) (h2 : n ≤ 80) : newT n = .agg [.agg [.int n, .int 0, .int 0, .bool true], .int 0] := by
  unfold newT
  rw [if_neg (by omega)]
def pvblL : Law := ⟨fun ts => ∃ (a : Int) (b : Int), ts = [.int a, .int b] ∧ (a = 5 ∧ b = 1), fun ts z₀ => ∀ (a : Int) (b : Int), ts = [.int a, .int b] → z₀ = .agg [.agg [.int 5, .int 1, .list [.list []], .int 0, .int 0, .bool true], .int 0]⟩
theorem pvbl_pre {a : Int} {b : Int} (h : a = 5 ∧ b = 1) : pvblL.pre [.int a, .int b] := ⟨a, b, rfl, h⟩
theorem pvbl_fin {a : Int} {b : Int} {z₀ : TV} (h : z₀ = .agg [.agg [.int 5, .int 1, .list [.list []], .int 0, .int 0, .bool true], .int 0]) : pvblL.post [.int a, .int b] z₀ := fun a₁ b₁ e => by
  simp only [List.cons.injEq, TV.str.injEq, TV.int.injEq, TV.bool.injEq, TV.agg.injEq, TV.list.injEq, zat, and_true, true_and, and_assoc] at e; obtain ⟨rfl, rfl⟩ := e
  exact h
theorem pvbl_all {a : Int} {b : Int} {Q : TV → Prop} : (∀ z₀, pvblL.post [.int a, .int b] z₀ → Q z₀) ↔ Q (.agg [.agg [.int 5, .int 1, .list [.list []], .int 0, .int 0, .bool true], .int 0]) := ⟨fun h => h _ (pvbl_fin rfl), fun h z₀ hr => by rw [hr _ _ rfl]; exact h⟩
theorem pvbl_c (k : Nat) : Contract Tryz.prog (mkEnv globT []) gtabU (qkc k) pvblL.pre pvblL.post := Contract.env (Γ := mkEnv globT [psizL]) (qk6 (fun _ => rfl) (fun s hs => by
    simp only [cx_view_Blank, List.mem_cons, List.not_mem_nil, or_false] at hs
    rcases hs with rfl
    · exact Contract.inEnv rfl (psiz_c 0) rfl) k (by
  rintro ts hl ⟨a, b, rfl, hp⟩
  have hfin : ∀ z₀ : TV, z₀ = .agg [.agg [.int 5, .int 1, .list [.list []], .int 0, .int 0, .bool true], .int 0] → pvblL.post [.int a, .int b] z₀ := fun z₀ hz₀ => pvbl_fin hz₀
  generalize pvblL.post [.int a, .int b] = R at hfin ⊢
  unfold tr_view_Blank
  obtain ⟨rfl, rfl⟩ := hp
  have e : sizB 5 1 = true := by decide
  simp only [Tree.den, E.den, P1.den, P2.den, P3.den, qa, qb, qc, qd, qe, qf, qg, qh, zac, zab, zad, zaa, zae, TV.cell, zah, zai, zag, zaf, qi, qj, qk, ql, qm, qn, ne_eq, qo, qp, forall_eq, qs, qt, Int.reduceToNat, qu, exists_eq_left', psiz_all, e]
  exact ⟨psiz_pre trivial, fun h => absurd h (by decide), fun _ => ⟨by decide, by decide, by decide, hfin _ rfl⟩⟩)) rfl
def feltL : Law := ⟨fun ts => ts = [], fun ts z₀ => ts = [] → z₀ = .bool true⟩
theorem felt_pre : feltL.pre [] := rfl
theorem felt_fin {z₀ : TV} (h : z₀ = .bool true) : feltL.post [] z₀ := fun _ => h
theorem felt_all {Q : TV → Prop} : (∀ z₀, feltL.post [] z₀ → Q z₀) ↔ Q (.bool true) := ⟨fun h => h _ fun _ => rfl, fun h z₀ hr => by rw [hr rfl]; exact h⟩
theorem felt_c (k : Nat) : Contract Tryz.prog (mkEnv globT []) gtabU (qik k) feltL.pre feltL.post := Contract.env (Γ := mkEnv globT [pshowL, pnewL, pvblL]) (qjg (fun _ => rfl) (fun s hs => by
    simp only [cx_narratortop_top54Felt, List.mem_cons, List.not_mem_nil, or_false] at hs
    rcases hs with rfl | rfl | rfl
    · exact Contract.inEnv rfl (pshow_c 0) rfl
    · exact Contract.inEnv rfl (pnew_c 1) rfl
    · exact Contract.inEnv rfl (pvbl_c 2) rfl) k (by
  rintro ts hl rfl
  have hfin : ∀ z₀ : TV, z₀ = .bool true → feltL.post [] z₀ := fun z₀ hz₀ => felt_fin hz₀
  generalize feltL.post [] = R at hfin ⊢
  unfold tr_narratortop_top54Felt
  simp only [Tree.den, E.den, P1.den, P2.den, P3.den, qa, qb, qc, qd, qe, qf, qg, qh, zac, zab, zad, zaa, zae, TV.cell, zah, zai, zag, zaf, qi, qj, qk, ql, qm, qn, ne_eq, qo, qp, forall_eq, qs, qt, Int.reduceToNat, qu, exists_eq_left', pvbl_all, pnew_all, new_pos (show (1 : Int) ≤ 2 by decide) (by decide), fx_rows, pshow_all, fx_show]
  exact ⟨pvbl_pre ⟨rfl, rfl⟩, fun hh => absurd trivial hh, fun _ => ⟨fun hh => absurd rfl hh, fun _ => ⟨pnew_pre trivial, pshow_pre fx_small, fun _ => ⟨fun _ => ⟨fun _ => ⟨by decide, by decide, hfin _ rfl⟩, fun hh => absurd trivial hh⟩, fun hh => absurd rfl hh⟩, fun hh => absurd trivial hh⟩⟩⟩)) rfl
noncomputable def ql8 (w h : Int) (rows : List (List Gl)) (r c : Int) : Bool := !qby w rows && (decide (rows.length ≤ 8) && (decide (w ≤ 20) && decide (qbo w h rows r c = 0)))
def smvL : Law := ⟨fun ts => ∃ (w : Int) (h : Int) (rows : List (List Gl)) (r : Int) (c : Int) (vis : Bool), ts = [.agg [.int w, .int h, rowsT rows, .int r, .int c, .bool vis]] ∧ (True), fun ts z₀ => ∀ (w : Int) (h : Int) (rows : List (List Gl)) (r : Int) (c : Int) (vis : Bool), ts = [.agg [.int w, .int h, rowsT rows, .int r, .int c, .bool vis]] → z₀ = .bool (ql8 w h rows r c)⟩
theorem smv_pre {w : Int} {h : Int} {rows : List (List Gl)} {r : Int} {c : Int} {vis : Bool} (h₀ : True) : smvL.pre [.agg [.int w, .int h, rowsT rows, .int r, .int c, .bool vis]] := ⟨w, h, rows, r, c, vis, rfl, h₀⟩
theorem smv_fin {w : Int} {h : Int} {rows : List (List Gl)} {r : Int} {c : Int} {vis : Bool} {z₀ : TV} (h₀ : z₀ = .bool (ql8 w h rows r c)) : smvL.post [.agg [.int w, .int h, rowsT rows, .int r, .int c, .bool vis]] z₀ := fun w₁ h₁ rows₁ r₁ c₁ vis₁ e => by
  simp only [List.cons.injEq, TV.str.injEq, TV.int.injEq, TV.bool.injEq, TV.agg.injEq, TV.list.injEq, zat, and_true, true_and, and_assoc, rowsT_eq] at e; obtain ⟨rfl, rfl, rfl, rfl, rfl, rfl⟩ := e
  exact h₀
theorem smv_all {w : Int} {h : Int} {rows : List (List Gl)} {r : Int} {c : Int} {vis : Bool} {Q : TV → Prop} : (∀ z₀, smvL.post [.agg [.int w, .int h, rowsT rows, .int r, .int c, .bool vis]] z₀ → Q z₀) ↔ Q (.bool (ql8 w h rows r c)) := ⟨fun h₀ => h₀ _ (smv_fin rfl), fun h₀ z₀ hr => by rw [hr _ _ _ _ _ _ rfl]; exact h₀⟩
theorem smv_c (k : Nat) : Contract Tryz.prog (mkEnv globT []) gtabU (qii k) smvL.pre smvL.post := Contract.env (Γ := mkEnv globT [greatL, rckL]) (qjc (fun _ => rfl) (fun s hs => by
    simp only [cx_narratortop_top42Small, List.mem_cons, List.not_mem_nil, or_false] at hs
    rcases hs with rfl | rfl
    · exact Contract.inEnv rfl (great_c 0) rfl
    · exact Contract.inEnv rfl (rck_c 1) rfl) k (by
  rintro ts hl ⟨w, h, rows, r, c, vis, rfl, hp⟩
  have hfin : ∀ z₀ : TV, z₀ = .bool (ql8 w h rows r c) → smvL.post [.agg [.int w, .int h, rowsT rows, .int r, .int c, .bool vis]] z₀ := fun z₀ hz₀ => smv_fin hz₀
  generalize smvL.post [.agg [.int w, .int h, rowsT rows, .int r, .int c, .bool vis]] = R at hfin ⊢
  unfold tr_narratortop_top42Small
  unfold ql8 at hfin
  cases hg : qby w rows with
  | true =>
    simp only [Tree.den, E.den, P1.den, P2.den, P3.den, qa, qb, qc, qd, qe, qf, qg, qh, zac, zab, zad, zaa, zae, TV.cell, zah, zai, zag, zaf, qi, qj, qk, ql, qm, qn, ne_eq, qo, qp, forall_eq, qs, qt, Int.reduceToNat, qu, exists_eq_left', great_all, hg]
    exact ⟨great_pre trivial, False.elim, fun _ => hfin _ (by rw [hg]; rfl)⟩
  | false =>
    have hs := (small_view hg).1
    simp only [Tree.den, E.den, P1.den, P2.den, P3.den, qa, qb, qc, qd, qe, qf, qg, qh, zac, zab, zad, zaa, zae, TV.cell, zah, zai, zag, zaf, qi, qj, qk, ql, qm, qn, ne_eq, qo, qp, forall_eq, qs, qt, Int.reduceToNat, qu, exists_eq_left', great_all, hg, qbj, rck_all]
    rw [hg] at hfin
    refine ⟨great_pre trivial, fun _ => ⟨fun h1 => ⟨fun h2 => ⟨rck_pre hs, hfin _ ?_⟩, fun h2 => hfin _ ?_⟩, fun h1 => hfin _ ?_⟩, fun h => absurd h (by simp)⟩
    · rw [decide_eq_true (show rows.length ≤ 8 by omega), decide_eq_true h2, Bool.not_false, Bool.true_and, Bool.true_and, Bool.true_and]
      congr 1
    · rw [decide_eq_false h2]; simp
    · rw [decide_eq_false (show ¬ rows.length ≤ 8 by omega)]; simp)) rfl
def codeA (n : List UInt8) : UInt8 := if n = [85, 112] then 65 else if n = [68, 111, 119, 110] then 66 else if n = [82, 105, 103, 104, 116] then 67 else 68
def sentK (l : List (List UInt8)) : List UInt8 := l.flatMap fun n => [27, 91, codeA n]
theorem sentK_snoc (l : List (List UInt8)) (n : List UInt8) : sentK (l ++ [n]) = sentK l ++ [27, 91, codeA n] := by simp [sentK]
theorem sentK_cons (l : List (List UInt8)) (n : List UInt8) : sentK (n :: l) = 27 :: 91 :: codeA n :: sentK l := by simp [sentK]
theorem sentK_len (l : List (List UInt8)) : (sentK l).length = 3 * l.length := by
  induction l with
  | nil => rfl
  | cons n l ih => rw [sentK_cons]; simp only [List.length_cons, ih]; omega
theorem check_move {w h : Int} {rows : List (List Gl)} {r c c' : Int} (hc : qbo w h rows r c = 0) (h0 : 0 ≤ c') (h1 : c' < w) : qbo w h rows r c' = 0 := by
  have V := proper_view hc
  have a1 := V.c1; have a2 := V.c2
  unfold qbo at hc ⊢
  rw [if_neg (show ¬ c < 0 by omega), if_neg (show ¬ w ≤ c by omega)] at hc
  rw [if_neg (show ¬ c' < 0 by omega), if_neg (show ¬ w ≤ c' by omega)]
  exact hc
theorem cellAt_at {c s : List Int} {i : Nat} (hP : PL c s) (hi : i < c.length) (hlt : s.getD i 0 < s.getD c.length 0) (h6 : s.getD i 0 ≤ 1000000) : zdk c s (s.getD i 0) = bestN s (s.getD i 0) c.length := by
  have h0 := hP.pos (i := i) (by have := hP.1; omega)
  unfold zdk
  rw [if_neg (by rintro (h | h | h) <;> first | exact h hP | omega), if_neg (by omega)]
theorem glyphAt_at {c s : List Int} {i : Nat} (hP : PL c s) (hi : i < c.length) (h6 : i ≤ 1000000) : zb6 c s i = s.getD i 0 := by
  unfold zb6
  rw [if_neg (by rintro (h | h | h) <;> first | exact h hP | omega), if_pos (by omega)]
  rfl
theorem cell_back {l : List Gl} (h : ∀ g ∈ l, glyZ g = 0) (k : Bool) {i : Int} (h0 : 0 ≤ i) (h1 : i ≤ 10000) (hl : l.length ≤ 1000) :
    0 ≤ zb6 (brC l k) (brS l k) i ∧ zb6 (brC l k) (brS l k) (zdk (brC l k) (brS l k) (zb6 (brC l k) (brS l k) i)) = zb6 (brC l k) (brS l k) i := by
  have hv : VG l := fun g hg => qib (h g hg)
  have hP := br_PL hv k
  have hlast := z1c l k
  have h28 := br28 h k
  rcases glyphAt_br hv k (i := i) h0 (by omega) (by omega) with ⟨a, b, p0, p1⟩ | ⟨a, b⟩
  · obtain ⟨n, rfl⟩ : ∃ n : Nat, i = n := ⟨i.toNat, by omega⟩
    rw [Int.toNat_natCast] at b p0 p1
    have hn : n < (brC l k).length := by omega
    have hc := cellAt_at hP hn (by omega) (by omega)
    have hsp := bestN_spec hP.2.2 (show n < (brS l k).length by rw [zym]; omega) hn (by rw [zym]; omega)
    have hg := glyphAt_at hP (i := bestN (brS l k) ((brS l k).getD n 0) (brC l k).length) (by omega) (by omega)
    rw [b, hc, hg]
    exact ⟨p0, hsp.1⟩
  · have hc : zdk (brC l k) (brS l k) (zb6 (brC l k) (brS l k) i) = i := by
      unfold zdk
      rw [b, if_neg (by rintro (e | e | e) <;> first | exact e hP | omega), hlast, if_pos (by omega)]
      omega
    rw [hc]
    exact ⟨by omega, rfl⟩
def NkI (r c j : Int) (xs : List TV) : Prop := ∃ n : Nat, xs = [.str (sentK ((keyN r c r j).take n)), .int n, .int (rowAt r c r j n), .int (colAt c j n), .bool false] ∧ n ≤ (keyN r c r j).length
def Nkm (m : Nat) (xs : List TV) : Nat := m - (xs.getD 1 (.int 0)).asInt.toNat
theorem nkm_i (m n : Nat) (a x y z : TV) : Nkm m [a, .int (n : Int), x, y, z] = m - n := congrArg (m - ·) (Int.toNat_natCast n)
theorem nkm_j (m n : Nat) (a : TV) : Nkm m [a, .int (n : Int)] = m - n := congrArg (m - ·) (Int.toNat_natCast n)
def NlI (l : List (List UInt8)) (xs : List TV) : Prop := ∃ n : Nat, xs = [.str (sentK (l.drop n)), .int n] ∧ n ≤ l.length
def vdubP (ts : List TV) : Prop := ∃ (w h : Int) (rows : List (List Gl)) (r c : Int) (vis : Bool) (sz dr dl : Int) (df : Bool) (x : Int) (k : Bool), ts = [.agg [.int w, .int h, rowsT rows, .int r, .int c, .bool vis], .agg [.int sz, .int dr, .int dl, .bool df], .int x, .bool k] ∧ 0 ≤ x ∧ x ≤ 255
theorem vdubP_of {t0 t1 t2 t3 : TV} (h0 : OkA true [.int .i64, .int .i64, .slice false [.slice true [.str, .bool, .int .i64]], .int .i64, .int .i64, .bool] t0) (h1 : OkA true [.int .i64, .int .i64, .int .i64, .bool] t1) (h2 : OkA false [.int .u8] t2) (h3 : OkA false [.bool] t3) : vdubP [t0, t1, t2, t3] := by
  obtain ⟨w, h, rows, r, c, vis, rfl⟩ := h0.view
  obtain ⟨sz, dr, dl, df, rfl⟩ := h1.disp
  obtain ⟨x, rfl, hx, hx'⟩ := h2.int
  obtain ⟨k, rfl⟩ := h3.bool
  exact ⟨w, h, rows, r, c, vis, sz, dr, dl, df, x, k, rfl, hx, hx'⟩
theorem keys_in {r c j : Int} {n : Nat} (h : n < (keyN r c r j).length) : (keyN r c r j).getD n [] = [82, 105, 103, 104, 116] ∨ (keyN r c r j).getD n [] = [76, 101, 102, 116] := by
  have hl := keyN_len r c r j
  rcases keyN_get r c r j n h with ⟨_, e⟩ | ⟨_, _, e⟩ | ⟨_, _, e⟩ | ⟨_, _, e⟩
  · exact .inl e
  · exact .inr e
  · omega
  · omega
set_option maxHeartbeats 4000000 in
theorem lawRouting_c (k : Nat) : Contract Tryz.prog (mkEnv globT []) gtabU (qi5 k) (trueL vdubP).pre (trueL vdubP).post := Contract.env (Γ := mkEnv globT [ofL, bglyphL, pshowL, prouteL, pkeysL, pfollowL, prightL, pupL, smvL, feltL, pencL, pdecL]) (qkv (fun _ => rfl) (fun s hs => by
    simp only [cx_narratortop_TopBrailleRouting, List.mem_cons, List.not_mem_nil, or_false] at hs
    rcases hs with rfl | rfl | rfl | rfl | rfl | rfl | rfl | rfl | rfl | rfl | rfl | rfl
    · exact Contract.inEnv rfl ((of_c 0).gt za3) rfl
    · exact Contract.inEnv rfl ((zsa 1).gt za3) rfl
    · exact Contract.inEnv rfl (pshow_c 2) rfl
    · exact Contract.inEnv rfl (proute_c 3) rfl
    · exact Contract.inEnv rfl (pkeys_c 4) rfl
    · exact Contract.inEnv rfl (pfollow_c 5) rfl
    · exact Contract.inEnv rfl (pright_c 6) rfl
    · exact Contract.inEnv rfl (pup_c 7) rfl
    · exact Contract.inEnv rfl (smv_c 8) rfl
    · exact Contract.inEnv rfl (felt_c 9) rfl
    · exact Contract.inEnv rfl (penc_c 10) rfl
    · exact Contract.inEnv rfl (pdec_c 11) rfl) k (by
  rintro ts hl ⟨w, h, rows, r, c, vis, sz, dr, dl, df, x, k, rfl, a0, a1⟩
  unfold tr_narratortop_TopBrailleRouting
  cases hsm : ql8 w h rows r c with
  | false =>
    simp only [Tree.den, E.den, P1.den, P2.den, P3.den, qa, qb, qc, qd, qe, qf, qg, qh, zac, zab, zad, zaa, zae, TV.cell, zah, zai, zag, zaf, qi, qj, qk, ql, qm, qn, ne_eq, qo, qp, forall_eq, qs, qt, Int.reduceToNat, qu, exists_eq_left', smv_all, felt_all, hsm]
    exact ⟨smv_pre trivial, fun _ => ⟨felt_pre, rfl⟩, fun hh => absurd hh (by simp)⟩
  | true =>
    have hsm' := hsm
    unfold ql8 at hsm'
    simp only [Bool.and_eq_true, Bool.not_eq_true', decide_eq_true_eq] at hsm'
    obtain ⟨hg, h8, h20, hc⟩ := hsm'
    have hs := (small_view hg).1
    have V := proper_view hc
    have b1 := V.h1; have b2 := V.h2; have b3 := V.len; have b4 := V.r1; have b5 := V.r2; have b6 := V.c1; have b7 := V.c2
    by_cases h1 : sz < 1
    · simp only [Tree.den, E.den, P1.den, P2.den, P3.den, qa, qb, qc, qd, qe, qf, qg, qh, zac, zab, zad, zaa, zae, TV.cell, zah, zai, zag, zaf, qi, qj, qk, ql, qm, qn, ne_eq, qo, qp, forall_eq, qs, qt, Int.reduceToNat, qu, exists_eq_left', smv_all, felt_all, hsm, h1]
      exact ⟨smv_pre trivial, fun hh => absurd hh (by simp), fun _ => ⟨fun _ => ⟨felt_pre, rfl⟩, fun hh => absurd trivial hh⟩⟩
    by_cases h2 : 80 < sz
    · simp only [Tree.den, E.den, P1.den, P2.den, P3.den, qa, qb, qc, qd, qe, qf, qg, qh, zac, zab, zad, zaa, zae, TV.cell, zah, zai, zag, zaf, qi, qj, qk, ql, qm, qn, ne_eq, qo, qp, forall_eq, qs, qt, Int.reduceToNat, qu, exists_eq_left', smv_all, felt_all, hsm, h1, h2]
      exact ⟨smv_pre trivial, fun hh => absurd hh (by simp), fun _ => ⟨False.elim, fun _ => ⟨fun _ => ⟨felt_pre, rfl⟩, fun hh => absurd trivial hh⟩⟩⟩
    have hq : qhx sz 0 0 w h rows r c = true := properD_iff.2 ⟨by omega, by omega, by omega, by omega, by omega, by omega, hc⟩
    have F := fol_proper hq k
    have f0 := F.d0; have f1 := F.d1; have f2 := F.d2; have f3 := F.c0; have f4 := F.c1
    have hmem := rw_mem b4 (show r < rows.length by omega)
    have hsr := hs.2 _ hmem
    have hwd := qh5 hsr
    have hlen := hsr.1
    have V1 := V.rows _ hmem
    have hv := V.vg hmem
    have emax : max 1 sz = sz := by omega
    have emod : (IntKind.wrap .i64 x).tmod sz = x % sz := by rw [wrap_i64 (by omega) (by omega), Int.tmod_eq_emod_of_nonneg a0]
    have i0 := Int.emod_nonneg x (show sz ≠ 0 by omega)
    have i1 := Int.emod_lt_of_pos x (show 0 < sz by omega)
    have hroute := route_fol F b5 i0 i1
    generalize x % sz = i at *
    have hgb := glyphAt_bd hv k (i := curV (rw' rows r) c k / sz * sz + i) (by omega) (by omega) (by omega)
    have hcb := cell_back V1.1 k (i := curV (rw' rows r) c k / sz * sz + i) (by omega) (by omega) (by omega)
    have hic := idxG_col (l := rw' rows r) hgb.1
    have hcol := colV_bd (l := rw' rows r) hgb.1
    by_cases hw : w ≤ colV (rw' rows r) (zb6 (brC (rw' rows r) k) (brS (rw' rows r) k) (curV (rw' rows r) c k / sz * sz + i))
    · rw [if_pos hw] at hroute
      simp only [Tree.den, E.den, P1.den, P2.den, P3.den, qa, qb, qc, qd, qe, qf, qg, qh, zac, zab, zad, zaa, zae, TV.cell, zah, zai, zag, zaf, qi, qj, qk, ql, qm, qn, ne_eq, qo, qp, forall_eq, qs, qt, Int.reduceToNat, qu, exists_eq_left', smv_all, felt_all, hsm, h1, h2, pfollow_all, folT_pos hq, emax, emod, proute_all, hroute]
      exact ⟨smv_pre trivial, fun hh => absurd hh (by simp), fun _ => ⟨False.elim, fun _ => ⟨False.elim, fun _ => ⟨pfollow_pre hs, by omega, proute_pre hs, fun _ => ⟨fun _ => ⟨felt_pre, rfl⟩, fun hh => absurd trivial hh⟩, fun hh => absurd hh (by decide)⟩⟩⟩⟩
    rw [if_neg hw] at hroute
    generalize hj : colV (rw' rows r) (zb6 (brC (rw' rows r) k) (brS (rw' rows r) k) (curV (rw' rows r) c k / sz * sz + i)) = j at *
    have hc2 : qbo w h rows r j = 0 := check_move hc hcol.1 (by omega)
    have hq2 : qhx sz r (curV (rw' rows r) c k / sz * sz) w h rows r j = true := properD_iff.2 ⟨by omega, by omega, by omega, by omega, by omega, by omega, hc2⟩
    have F2 := fol_proper hq2 k
    have g0 := F2.d0; have g1 := F2.d1; have g2 := F2.d2; have g3 := F2.c0; have g4 := F2.c1
    have hfol2 := folT_pos hq2 k
    have hshow2 := show_fol F2 b5 true
    rw [if_pos rfl] at hshow2
    have hcur2 : curV (rw' rows r) j k = zdk (brC (rw' rows r) k) (brS (rw' rows r) k) (zb6 (brC (rw' rows r) k) (brS (rw' rows r) k) (curV (rw' rows r) c k / sz * sz + i)) := by
      show zdk (brC (rw' rows r) k) (brS (rw' rows r) k) (idxG (rw' rows r) j) = _
      rw [hic]
    rw [← hcur2] at hcb
    have hK : keysV w h rows r c r j = keyN r c r j := by unfold keysV; rw [if_pos ⟨hc, b4, b5, hcol.1, by omega⟩]
    have hKl := keyN_len r c r j
    simp only [Tree.den, E.den, P1.den, P2.den, P3.den, qa, qb, qc, qd, qe, qf, qg, qh, zac, zab, zad, zaa, zae, TV.cell, zah, zai, zag, zaf, qi, qj, qk, ql, qm, qn, ne_eq, qo, qp, forall_eq, qs, qt, Int.reduceToNat, qu, exists_eq_left', smv_all, hsm, h1, h2, pfollow_all, folT_pos hq, emax, emod, proute_all, hroute, pkeys_all, hK, qh3]
    refine ⟨smv_pre trivial, fun hh => absurd hh (by simp), fun _ => ⟨False.elim, fun _ => ⟨False.elim, fun _ => ⟨pfollow_pre hs, by omega, proute_pre hs, fun hh => absurd trivial hh, fun _ => ⟨fun hh => absurd trivial hh, fun _ => ⟨fun hh => absurd hh (by omega), fun _ => ⟨fun hh => absurd hh (by omega), fun _ => ⟨pkeys_pre hs, NkI r c j, Nkm (keyN r c r j).length, ⟨0, by rw [(at_start r c r j).1, (at_start r c r j).2]; rfl, by omega⟩, ?_⟩⟩⟩⟩⟩⟩⟩⟩
    rintro xs _ ⟨n, rfl, hn⟩
    have hat := at_in b4 b5 b6 b7 b4 b5 hcol.1 (show j < w by omega) n
    by_cases hlt : n < (keyN r c r j).length
    · have hget := keysT_get hlt
      have e3 : IntKind.wrap .i64 ((n : Int) + 1) = ((n + 1 : Nat) : Int) := by rw [wrap_i64 (by omega) (by omega)]; omega
      have hR := pright_pre (r := rowAt r c r j n) (c := colAt c j n) (n := 1) (w := w) (h := h) (b := h) ⟨by omega, by omega, by omega, by omega, by omega, by omega, by omega, by omega, by omega, by omega, by omega⟩
      have hL := pright_pre (r := rowAt r c r j n) (c := colAt c j n) (n := -1) (w := w) (h := h) (b := h) ⟨by omega, by omega, by omega, by omega, by omega, by omega, by omega, by omega, by omega, by omega, by omega⟩
      have hq := n_eqs
      have hsl := sentK_len ((keyN r c r j).take n)
      rw [List.length_take] at hsl
      have htk := tks_snoc hlt
      have qR : pencL.pre _ := penc_pre (n := [82, 105, 103, 104, 116]) (c := false) (a := false) (s := false) (by decide +kernel)
      have qL : pencL.pre _ := penc_pre (n := [76, 101, 102, 116]) (c := false) (a := false) (s := false) (by decide +kernel)
      have eR : encK [82, 105, 103, 104, 116] false false false = [27, 91, codeA [82, 105, 103, 104, 116]] := by decide +kernel
      have eL : encK [76, 101, 102, 116] false false false = [27, 91, codeA [76, 101, 102, 116]] := by decide +kernel
      rcases keyN_get r c r j n hlt with ⟨h1, hk1⟩ | ⟨h1, h2, hk1⟩ | ⟨h1, h2, hk1⟩ | ⟨h1, h2, hk1⟩
      · rw [hk1] at hget htk
        have hgo := go_right (r := r) (i := r) (w := w) (by omega) hcol.1 b6 h1
        have hsn := sentK_snoc ((keyN r c r j).take n) [82, 105, 103, 104, 116]
        rw [htk, ← eR] at hsn
        simp only [Tree.den, E.den, P1.den, P2.den, P3.den, qa, qb, qc, qd, qe, qf, qg, qh, zac, zab, zad, zaa, zae, TV.cell, zah, zai, zag, zaf, qi, qj, qk, ql, qm, qn, ne_eq, qo, qp, forall_eq, qs, qt, Int.reduceToNat, qu, exists_eq_left', List.cons_append, List.nil_append, Int.toNat_natCast, hget, hq, if_true, if_false, pright_all, penc_all, e3, nkm_i, hgo.1]
        simp only [← hsn, true_implies, false_implies, true_and, and_true]
        have hlt2 := sentK_len ((keyN r c r j).take (n + 1))
        rw [List.length_take] at hlt2
        exact ⟨fun _ => ⟨by omega, by omega, ⟨hR, qR, fun hh => absurd trivial hh, by omega, ⟨n + 1, by rw [hgo.2], by omega⟩, by omega⟩, fun hh => absurd trivial hh⟩, fun hh => absurd hh (by omega)⟩
      · rw [hk1] at hget htk
        have hgo := go_left (r := r) (i := r) (w := w) (by omega) hcol.1 b6 b7 h1 h2
        have hsn := sentK_snoc ((keyN r c r j).take n) [76, 101, 102, 116]
        rw [htk, ← eL] at hsn
        simp only [Tree.den, E.den, P1.den, P2.den, P3.den, qa, qb, qc, qd, qe, qf, qg, qh, zac, zab, zad, zaa, zae, TV.cell, zah, zai, zag, zaf, qi, qj, qk, ql, qm, qn, ne_eq, qo, qp, forall_eq, qs, qt, Int.reduceToNat, qu, exists_eq_left', List.cons_append, List.nil_append, Int.toNat_natCast, hget, hq, if_true, if_false, pright_all, penc_all, e3, nkm_i, hgo.1]
        simp only [← hsn, true_implies, false_implies, true_and, and_true]
        have hlt2 := sentK_len ((keyN r c r j).take (n + 1))
        rw [List.length_take] at hlt2
        exact ⟨fun _ => ⟨by omega, by omega, fun _ => ⟨⟨hL, qL, fun hh => absurd trivial hh, by omega, ⟨n + 1, by rw [hgo.2], by omega⟩, by omega⟩, fun hh => absurd trivial hh⟩⟩, fun hh => absurd hh (by omega)⟩
      · omega
      · omega
    · have hend := at_end r c r j
      have hn' : n = (keyN r c r j).length := by omega
      rw [← hn'] at hend
      have htk : (keyN r c r j).take n = keyN r c r j := List.take_of_length_le (by omega)
      simp only [Tree.den, E.den, P1.den, P2.den, P3.den, qa, qb, qc, qd, qe, qf, qg, qh, zac, zab, zad, zaa, zae, TV.cell, zah, zai, zag, zaf, qi, qj, qk, ql, qm, qn, ne_eq, qo, qp, forall_eq, qs, qt, Int.reduceToNat, qu, exists_eq_left', List.cons_append, List.nil_append, Int.toNat_natCast, hend.1, hend.2, htk]
      refine ⟨fun hh => absurd hh (by omega), fun _ => ⟨NlI (keyN r c r j), Nkm (keyN r c r j).length, ⟨0, rfl, by omega⟩, ?_⟩⟩
      rintro xs _ ⟨m, rfl, hm⟩
      by_cases hml : m < (keyN r c r j).length
      · have hget := keysT_get hml
        have e3 : IntKind.wrap .i64 ((m : Int) + 1) = ((m + 1 : Nat) : Int) := by rw [wrap_i64 (by omega) (by omega)]; omega
        have hdr : (keyN r c r j).drop m = (keyN r c r j).getD m [] :: (keyN r c r j).drop (m + 1) := by
          rw [List.getD_eq_getElem?_getD, List.getElem?_eq_getElem hml]
          exact List.drop_eq_getElem_cons hml
        have hsl := sentK_len ((keyN r c r j).drop (m + 1))
        rw [List.length_drop] at hsl
        have hds : sentK ((keyN r c r j).drop m) = 27 :: 91 :: codeA ((keyN r c r j).getD m []) :: sentK ((keyN r c r j).drop (m + 1)) := by rw [hdr, sentK_cons]
        have hcd : codeA ((keyN r c r j).getD m []) ∈ ARR ∧ arrN (codeA ((keyN r c r j).getD m [])) = (keyN r c r j).getD m [] := by
          rcases keys_in hml with e | e <;> rw [e] <;> decide +kernel
        have qD := pdec_pre (x := codeA ((keyN r c r j).getD m [])) (t := sentK ((keyN r c r j).drop (m + 1))) ⟨hcd.1, by omega⟩
        generalize (keyN r c r j).getD m [] = kn at *
        rw [hds]
        simp only [Tree.den, E.den, P1.den, P2.den, P3.den, qa, qb, qc, qd, qe, qf, qg, qh, zac, zab, zad, zaa, zae, TV.cell, zah, zai, zag, zaf, qi, qj, qk, ql, qm, qn, ne_eq, qo, qp, forall_eq, qs, qt, Int.reduceToNat, qu, exists_eq_left', List.cons_append, List.nil_append, Int.toNat_natCast, hget, pdec_all, hcd.2, keyT, e3, nkm_j]
        simp only [if_true, zab]
        exact ⟨fun _ => ⟨by omega, by omega, qD, fun hh => absurd trivial hh, fun _ => ⟨fun hh => absurd hh (by simp), fun _ => ⟨fun hh => absurd hh (by decide), fun _ => ⟨fun hh => absurd hh (by omega), fun _ => ⟨by decide, by omega, ⟨m + 1, by
          show [TV.str (List.take ((sentK ((keyN r c r j).drop (m + 1))).length) (sentK ((keyN r c r j).drop (m + 1)))), _] = _
          rw [List.take_length], by omega⟩, by omega⟩⟩⟩⟩⟩, fun hh => absurd hh (by omega)⟩
      · have hds : (keyN r c r j).drop m = [] := List.drop_of_length_le (by omega)
        have hsr' := qh9 b4 (show r < rows.length by omega)
        have e : ∀ l k, brT l k = .agg [ints (brC l k), ints (brS l k)] := fun _ _ => rfl
        have q1 := ztp (l := rw' rows r) (a := 0) (b := false) (c := false) (d := 0) (k := k) (n := 0) ⟨by omega, by omega⟩
        have e4 : IntKind.wrap .i64 (curV (rw' rows r) j k / sz * sz + (curV (rw' rows r) j k - curV (rw' rows r) j k / sz * sz)) = curV (rw' rows r) j k := by rw [wrap_i64 (by omega) (by omega)]; omega
        have e5 : IntKind.wrap .i64 (curV (rw' rows r) c k / sz * sz + i) = curV (rw' rows r) c k / sz * sz + i := wrap_i64 (by omega) (by omega)
        have hn0 : sentK [] = [] := rfl
        simp only [Tree.den, E.den, P1.den, P2.den, P3.den, qa, qb, qc, qd, qe, qf, qg, qh, zac, zab, zad, zaa, zae, TV.cell, zah, zai, zag, zaf, qi, qj, qk, ql, qm, qn, ne_eq, qo, qp, forall_eq, qs, qt, Int.reduceToNat, qu, exists_eq_left', List.cons_append, List.nil_append, Int.toNat_natCast, hds, hn0, qbj, qbh, List.length_map, hsr', zx9, e, pfollow_all, hfol2, pshow_all, hshow2, e4, e5, emod, zgv, felt_all, hcb.2]
        refine ⟨fun hh => absurd hh (by omega), fun _ => ⟨by omega, by omega, ?_⟩⟩
        simp only [if_true, zab]
        have hbl := z1x (rw' rows r) k
        have hbs := zym (rw' rows r) k
        have q2 := zj7 (c := brC (rw' rows r) k) (s := brS (rw' rows r) k) (g := curV (rw' rows r) j k) ⟨by omega, by omega⟩
        have q3 := zj7 (c := brC (rw' rows r) k) (s := brS (rw' rows r) k) (g := curV (rw' rows r) c k / sz * sz + i) ⟨by omega, by omega⟩
        refine ⟨⟨q1, pfollow_pre hs, pshow_pre hs, fun _ => ⟨fun _ => ⟨fun _ => ⟨fun _ => ⟨q2, q3, fun _ => ⟨felt_pre, rfl⟩, fun hh => absurd trivial hh⟩, fun hh => absurd trivial hh⟩, fun hh => absurd hh (by omega)⟩, fun hh => absurd hh (by simp)⟩, fun hh => absurd trivial hh⟩,
          q1, pfollow_pre hs, pshow_pre hs, fun _ => ⟨fun _ => ⟨fun _ => ⟨fun _ => ⟨q2, q3, fun _ => ⟨felt_pre, rfl⟩, fun hh => absurd trivial hh⟩, fun hh => absurd trivial hh⟩, fun hh => absurd hh (by omega)⟩, fun hh => absurd hh (by simp)⟩, fun hh => absurd trivial hh⟩)) rfl
end Go.Proofs.YtlhagkbhojmjpaaGreatDoor


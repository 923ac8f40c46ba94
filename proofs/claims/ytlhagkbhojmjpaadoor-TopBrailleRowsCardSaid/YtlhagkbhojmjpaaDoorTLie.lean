/- Written by this repo's own program out of its texts. -/
import Derived.Test.YtlhagkbhojmjpaaDoorTMg
import Derived.Test.YtlhagkbhojmjpaaDoorTL1
import Derived.Test.YtlhagkbhojmjpaaDoorTMh
namespace Go.Proofs.YtlhagkbhojmjpaaDoor
set_option linter.unusedSimpArgs false
set_option linter.unusedVariables false
set_option linter.unusedSectionVars false
theorem zrn (l : List Gl) (s : List UInt8) (b : Bool) (y : Int) : TV.list (l.map glT ++ [.agg [.str s, .bool b, .int y]]) = glsT (l ++ [⟨s, b, y⟩]) := by simp [glsT, glT]
def rowL (M : List (List UInt8)) : List Gl := M.map fun s => ⟨s, zc7 s == 2, 0⟩
def rowG (cs : List Int) : List Gl := rowL ((za1 cs).map encS)
theorem z1v (M : List (List UInt8)) : (rowL M).length = M.length := List.length_map _
theorem z16 {M : List (List UInt8)} {j : Nat} (h : j < M.length) : (rowL M).take j ++ [⟨M.getD j [], zc7 (M.getD j []) == 2, 0⟩] = (rowL M).take (j + 1) := by
  unfold rowL
  rw [← List.map_take, ← List.map_take, List.take_succ_eq_append_getElem h, List.map_append, List.getD_eq_getElem?_getD, List.getElem?_eq_getElem h]
  rfl
def badR (cs : List Int) : Bool := cs.any fun r => decide (za5 r < 0)
theorem z02 {l : List Int} {k : Nat} (h : k < l.length) : badR (l.drop k) = (decide (za5 (l.getD k 0) < 0) || badR (l.drop (k + 1))) := by
  unfold badR
  rw [List.drop_eq_getElem_cons h, List.any_cons, List.getD_eq_getElem?_getD, List.getElem?_eq_getElem h]
  rfl
def decZ (l : List Int) (k : Bool) : Option (List Int) := if k = true then backZ l else textZ l
def zit (d : Option (List Int)) : TV := match d with
  | none => .agg [glsT [], .int 17]
  | some o => if badR (o.map chZ) = true then .agg [glsT [], .int 17] else .agg [glsT (rowG (o.map chZ)), .int 0]
theorem z0i {l o : List Int} (h : textZ l = some o) : o.length ≤ 4 * l.length := by have := zfs l.length l o (Nat.le_refl _) h; omega
theorem qbb : ∀ (k : Nat) (l o : List Int), l.length ≤ k → backZ l = some o → o.length ≤ 4 * l.length
  | _, [], o, _, h => by
    rw [zm4] at h
    simp at h
    subst h
    simp
  | 0, _ :: _, o, hk, _ => by simp at hk
  | k + 1, c :: l, o, hk, h => by
    simp only [List.length_cons] at hk ⊢
    rw [zfg] at h
    generalize hn : (if c = 255 then 7 else 1) = n at h
    have hn1 : 1 ≤ n := by rw [← hn]; split <;> omega
    split at h
    · rename_i s hs
      obtain ⟨o', h1, rfl⟩ := map_some h
      have hl := zxa hs
      rw [List.length_cons] at hl
      have h2 := zbi s (zfv hs).1
      have := qbb k ((c :: l).drop s.2.length) o' (by rw [List.length_drop, List.length_cons]; omega) h1
      rw [List.length_drop, List.length_cons] at this
      rw [List.length_append, zak]
      omega
    · split at h
      · cases h
      · split at h
        · rename_i o' ht
          obtain ⟨o2, h1, rfl⟩ := map_some h
          have e1 := z0i ht
          have := qbb k ((c :: l).drop n) o2 (by rw [List.length_drop, List.length_cons]; omega) h1
          rw [List.length_drop, List.length_cons] at this
          rw [List.length_take, List.length_cons] at e1
          rw [List.length_append]
          omega
        · cases h
theorem back_len {l o : List Int} (h : backZ l = some o) : o.length ≤ 4 * l.length := qbb l.length l o (Nat.le_refl _) h
theorem wordLen {o : List Int} {n : Nat} (h : o.length ≤ 4 * n) : (unbs (encZ o)).length ≤ 16 * n := by
  rw [zi3]
  have := (zcp o).2
  omega
theorem z63 (cs : List Int) : ∀ s ∈ (za1 cs).map encS, s.length ≤ 16 := fun s hs => by
  obtain ⟨c, hc, rfl⟩ := List.mem_map.1 hs
  have h1 := (zr5 cs c hc).len
  have h2 := (zh5 c).2
  omega
def GwI (cs : List Int) (xs : List TV) : Prop := ∃ i : Nat, xs = [.int i] ∧ i ≤ cs.length ∧ badR cs = badR (cs.drop i)
def Gwm (cs : List Int) (xs : List TV) : Nat := cs.length - (xs.getD 0 (.int 0)).asInt.toNat
def RwI (M : List (List UInt8)) (xs : List TV) : Prop := ∃ j : Nat, xs = [.int j, glsT ((rowL M).take j)] ∧ j ≤ M.length
def Rwm (M : List (List UInt8)) (xs : List TV) : Nat := M.length - (xs.getD 0 (.int 0)).asInt.toNat
def glsL : Law := ⟨fun ts => ∃ (l : List Int) (a : Int) (b : Bool) (c : Bool) (d : Int) (k : Bool) (n : Int), ts = [ints l, .agg [.int a, .bool b, .bool c, .int d, .bool k, .int n]] ∧ (Byte l ∧ l.length ≤ 10000), fun ts z₀ => ∀ (l : List Int) (a : Int) (b : Bool) (c : Bool) (d : Int) (k : Bool) (n : Int), ts = [ints l, .agg [.int a, .bool b, .bool c, .int d, .bool k, .int n]] → z₀ = zit (decZ l k)⟩
theorem gls_pre {l : List Int} {a : Int} {b : Bool} {c : Bool} {d : Int} {k : Bool} {n : Int} (h : Byte l ∧ l.length ≤ 10000) : glsL.pre [ints l, .agg [.int a, .bool b, .bool c, .int d, .bool k, .int n]] := ⟨l, a, b, c, d, k, n, rfl, h⟩
theorem gls_fin {l : List Int} {a : Int} {b : Bool} {c : Bool} {d : Int} {k : Bool} {n : Int} {z₀ : TV} (h : z₀ = zit (decZ l k)) : glsL.post [ints l, .agg [.int a, .bool b, .bool c, .int d, .bool k, .int n]] z₀ := fun l₁ a₁ b₁ c₁ d₁ k₁ n₁ e => by
  simp only [List.cons.injEq, TV.str.injEq, TV.int.injEq, TV.bool.injEq, TV.agg.injEq, TV.list.injEq, zat, and_true, true_and, and_assoc] at e; obtain ⟨rfl, rfl, rfl, rfl, rfl, rfl, rfl⟩ := e
  exact h
theorem gls_all {l : List Int} {a : Int} {b : Bool} {c : Bool} {d : Int} {k : Bool} {n : Int} {Q : TV → Prop} : (∀ z₀, glsL.post [ints l, .agg [.int a, .bool b, .bool c, .int d, .bool k, .int n]] z₀ → Q z₀) ↔ Q (zit (decZ l k)) := ⟨fun h => h _ (gls_fin rfl), fun h z₀ hr => by rw [hr _ _ _ _ _ _ _ rfl]; exact h⟩
theorem gls_c (k : Nat) : Contract Tryd.prog (mkEnv globT []) gtabU (zd8 k) glsL.pre glsL.post := Contract.env (Γ := mkEnv globT [finishL, textL, backL, widthL, cwidthL, splitL]) (zn3 (fun _ => rfl) (fun s hs => by
    simp only [cx_brailleline_Glyphs, List.mem_cons, List.not_mem_nil, or_false] at hs
    rcases hs with rfl | rfl | rfl | rfl | rfl | rfl
    · exact Contract.inEnv rfl ((zm5 0).gt za3) rfl
    · exact Contract.inEnv rfl ((text_c 1).gt za3) rfl
    · exact Contract.inEnv rfl ((z5b 2).gt za3) rfl
    · exact Contract.inEnv rfl (zv5 3) rfl
    · exact Contract.inEnv rfl (cwidth_c 4) rfl
    · exact Contract.inEnv rfl (split_c 5) rfl) k (by
  rintro ts hl ⟨l, a, b, c, d, k, n, rfl, hp⟩
  have hfin : ∀ z₀ : TV, z₀ = zit (decZ l k) → glsL.post [ints l, .agg [.int a, .bool b, .bool c, .int d, .bool k, .int n]] z₀ := fun z₀ hz₀ => gls_fin hz₀
  generalize glsL.post [ints l, .agg [.int a, .bool b, .bool c, .int d, .bool k, .int n]] = R at hfin ⊢
  unfold tr_brailleline_Glyphs
  obtain ⟨hby, hlen⟩ := hp
  cases k with
  | false =>
    have hd : decZ l false = textZ l := rfl
    rw [hd] at hfin
    cases hx : textZ l with
    | none =>
      rw [hx] at hfin
      have hT := zbq hx
      simp only [Tree.den, E.den, P1.den, P2.den, P3.den, qa, qb, qc, qd, qe, qf, qg, qh, zac, zab, zad, zaa, zae, TV.cell, zah, zai, zag, zaf, qi, qj, qk, ql, qm, qn, ne_eq, qo, qp, forall_eq, qs, qt, Int.reduceToNat, qu, exists_eq_left', z0t, hT]
      exact ⟨fun h => (by simp at h), fun _ => ⟨zsr ⟨hby, by omega⟩, fun _ => hfin _ rfl, fun h => absurd h (by simp)⟩⟩
    | some o =>
      rw [hx] at hfin
      have hol := z0i hx
      have hT := zde hx
      unfold zit at hfin
      dsimp only at hfin
      have hw1 := wordLen hol
      simp only [Tree.den, E.den, P1.den, P2.den, P3.den, qa, qb, qc, qd, qe, qf, qg, qh, zac, zab, zad, zaa, zae, TV.cell, zah, zai, zag, zaf, qi, qj, qk, ql, qm, qn, ne_eq, qo, qp, forall_eq, qs, qt, Int.reduceToNat, qu, exists_eq_left', z0t, hT]
      simp only [Tree.den, E.den, P1.den, P2.den, P3.den, qa, qb, qc, qd, qe, qf, qg, qh, zac, zab, zad, zaa, zae, TV.cell, zah, zai, zag, zaf, qi, qj, qk, ql, qm, qn, ne_eq, qo, qp, forall_eq, qs, qt, Int.reduceToNat, qu, exists_eq_left', zaj, zao, zaq, zan, zap, zam, zal, zar, qv, qq, qr, zak, zb1, zcs, zft, zcf]
      generalize hcs : o.map chZ = cs at *
      have hcl : cs.length = o.length := by rw [← hcs, List.length_map]
      have hcr : Run cs := by rw [← hcs]; exact (zps o).run
      refine ⟨fun h => (by simp at h), fun _ => ⟨zsr ⟨hby, by omega⟩, fun h => absurd trivial h, fun _ => ⟨zdy (by omega), GwI cs, Gwm cs, ⟨0, rfl, by omega, by rw [List.drop_zero]⟩, ?_⟩⟩⟩
      rintro xs _ ⟨i, rfl, hi, he⟩
      have hD : Gwm cs [.int (i : Int)] = cs.length - i := rfl
      have e64 : IntKind.wrap .i64 ((i : Int) + 1) = ((i + 1 : Nat) : Int) := by rw [wrap_i64 (n := (i : Int) + 1) (by omega) (by omega)]; omega
      by_cases hic : i < cs.length
      · rw [z02 hic] at he
        by_cases hw : za5 (cs.getD i 0) < 0
        · rw [decide_eq_true hw, Bool.true_or] at he
          rw [if_pos he] at hfin
          simp only [Tree.den, E.den, P1.den, P2.den, P3.den, qa, qb, qc, qd, qe, qf, qg, qh, zac, zab, zad, zaa, zae, TV.cell, zah, zai, zag, zaf, qi, qj, qk, ql, qm, qn, ne_eq, qo, qp, forall_eq, qs, qt, Int.reduceToNat, qu, exists_eq_left', zaj, zao, zaq, zan, zap, zam, zal, zar, qv, qq, qr, zak, hD, e64, zcf]
          exact ⟨fun _ => ⟨by omega, by omega, zc0 trivial, fun _ => ⟨fun _ => hfin _ rfl, fun h => by omega⟩, fun h => absurd hw h⟩, fun h => by omega⟩
        · rw [decide_eq_false hw, Bool.false_or] at he
          simp only [Tree.den, E.den, P1.den, P2.den, P3.den, qa, qb, qc, qd, qe, qf, qg, qh, zac, zab, zad, zaa, zae, TV.cell, zah, zai, zag, zaf, qi, qj, qk, ql, qm, qn, ne_eq, qo, qp, forall_eq, qs, qt, Int.reduceToNat, qu, exists_eq_left', zaj, zao, zaq, zan, zap, zam, zal, zar, qv, qq, qr, zak, hD, e64, zcf]
          refine ⟨fun _ => ⟨by omega, by omega, zc0 trivial, fun h => absurd h hw, fun _ => ⟨⟨i + 1, rfl, by omega, he⟩, ?_⟩⟩, fun h => by omega⟩
          simp only [Gwm, List.getD_cons_zero, zac]; omega
      · rw [List.drop_of_length_le (by omega)] at he
        rw [if_neg (by rw [he]; simp [badR])] at hfin
        have hrl := z1v ((za1 cs).map encS)
        have hsl := zhv cs
        have hel := z63 cs
        have hrg : rowG cs = rowL ((za1 cs).map encS) := rfl
        rw [hrg] at hfin
        have hLl : ((za1 cs).map encS).length = (za1 cs).length := List.length_map _
        simp only [Tree.den, E.den, P1.den, P2.den, P3.den, qa, qb, qc, qd, qe, qf, qg, qh, zac, zab, zad, zaa, zae, TV.cell, zah, zai, zag, zaf, qi, qj, qk, ql, qm, qn, ne_eq, qo, qp, forall_eq, qs, qt, Int.reduceToNat, qu, exists_eq_left', zaj, zao, zaq, zan, zap, zam, zal, zar, qv, qq, qr, zak, hD, qbd, zgq, zbc]
        generalize (za1 cs).map encS = M at *
        refine ⟨fun h => by omega, fun _ => ⟨qao ⟨hcr, by omega⟩, RwI M, Rwm M, ⟨0, rfl, by omega⟩, ?_⟩⟩
        rintro ys _ ⟨j, rfl, hj⟩
        have hE : ∀ y, Rwm M [.int (j : Int), y] = M.length - j := fun y => rfl
        have ej : IntKind.wrap .i64 ((j : Int) + 1) = ((j + 1 : Nat) : Int) := by rw [wrap_i64 (n := (j : Int) + 1) (by omega) (by omega)]; omega
        have htl : ((rowL M).take j).length ≤ M.length := by rw [List.length_take]; omega
        by_cases hjl : j < M.length
        · have g := zvn M hjl
          have hm : (M.getD j []).length ≤ 16 := hel _ (by rw [List.getD_eq_getElem?_getD, List.getElem?_eq_getElem hjl]; exact List.getElem_mem hjl)
          simp only [Tree.den, E.den, P1.den, P2.den, P3.den, qa, qb, qc, qd, qe, qf, qg, qh, zac, zab, zad, zaa, zae, TV.cell, zah, zai, zag, zaf, qi, qj, qk, ql, qm, qn, ne_eq, qo, qp, forall_eq, qs, qt, Int.reduceToNat, qu, exists_eq_left', zaj, zao, zaq, zan, zap, zam, zal, zar, qv, qq, qr, zak, hE, ej, zgq, zbc, g, z3x, zaw, zrn, zbo]
          refine ⟨fun _ => ⟨by omega, by omega, z2z (by omega), by omega, ⟨j + 1, ?_, by omega⟩, ?_⟩, fun h => by omega⟩
          · rw [z16 hjl]
          · simp only [Rwm, List.getD_cons_zero, zac]; omega
        · simp only [Tree.den, E.den, P1.den, P2.den, P3.den, qa, qb, qc, qd, qe, qf, qg, qh, zac, zab, zad, zaa, zae, TV.cell, zah, zai, zag, zaf, qi, qj, qk, ql, qm, qn, ne_eq, qo, qp, forall_eq, qs, qt, Int.reduceToNat, qu, exists_eq_left', zaj, zao, zaq, zan, zap, zam, zal, zar, qv, qq, qr, zak, hE, ej, zgq, zbc, zaw]
          refine ⟨fun h => by omega, fun _ => hfin _ ?_⟩
          rw [List.take_of_length_le (by omega)]
  | true =>
    have hd : decZ l true = backZ l := rfl
    rw [hd] at hfin
    cases hx : backZ l with
    | none =>
      rw [hx] at hfin
      have hT := zes hx
      simp only [Tree.den, E.den, P1.den, P2.den, P3.den, qa, qb, qc, qd, qe, qf, qg, qh, zac, zab, zad, zaa, zae, TV.cell, zah, zai, zag, zaf, qi, qj, qk, ql, qm, qn, ne_eq, qo, qp, forall_eq, qs, qt, Int.reduceToNat, qu, exists_eq_left', zkv, hT]
      exact ⟨fun _ => ⟨zmo ⟨hby, by omega⟩, fun _ => hfin _ rfl, fun h => absurd h (by simp)⟩, fun h => (by simp at h)⟩
    | some o =>
      rw [hx] at hfin
      have hol := back_len hx
      have hT := zel hx
      unfold zit at hfin
      dsimp only at hfin
      have hw1 := wordLen hol
      simp only [Tree.den, E.den, P1.den, P2.den, P3.den, qa, qb, qc, qd, qe, qf, qg, qh, zac, zab, zad, zaa, zae, TV.cell, zah, zai, zag, zaf, qi, qj, qk, ql, qm, qn, ne_eq, qo, qp, forall_eq, qs, qt, Int.reduceToNat, qu, exists_eq_left', zkv, hT]
      simp only [Tree.den, E.den, P1.den, P2.den, P3.den, qa, qb, qc, qd, qe, qf, qg, qh, zac, zab, zad, zaa, zae, TV.cell, zah, zai, zag, zaf, qi, qj, qk, ql, qm, qn, ne_eq, qo, qp, forall_eq, qs, qt, Int.reduceToNat, qu, exists_eq_left', zaj, zao, zaq, zan, zap, zam, zal, zar, qv, qq, qr, zak, zb1, zcs, zft, zcf]
      generalize hcs : o.map chZ = cs at *
      have hcl : cs.length = o.length := by rw [← hcs, List.length_map]
      have hcr : Run cs := by rw [← hcs]; exact (zps o).run
      refine ⟨fun _ => ⟨zmo ⟨hby, by omega⟩, fun h => absurd trivial h, fun _ => ⟨zdy (by omega), GwI cs, Gwm cs, ⟨0, rfl, by omega, by rw [List.drop_zero]⟩, ?_⟩⟩, fun h => (by simp at h)⟩
      rintro xs _ ⟨i, rfl, hi, he⟩
      have hD : Gwm cs [.int (i : Int)] = cs.length - i := rfl
      have e64 : IntKind.wrap .i64 ((i : Int) + 1) = ((i + 1 : Nat) : Int) := by rw [wrap_i64 (n := (i : Int) + 1) (by omega) (by omega)]; omega
      by_cases hic : i < cs.length
      · rw [z02 hic] at he
        by_cases hw : za5 (cs.getD i 0) < 0
        · rw [decide_eq_true hw, Bool.true_or] at he
          rw [if_pos he] at hfin
          simp only [Tree.den, E.den, P1.den, P2.den, P3.den, qa, qb, qc, qd, qe, qf, qg, qh, zac, zab, zad, zaa, zae, TV.cell, zah, zai, zag, zaf, qi, qj, qk, ql, qm, qn, ne_eq, qo, qp, forall_eq, qs, qt, Int.reduceToNat, qu, exists_eq_left', zaj, zao, zaq, zan, zap, zam, zal, zar, qv, qq, qr, zak, hD, e64, zcf]
          exact ⟨fun _ => ⟨by omega, by omega, zc0 trivial, fun _ => ⟨fun _ => hfin _ rfl, fun h => by omega⟩, fun h => absurd hw h⟩, fun h => by omega⟩
        · rw [decide_eq_false hw, Bool.false_or] at he
          simp only [Tree.den, E.den, P1.den, P2.den, P3.den, qa, qb, qc, qd, qe, qf, qg, qh, zac, zab, zad, zaa, zae, TV.cell, zah, zai, zag, zaf, qi, qj, qk, ql, qm, qn, ne_eq, qo, qp, forall_eq, qs, qt, Int.reduceToNat, qu, exists_eq_left', zaj, zao, zaq, zan, zap, zam, zal, zar, qv, qq, qr, zak, hD, e64, zcf]
          refine ⟨fun _ => ⟨by omega, by omega, zc0 trivial, fun h => absurd h hw, fun _ => ⟨⟨i + 1, rfl, by omega, he⟩, ?_⟩⟩, fun h => by omega⟩
          simp only [Gwm, List.getD_cons_zero, zac]; omega
      · rw [List.drop_of_length_le (by omega)] at he
        rw [if_neg (by rw [he]; simp [badR])] at hfin
        have hrl := z1v ((za1 cs).map encS)
        have hsl := zhv cs
        have hel := z63 cs
        have hrg : rowG cs = rowL ((za1 cs).map encS) := rfl
        rw [hrg] at hfin
        have hLl : ((za1 cs).map encS).length = (za1 cs).length := List.length_map _
        simp only [Tree.den, E.den, P1.den, P2.den, P3.den, qa, qb, qc, qd, qe, qf, qg, qh, zac, zab, zad, zaa, zae, TV.cell, zah, zai, zag, zaf, qi, qj, qk, ql, qm, qn, ne_eq, qo, qp, forall_eq, qs, qt, Int.reduceToNat, qu, exists_eq_left', zaj, zao, zaq, zan, zap, zam, zal, zar, qv, qq, qr, zak, hD, qbd, zgq, zbc]
        generalize (za1 cs).map encS = M at *
        refine ⟨fun h => by omega, fun _ => ⟨qao ⟨hcr, by omega⟩, RwI M, Rwm M, ⟨0, rfl, by omega⟩, ?_⟩⟩
        rintro ys _ ⟨j, rfl, hj⟩
        have hE : ∀ y, Rwm M [.int (j : Int), y] = M.length - j := fun y => rfl
        have ej : IntKind.wrap .i64 ((j : Int) + 1) = ((j + 1 : Nat) : Int) := by rw [wrap_i64 (n := (j : Int) + 1) (by omega) (by omega)]; omega
        have htl : ((rowL M).take j).length ≤ M.length := by rw [List.length_take]; omega
        by_cases hjl : j < M.length
        · have g := zvn M hjl
          have hm : (M.getD j []).length ≤ 16 := hel _ (by rw [List.getD_eq_getElem?_getD, List.getElem?_eq_getElem hjl]; exact List.getElem_mem hjl)
          simp only [Tree.den, E.den, P1.den, P2.den, P3.den, qa, qb, qc, qd, qe, qf, qg, qh, zac, zab, zad, zaa, zae, TV.cell, zah, zai, zag, zaf, qi, qj, qk, ql, qm, qn, ne_eq, qo, qp, forall_eq, qs, qt, Int.reduceToNat, qu, exists_eq_left', zaj, zao, zaq, zan, zap, zam, zal, zar, qv, qq, qr, zak, hE, ej, zgq, zbc, g, z3x, zaw, zrn, zbo]
          refine ⟨fun _ => ⟨by omega, by omega, z2z (by omega), by omega, ⟨j + 1, ?_, by omega⟩, ?_⟩, fun h => by omega⟩
          · rw [z16 hjl]
          · simp only [Rwm, List.getD_cons_zero, zac]; omega
        · simp only [Tree.den, E.den, P1.den, P2.den, P3.den, qa, qb, qc, qd, qe, qf, qg, qh, zac, zab, zad, zaa, zae, TV.cell, zah, zai, zag, zaf, qi, qj, qk, ql, qm, qn, ne_eq, qo, qp, forall_eq, qs, qt, Int.reduceToNat, qu, exists_eq_left', zaj, zao, zaq, zan, zap, zam, zal, zar, qv, qq, qr, zak, hE, ej, zgq, zbc, zaw]
          refine ⟨fun h => by omega, fun _ => hfin _ ?_⟩
          rw [List.take_of_length_le (by omega)])) rfl
def glT' (d : Option (List Int)) : List Gl × Int := match d with
  | none => ([], 17)
  | some o => if badR (o.map chZ) = true then ([], 17) else (rowG (o.map chZ), 0)
theorem z4s (d : Option (List Int)) : zit d = .agg [glsT (glT' d).1, .int (glT' d).2] := by
  unfold zit glT'
  cases d with
  | none => rfl
  | some o => dsimp only; split <;> rfl
theorem runesS_fin {s : List UInt8} (h : zbl s) : Go.Proofs.YtlhagkbhojmjpaaDoor.fin (bs s) = zbj s := by unfold zbj; exact (zej h).2.2.2
theorem dec_br {l : List Gl} (h : VG l) (k : Bool) : decZ (brC l k) k = some (zbg l) := by
  unfold decZ brC
  cases k with
  | true =>
    rw [if_pos rfl, if_pos rfl]
    exact zva (zbu _) zq0
  | false =>
    rw [if_neg (by decide), if_neg (by decide), zpd h]
    exact text_cells zq0
theorem prop_row {l : List Gl} (h : ∀ g ∈ l, zbf g.s = 0) : zbg l = (l.map fun g => zbj g.s).flatten ∧ VG l := by
  have hv : VG l := fun g hg => (check_iff.1 (h g hg)).1
  refine ⟨?_, hv⟩
  rw [zf8 hv, List.flatMap_def]
  congr 1
  exact List.map_congr_left fun g hg => runesS_fin (hv g hg)
theorem cl_good {c : List Int} (h : Cl c) : badR c = false := by
  obtain ⟨b, ms, rfl, h1, h2, h3⟩ := h
  unfold badR
  rw [List.any_eq_false]
  intro r hr
  rcases List.mem_cons.1 hr with rfl | hr
  · simp; omega
  · have := zfp (h2 r hr)
    simp; omega
theorem bad_flat {cs : List (List Int)} (h : ∀ c ∈ cs, Cl c) : badR cs.flatten = false := by
  unfold badR
  rw [List.any_eq_false]
  intro r hr
  obtain ⟨c, hc, hr⟩ := List.mem_flatten.1 hr
  have := cl_good (h c hc)
  unfold badR at this
  rw [List.any_eq_false] at this
  exact this r hr
def zyc (l : List Gl) : List Gl := l.map fun g => ⟨g.s, g.w, 0⟩
theorem round_row {l : List Gl} (h : ∀ g ∈ l, zbf g.s = 0 ∧ g.w = (zc7 g.s == 2)) (k : Bool) : glT' (decZ (brC l k) k) = (zyc l, 0) := by
  obtain ⟨h1, hv⟩ := prop_row fun g hg => (h g hg).1
  have hcl : ∀ c ∈ l.map fun g => zbj g.s, Cl c := fun c hc => by
    obtain ⟨g, hg, rfl⟩ := List.mem_map.1 hc
    exact (check_iff.1 (h g hg).1).2
  rw [dec_br hv k]
  unfold glT'
  dsimp only
  rw [zln zq0, h1, if_neg (by rw [bad_flat hcl]; simp)]
  refine Prod.ext ?_ rfl
  dsimp only
  unfold rowG rowL zyc
  rw [split_cls hcl, List.map_map, List.map_map]
  refine List.map_congr_left fun g hg => ?_
  have he : encS (zbj g.s) = g.s := zxb (hv g hg)
  simp only [Function.comp_def, he, (h g hg).2]
theorem div_byteG {l : List Int} {us : List (Nat × List Int)} (h : Div l us) : Byte (cellsOf us) := by
  induction h with
  | nil => exact fun b hb => by cases hb
  | @cons l' n c us h t ih =>
    rw [za6]
    intro b hb
    rcases List.mem_append.1 hb with hb | hb
    · rcases h with ⟨r, m, rfl, rfl, rfl⟩ | ⟨s, hs, hb', rfl, rfl⟩
      · exact zsk _ b hb
      · exact zer _ b hb
    · exact ih b hb
theorem brC_byte (l : List Gl) (k : Bool) : Byte (brC l k) := by
  unfold brC
  cases k with
  | true =>
    rw [if_pos rfl]
    exact div_byteG (zbu (zbg l))
  | false =>
    rw [if_neg (by decide)]
    intro b hb
    unfold zbt at hb
    obtain ⟨g, _, hb⟩ := List.mem_flatMap.1 hb
    unfold cg za8 at hb
    obtain ⟨r, _, hb⟩ := List.mem_flatMap.1 hb
    exact zsk _ b hb
end Go.Proofs.YtlhagkbhojmjpaaDoor


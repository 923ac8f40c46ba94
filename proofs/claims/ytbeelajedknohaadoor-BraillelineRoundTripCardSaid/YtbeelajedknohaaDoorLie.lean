/- merged copy -/
/- The contracts of Glyphs, and the laws Glyphs and RoundTrip of layer 53. -/
import Derived.Test.YtbeelajedknohaaDoorLid
import Derived.Test.YtbeelajedknohaaDoorMh
namespace Go.Proofs.YtbeelajedknohaaDoor
set_option linter.unusedSimpArgs false
set_option linter.unusedVariables false
set_option linter.unusedSectionVars false

def rowL (M : List (List UInt8)) : List Gl := M.map fun s => ⟨s, zc7 s == 2, 0⟩
def rowG (cs : List Int) : List Gl := rowL ((za1 cs).map encS)
theorem z1v (M : List (List UInt8)) : (rowL M).length = M.length := List.length_map _
theorem z16 {M : List (List UInt8)} {j : Nat} (h : j < M.length) : (rowL M).take j ++ [⟨M.getD j [], zc7 (M.getD j []) == 2, 0⟩] = (rowL M).take (j + 1) := by
  unfold rowL
  rw [← List.map_take, ← List.map_take, List.take_succ_eq_append_getElem h, List.map_append, List.getD_eq_getElem?_getD, List.getElem?_eq_getElem h]
  rfl
def badR (cs : List Int) : Bool := cs.any fun r => decide (za5 r < 0)
theorem z02 {l : List Int} {k : Nat} (h : k < l.length) : badR (l.drop k) = (decide (za5 (l.getD k 0) < 0) || badR (l.drop (k + 1))) := by
  unfold badR
  rw [List.drop_eq_getElem_cons h, List.any_cons, List.getD_eq_getElem?_getD, List.getElem?_eq_getElem h]
  rfl
def decZ (l : List Int) (k : Bool) : Option (List Int) := if k = true then backZ l else textZ l
def zit (d : Option (List Int)) : TV := match d with
  | none => .agg [glsT [], .int 17]
  | some o => if badR (o.map chZ) = true then .agg [glsT [], .int 17] else .agg [glsT (rowG (o.map chZ)), .int 0]
theorem z0i {l o : List Int} (h : textZ l = some o) : o.length ≤ 4 * l.length := by have := zfs l.length l o (Nat.le_refl _) h; omega
theorem qbb : ∀ (k : Nat) (l o : List Int), l.length ≤ k → backZ l = some o → o.length ≤ 4 * l.length
  | _, [], o, _, h => by
    rw [zm4] at h
    simp at h
    subst h
    simp
  | 0, _ :: _, o, hk, _ => by simp at hk
  | k + 1, c :: l, o, hk, h => by
    simp only [List.length_cons] at hk ⊢
    rw [zfg] at h
    generalize hn : (if c = 255 then 7 else 1) = n at h
    have hn1 : 1 ≤ n := by rw [← hn]; split <;> omega
    split at h
    · rename_i s hs
      obtain ⟨o', h1, rfl⟩ := map_some h
      have hl := zxa hs
      rw [List.length_cons] at hl
      have h2 := zbi s (zfv hs).1
      have := qbb k ((c :: l).drop s.2.length) o' (by rw [List.length_drop, List.length_cons]; omega) h1
      rw [List.length_drop, List.length_cons] at this
      rw [List.length_append, zak]
      omega
    · split at h
      · cases h
      · split at h
        · rename_i o' ht
          obtain ⟨o2, h1, rfl⟩ := map_some h
          have e1 := z0i ht
          have := qbb k ((c :: l).drop n) o2 (by rw [List.length_drop, List.length_cons]; omega) h1
          rw [List.length_drop, List.length_cons] at this
          rw [List.length_take, List.length_cons] at e1
          rw [List.length_append]
          omega
        · cases h
theorem back_len {l o : List Int} (h : backZ l = some o) : o.length ≤ 4 * l.length := qbb l.length l o (Nat.le_refl _) h
theorem wordLen {o : List Int} {n : Nat} (h : o.length ≤ 4 * n) : (unbs (encZ o)).length ≤ 16 * n := by
  rw [zi3]
  have := (zcp o).2
  omega
theorem z63 (cs : List Int) : ∀ s ∈ (za1 cs).map encS, s.length ≤ 16 := fun s hs => by
  obtain ⟨c, hc, rfl⟩ := List.mem_map.1 hs
  have h1 := (zr5 cs c hc).len
  have h2 := (zh5 c).2
  omega
def GwI (cs : List Int) (xs : List TV) : Prop := ∃ i : Nat, xs = [.int i] ∧ i ≤ cs.length ∧ badR cs = badR (cs.drop i)
def Gwm (cs : List Int) (xs : List TV) : Nat := cs.length - (xs.getD 0 (.int 0)).asInt.toNat
def RwI (M : List (List UInt8)) (xs : List TV) : Prop := ∃ j : Nat, xs = [.int j, glsT ((rowL M).take j)] ∧ j ≤ M.length
def Rwm (M : List (List UInt8)) (xs : List TV) : Nat := M.length - (xs.getD 0 (.int 0)).asInt.toNat

def glsL : Law := ⟨fun ts => ∃ (l : List Int) (a : Int) (b : Bool) (c : Bool) (d : Int) (k : Bool) (n : Int), ts = [ints l, .agg [.int a, .bool b, .bool c, .int d, .bool k, .int n]] ∧ (Byte l ∧ l.length ≤ 10000), fun ts z₀ => ∀ (l : List Int) (a : Int) (b : Bool) (c : Bool) (d : Int) (k : Bool) (n : Int), ts = [ints l, .agg [.int a, .bool b, .bool c, .int d, .bool k, .int n]] → z₀ = zit (decZ l k)⟩
theorem gls_pre {l : List Int} {a : Int} {b : Bool} {c : Bool} {d : Int} {k : Bool} {n : Int} (h : Byte l ∧ l.length ≤ 10000) : glsL.pre [ints l, .agg [.int a, .bool b, .bool c, .int d, .bool k, .int n]] := ⟨l, a, b, c, d, k, n, rfl, h⟩
theorem gls_fin {l : List Int} {a : Int} {b : Bool} {c : Bool} {d : Int} {k : Bool} {n : Int} {z₀ : TV} (h : z₀ = zit (decZ l k)) : glsL.post [ints l, .agg [.int a, .bool b, .bool c, .int d, .bool k, .int n]] z₀ := fun l₁ a₁ b₁ c₁ d₁ k₁ n₁ e => by
  simp only [List.cons.injEq, TV.str.injEq, TV.int.injEq, TV.bool.injEq, TV.agg.injEq, TV.list.injEq, zat, and_true, true_and, and_assoc] at e; obtain ⟨rfl, rfl, rfl, rfl, rfl, rfl, rfl⟩ := e
  exact h
theorem gls_all {l : List Int} {a : Int} {b : Bool} {c : Bool} {d : Int} {k : Bool} {n : Int} {Q : TV → Prop} : (∀ z₀, glsL.post [ints l, .agg [.int a, .bool b, .bool c, .int d, .bool k, .int n]] z₀ → Q z₀) ↔ Q (zit (decZ l k)) := ⟨fun h => h _ (gls_fin rfl), fun h z₀ hr => by rw [hr _ _ _ _ _ _ _ rfl]; exact h⟩
theorem gls_c (k : Nat) : Contract Tryd.prog (mkEnv globT []) gtabU (zd8 k) glsL.pre glsL.post := Contract.env (Γ := mkEnv globT [finishL, textL, backL, widthL, cwidthL, splitL]) (zn3 (fun _ => rfl) (fun s hs => by
    simp only [cx_brailleline_Glyphs, List.mem_cons, List.not_mem_nil, or_false] at hs
    rcases hs with rfl | rfl | rfl | rfl | rfl | rfl
    · exact Contract.inEnv rfl ((zm5 0).gt za3) rfl
    · exact Contract.inEnv rfl ((text_c 1).gt za3) rfl
    · exact Contract.inEnv rfl ((z5b 2).gt za3) rfl
    · exact Contract.inEnv rfl (zv5 3) rfl
    · exact Contract.inEnv rfl (cwidth_c 4) rfl
    · exact Contract.inEnv rfl (split_c 5) rfl) k (by
  rintro ts hl ⟨l, a, b, c, d, k, n, rfl, hp⟩
  have hfin : ∀ z₀ : TV, z₀ = zit (decZ l k) → glsL.post [ints l, .agg [.int a, .bool b, .bool c, .int d, .bool k, .int n]] z₀ := fun z₀ h => gls_fin h
  generalize glsL.post [ints l, .agg [.int a, .bool b, .bool c, .int d, .bool k, .int n]] = R at hfin ⊢
  unfold tr_brailleline_Glyphs
  obtain ⟨hby, hlen⟩ := hp
  cases k with
  | false =>
    have hd : decZ l false = textZ l := rfl
    rw [hd] at hfin
    cases hx : textZ l with
    | none =>
      rw [hx] at hfin
      have hT := zbq hx
      simp only [Tree.den, E.den, P1.den, P2.den, P3.den, qa, qb, qc, qd, qe, qf, qg, qh, zac, zab, zad, zaa, zae, TV.cell, zah, zai, zag, zaf, qi, qj, qk, ql, qm, qn, ne_eq, qo, qp, forall_eq, qs, qt, Int.reduceToNat, qu, exists_eq_left', z0t, hT]
      exact ⟨fun h => (by simp at h), fun _ => ⟨zsr ⟨hby, by omega⟩, fun _ => hfin _ rfl, fun h => absurd h (by simp)⟩⟩
    | some o =>
      rw [hx] at hfin
      have hol := z0i hx
      have hT := zde hx
      unfold zit at hfin
      dsimp only at hfin
      have hw1 := wordLen hol
      simp only [Tree.den, E.den, P1.den, P2.den, P3.den, qa, qb, qc, qd, qe, qf, qg, qh, zac, zab, zad, zaa, zae, TV.cell, zah, zai, zag, zaf, qi, qj, qk, ql, qm, qn, ne_eq, qo, qp, forall_eq, qs, qt, Int.reduceToNat, qu, exists_eq_left', z0t, hT]
      simp only [Tree.den, E.den, P1.den, P2.den, P3.den, qa, qb, qc, qd, qe, qf, qg, qh, zac, zab, zad, zaa, zae, TV.cell, zah, zai, zag, zaf, qi, qj, qk, ql, qm, qn, ne_eq, qo, qp, forall_eq, qs, qt, Int.reduceToNat, qu, exists_eq_left', zaj, zao, zaq, zan, zap, zam, zal, zar, qv, qq, qr, zak, zb1, zcs, zft, zcf]
      generalize hcs : o.map chZ = cs at *
      have hcl : cs.length = o.length := by rw [← hcs, List.length_map]
      have hcr : Run cs := by rw [← hcs]; exact (zps o).run
      refine ⟨fun h => (by simp at h), fun _ => ⟨zsr ⟨hby, by omega⟩, fun h => absurd trivial h, fun _ => ⟨zdy (by omega), GwI cs, Gwm cs, ⟨0, rfl, by omega, by rw [List.drop_zero]⟩, ?_⟩⟩⟩
      rintro xs _ ⟨i, rfl, hi, he⟩
      have hD : Gwm cs [.int (i : Int)] = cs.length - i := rfl
      have e64 : IntKind.wrap .i64 ((i : Int) + 1) = ((i + 1 : Nat) : Int) := by rw [wrap_i64 (n := (i : Int) + 1) (by omega) (by omega)]; omega
      by_cases hic : i < cs.length
      · rw [z02 hic] at he
        by_cases hw : za5 (cs.getD i 0) < 0
        · rw [decide_eq_true hw, Bool.true_or] at he
          rw [if_pos he] at hfin
          simp only [Tree.den, E.den, P1.den, P2.den, P3.den, qa, qb, qc, qd, qe, qf, qg, qh, zac, zab, zad, zaa, zae, TV.cell, zah, zai, zag, zaf, qi, qj, qk, ql, qm, qn, ne_eq, qo, qp, forall_eq, qs, qt, Int.reduceToNat, qu, exists_eq_left', zaj, zao, zaq, zan, zap, zam, zal, zar, qv, qq, qr, zak, hD, e64, zcf]
          exact ⟨fun _ => ⟨by omega, by omega, zc0 trivial, fun _ => ⟨fun _ => hfin _ rfl, fun h => by omega⟩, fun h => absurd hw h⟩, fun h => by omega⟩
        · rw [decide_eq_false hw, Bool.false_or] at he
          simp only [Tree.den, E.den, P1.den, P2.den, P3.den, qa, qb, qc, qd, qe, qf, qg, qh, zac, zab, zad, zaa, zae, TV.cell, zah, zai, zag, zaf, qi, qj, qk, ql, qm, qn, ne_eq, qo, qp, forall_eq, qs, qt, Int.reduceToNat, qu, exists_eq_left', zaj, zao, zaq, zan, zap, zam, zal, zar, qv, qq, qr, zak, hD, e64, zcf]
          refine ⟨fun _ => ⟨by omega, by omega, zc0 trivial, fun h => absurd h hw, fun _ => ⟨⟨i + 1, rfl, by omega, he⟩, ?_⟩⟩, fun h => by omega⟩
          simp only [Gwm, List.getD_cons_zero, zac]; omega
      · rw [List.drop_of_length_le (by omega)] at he
        rw [if_neg (by rw [he]; simp [badR])] at hfin
        have hrl := z1v ((za1 cs).map encS)
        have hsl := zhv cs
        have hel := z63 cs
        have hrg : rowG cs = rowL ((za1 cs).map encS) := rfl
        rw [hrg] at hfin
        have hLl : ((za1 cs).map encS).length = (za1 cs).length := List.length_map _
        simp only [Tree.den, E.den, P1.den, P2.den, P3.den, qa, qb, qc, qd, qe, qf, qg, qh, zac, zab, zad, zaa, zae, TV.cell, zah, zai, zag, zaf, qi, qj, qk, ql, qm, qn, ne_eq, qo, qp, forall_eq, qs, qt, Int.reduceToNat, qu, exists_eq_left', zaj, zao, zaq, zan, zap, zam, zal, zar, qv, qq, qr, zak, hD, qbd, zgq, zbc]
        generalize (za1 cs).map encS = M at *
        refine ⟨fun h => by omega, fun _ => ⟨qao ⟨hcr, by omega⟩, RwI M, Rwm M, ⟨0, rfl, by omega⟩, ?_⟩⟩
        rintro ys _ ⟨j, rfl, hj⟩
        have hE : ∀ y, Rwm M [.int (j : Int), y] = M.length - j := fun y => rfl
        have ej : IntKind.wrap .i64 ((j : Int) + 1) = ((j + 1 : Nat) : Int) := by rw [wrap_i64 (n := (j : Int) + 1) (by omega) (by omega)]; omega
        have htl : ((rowL M).take j).length ≤ M.length := by rw [List.length_take]; omega
        by_cases hjl : j < M.length
        · have g := zvn M hjl
          have hm : (M.getD j []).length ≤ 16 := hel _ (by rw [List.getD_eq_getElem?_getD, List.getElem?_eq_getElem hjl]; exact List.getElem_mem hjl)
          simp only [Tree.den, E.den, P1.den, P2.den, P3.den, qa, qb, qc, qd, qe, qf, qg, qh, zac, zab, zad, zaa, zae, TV.cell, zah, zai, zag, zaf, qi, qj, qk, ql, qm, qn, ne_eq, qo, qp, forall_eq, qs, qt, Int.reduceToNat, qu, exists_eq_left', zaj, zao, zaq, zan, zap, zam, zal, zar, qv, qq, qr, zak, hE, ej, zgq, zbc, g, z3x, zaw, zrn, zbo]
          refine ⟨fun _ => ⟨by omega, by omega, z2z (by omega), by omega, ⟨j + 1, ?_, by omega⟩, ?_⟩, fun h => by omega⟩
          · rw [z16 hjl]
          · simp only [Rwm, List.getD_cons_zero, zac]; omega
        · simp only [Tree.den, E.den, P1.den, P2.den, P3.den, qa, qb, qc, qd, qe, qf, qg, qh, zac, zab, zad, zaa, zae, TV.cell, zah, zai, zag, zaf, qi, qj, qk, ql, qm, qn, ne_eq, qo, qp, forall_eq, qs, qt, Int.reduceToNat, qu, exists_eq_left', zaj, zao, zaq, zan, zap, zam, zal, zar, qv, qq, qr, zak, hE, ej, zgq, zbc, zaw]
          refine ⟨fun h => by omega, fun _ => hfin _ ?_⟩
          rw [List.take_of_length_le (by omega)]
  | true =>
    have hd : decZ l true = backZ l := rfl
    rw [hd] at hfin
    cases hx : backZ l with
    | none =>
      rw [hx] at hfin
      have hT := zes hx
      simp only [Tree.den, E.den, P1.den, P2.den, P3.den, qa, qb, qc, qd, qe, qf, qg, qh, zac, zab, zad, zaa, zae, TV.cell, zah, zai, zag, zaf, qi, qj, qk, ql, qm, qn, ne_eq, qo, qp, forall_eq, qs, qt, Int.reduceToNat, qu, exists_eq_left', zkv, hT]
      exact ⟨fun _ => ⟨zmo ⟨hby, by omega⟩, fun _ => hfin _ rfl, fun h => absurd h (by simp)⟩, fun h => (by simp at h)⟩
    | some o =>
      rw [hx] at hfin
      have hol := back_len hx
      have hT := zel hx
      unfold zit at hfin
      dsimp only at hfin
      have hw1 := wordLen hol
      simp only [Tree.den, E.den, P1.den, P2.den, P3.den, qa, qb, qc, qd, qe, qf, qg, qh, zac, zab, zad, zaa, zae, TV.cell, zah, zai, zag, zaf, qi, qj, qk, ql, qm, qn, ne_eq, qo, qp, forall_eq, qs, qt, Int.reduceToNat, qu, exists_eq_left', zkv, hT]
      simp only [Tree.den, E.den, P1.den, P2.den, P3.den, qa, qb, qc, qd, qe, qf, qg, qh, zac, zab, zad, zaa, zae, TV.cell, zah, zai, zag, zaf, qi, qj, qk, ql, qm, qn, ne_eq, qo, qp, forall_eq, qs, qt, Int.reduceToNat, qu, exists_eq_left', zaj, zao, zaq, zan, zap, zam, zal, zar, qv, qq, qr, zak, zb1, zcs, zft, zcf]
      generalize hcs : o.map chZ = cs at *
      have hcl : cs.length = o.length := by rw [← hcs, List.length_map]
      have hcr : Run cs := by rw [← hcs]; exact (zps o).run
      refine ⟨fun _ => ⟨zmo ⟨hby, by omega⟩, fun h => absurd trivial h, fun _ => ⟨zdy (by omega), GwI cs, Gwm cs, ⟨0, rfl, by omega, by rw [List.drop_zero]⟩, ?_⟩⟩, fun h => (by simp at h)⟩
      rintro xs _ ⟨i, rfl, hi, he⟩
      have hD : Gwm cs [.int (i : Int)] = cs.length - i := rfl
      have e64 : IntKind.wrap .i64 ((i : Int) + 1) = ((i + 1 : Nat) : Int) := by rw [wrap_i64 (n := (i : Int) + 1) (by omega) (by omega)]; omega
      by_cases hic : i < cs.length
      · rw [z02 hic] at he
        by_cases hw : za5 (cs.getD i 0) < 0
        · rw [decide_eq_true hw, Bool.true_or] at he
          rw [if_pos he] at hfin
          simp only [Tree.den, E.den, P1.den, P2.den, P3.den, qa, qb, qc, qd, qe, qf, qg, qh, zac, zab, zad, zaa, zae, TV.cell, zah, zai, zag, zaf, qi, qj, qk, ql, qm, qn, ne_eq, qo, qp, forall_eq, qs, qt, Int.reduceToNat, qu, exists_eq_left', zaj, zao, zaq, zan, zap, zam, zal, zar, qv, qq, qr, zak, hD, e64, zcf]
          exact ⟨fun _ => ⟨by omega, by omega, zc0 trivial, fun _ => ⟨fun _ => hfin _ rfl, fun h => by omega⟩, fun h => absurd hw h⟩, fun h => by omega⟩
        · rw [decide_eq_false hw, Bool.false_or] at he
          simp only [Tree.den, E.den, P1.den, P2.den, P3.den, qa, qb, qc, qd, qe, qf, qg, qh, zac, zab, zad, zaa, zae, TV.cell, zah, zai, zag, zaf, qi, qj, qk, ql, qm, qn, ne_eq, qo, qp, forall_eq, qs, qt, Int.reduceToNat, qu, exists_eq_left', zaj, zao, zaq, zan, zap, zam, zal, zar, qv, qq, qr, zak, hD, e64, zcf]
          refine ⟨fun _ => ⟨by omega, by omega, zc0 trivial, fun h => absurd h hw, fun _ => ⟨⟨i + 1, rfl, by omega, he⟩, ?_⟩⟩, fun h => by omega⟩
          simp only [Gwm, List.getD_cons_zero, zac]; omega
      · rw [List.drop_of_length_le (by omega)] at he
        rw [if_neg (by rw [he]; simp [badR])] at hfin
        have hrl := z1v ((za1 cs).map encS)
        have hsl := zhv cs
        have hel := z63 cs
        have hrg : rowG cs = rowL ((za1 cs).map encS) := rfl
        rw [hrg] at hfin
        have hLl : ((za1 cs).map encS).length = (za1 cs).length := List.length_map _
        simp only [Tree.den, E.den, P1.den, P2.den, P3.den, qa, qb, qc, qd, qe, qf, qg, qh, zac, zab, zad, zaa, zae, TV.cell, zah, zai, zag, zaf, qi, qj, qk, ql, qm, qn, ne_eq, qo, qp, forall_eq, qs, qt, Int.reduceToNat, qu, exists_eq_left', zaj, zao, zaq, zan, zap, zam, zal, zar, qv, qq, qr, zak, hD, qbd, zgq, zbc]
        generalize (za1 cs).map encS = M at *
        refine ⟨fun h => by omega, fun _ => ⟨qao ⟨hcr, by omega⟩, RwI M, Rwm M, ⟨0, rfl, by omega⟩, ?_⟩⟩
        rintro ys _ ⟨j, rfl, hj⟩
        have hE : ∀ y, Rwm M [.int (j : Int), y] = M.length - j := fun y => rfl
        have ej : IntKind.wrap .i64 ((j : Int) + 1) = ((j + 1 : Nat) : Int) := by rw [wrap_i64 (n := (j : Int) + 1) (by omega) (by omega)]; omega
        have htl : ((rowL M).take j).length ≤ M.length := by rw [List.length_take]; omega
        by_cases hjl : j < M.length
        · have g := zvn M hjl
          have hm : (M.getD j []).length ≤ 16 := hel _ (by rw [List.getD_eq_getElem?_getD, List.getElem?_eq_getElem hjl]; exact List.getElem_mem hjl)
          simp only [Tree.den, E.den, P1.den, P2.den, P3.den, qa, qb, qc, qd, qe, qf, qg, qh, zac, zab, zad, zaa, zae, TV.cell, zah, zai, zag, zaf, qi, qj, qk, ql, qm, qn, ne_eq, qo, qp, forall_eq, qs, qt, Int.reduceToNat, qu, exists_eq_left', zaj, zao, zaq, zan, zap, zam, zal, zar, qv, qq, qr, zak, hE, ej, zgq, zbc, g, z3x, zaw, zrn, zbo]
          refine ⟨fun _ => ⟨by omega, by omega, z2z (by omega), by omega, ⟨j + 1, ?_, by omega⟩, ?_⟩, fun h => by omega⟩
          · rw [z16 hjl]
          · simp only [Rwm, List.getD_cons_zero, zac]; omega
        · simp only [Tree.den, E.den, P1.den, P2.den, P3.den, qa, qb, qc, qd, qe, qf, qg, qh, zac, zab, zad, zaa, zae, TV.cell, zah, zai, zag, zaf, qi, qj, qk, ql, qm, qn, ne_eq, qo, qp, forall_eq, qs, qt, Int.reduceToNat, qu, exists_eq_left', zaj, zao, zaq, zan, zap, zam, zal, zar, qv, qq, qr, zak, hE, ej, zgq, zbc, zaw]
          refine ⟨fun h => by omega, fun _ => hfin _ ?_⟩
          rw [List.take_of_length_le (by omega)])) rfl
def rglsL : Law := ⟨fun ts => ∃ (l : List Int) (k : Bool), ts = [ints l, .bool k] ∧ (Byte l ∧ l.length ≤ 10000), fun ts z₀ => ∀ (l : List Int) (k : Bool), ts = [ints l, .bool k] → z₀ = zit (decZ l k)⟩
theorem rgls_pre {l : List Int} {k : Bool} (h : Byte l ∧ l.length ≤ 10000) : rglsL.pre [ints l, .bool k] := ⟨l, k, rfl, h⟩
theorem rgls_fin {l : List Int} {k : Bool} {z₀ : TV} (h : z₀ = zit (decZ l k)) : rglsL.post [ints l, .bool k] z₀ := fun l₁ k₁ e => by
  simp only [List.cons.injEq, TV.str.injEq, TV.int.injEq, TV.bool.injEq, TV.agg.injEq, TV.list.injEq, zat, and_true, true_and, and_assoc] at e; obtain ⟨rfl, rfl⟩ := e
  exact h
theorem rgls_all {l : List Int} {k : Bool} {Q : TV → Prop} : (∀ z₀, rglsL.post [ints l, .bool k] z₀ → Q z₀) ↔ Q (zit (decZ l k)) := ⟨fun h => h _ (rgls_fin rfl), fun h z₀ hr => by rw [hr _ _ rfl]; exact h⟩
theorem rgls_c (k : Nat) : Contract Tryd.prog (mkEnv globT []) gtabU (znk k) rglsL.pre rglsL.post := Contract.env (Γ := mkEnv globT [charsL, rtextL, rbackL, rwidthL, rcwL, rsplitL]) (zwy (fun _ => rfl) (fun s hs => by
    simp only [cx_ref53_Glyphs, List.mem_cons, List.not_mem_nil, or_false] at hs
    rcases hs with rfl | rfl | rfl | rfl | rfl | rfl
    · exact Contract.inEnv rfl ((zig 0).gt za3) rfl
    · exact Contract.inEnv rfl ((rtext_c 1).gt za3) rfl
    · exact Contract.inEnv rfl ((rback_c 2).gt za3) rfl
    · exact Contract.inEnv rfl (zpf 3) rfl
    · exact Contract.inEnv rfl (rcw_c 4) rfl
    · exact Contract.inEnv rfl (rsplit_c 5) rfl) k (by
  rintro ts hl ⟨l, k, rfl, hp⟩
  have hfin : ∀ z₀ : TV, z₀ = zit (decZ l k) → rglsL.post [ints l, .bool k] z₀ := fun z₀ h => rgls_fin h
  generalize rglsL.post [ints l, .bool k] = R at hfin ⊢
  unfold tr_ref53_Glyphs
  obtain ⟨hby, hlen⟩ := hp
  cases k with
  | false =>
    have hd : decZ l false = textZ l := rfl
    rw [hd] at hfin
    cases hx : textZ l with
    | none =>
      rw [hx] at hfin
      have hT := zbq hx
      simp only [Tree.den, E.den, P1.den, P2.den, P3.den, qa, qb, qc, qd, qe, qf, qg, qh, zac, zab, zad, zaa, zae, TV.cell, zah, zai, zag, zaf, qi, qj, qk, ql, qm, qn, ne_eq, qo, qp, forall_eq, qs, qt, Int.reduceToNat, qu, exists_eq_left', zuc, hT]
      exact ⟨fun h => (by simp at h), fun _ => ⟨zos ⟨hby, by omega⟩, fun _ => hfin _ rfl, fun h => absurd h (by simp)⟩⟩
    | some o =>
      rw [hx] at hfin
      have hol := z0i hx
      have hT := zde hx
      unfold zit at hfin
      dsimp only at hfin
      have hw1 := wordLen hol
      simp only [Tree.den, E.den, P1.den, P2.den, P3.den, qa, qb, qc, qd, qe, qf, qg, qh, zac, zab, zad, zaa, zae, TV.cell, zah, zai, zag, zaf, qi, qj, qk, ql, qm, qn, ne_eq, qo, qp, forall_eq, qs, qt, Int.reduceToNat, qu, exists_eq_left', zuc, hT]
      simp only [Tree.den, E.den, P1.den, P2.den, P3.den, qa, qb, qc, qd, qe, qf, qg, qh, zac, zab, zad, zaa, zae, TV.cell, zah, zai, zag, zaf, qi, qj, qk, ql, qm, qn, ne_eq, qo, qp, forall_eq, qs, qt, Int.reduceToNat, qu, exists_eq_left', zaj, zao, zaq, zan, zap, zam, zal, zar, qv, qq, qr, zak, zjn, zcs, zft, zbx]
      generalize hcs : o.map chZ = cs at *
      have hcl : cs.length = o.length := by rw [← hcs, List.length_map]
      have hcr : Run cs := by rw [← hcs]; exact (zps o).run
      refine ⟨fun h => (by simp at h), fun _ => ⟨zos ⟨hby, by omega⟩, fun h => absurd trivial h, fun _ => ⟨zja (by omega), GwI cs, Gwm cs, ⟨0, rfl, by omega, by rw [List.drop_zero]⟩, ?_⟩⟩⟩
      rintro xs _ ⟨i, rfl, hi, he⟩
      have hD : Gwm cs [.int (i : Int)] = cs.length - i := rfl
      have e64 : IntKind.wrap .i64 ((i : Int) + 1) = ((i + 1 : Nat) : Int) := by rw [wrap_i64 (n := (i : Int) + 1) (by omega) (by omega)]; omega
      by_cases hic : i < cs.length
      · rw [z02 hic] at he
        by_cases hw : za5 (cs.getD i 0) < 0
        · rw [decide_eq_true hw, Bool.true_or] at he
          rw [if_pos he] at hfin
          simp only [Tree.den, E.den, P1.den, P2.den, P3.den, qa, qb, qc, qd, qe, qf, qg, qh, zac, zab, zad, zaa, zae, TV.cell, zah, zai, zag, zaf, qi, qj, qk, ql, qm, qn, ne_eq, qo, qp, forall_eq, qs, qt, Int.reduceToNat, qu, exists_eq_left', zaj, zao, zaq, zan, zap, zam, zal, zar, qv, qq, qr, zak, hD, e64, zbx]
          exact ⟨fun _ => ⟨by omega, by omega, zdf trivial, fun _ => hfin _ rfl, fun h => absurd hw h⟩, fun h => by omega⟩
        · rw [decide_eq_false hw, Bool.false_or] at he
          simp only [Tree.den, E.den, P1.den, P2.den, P3.den, qa, qb, qc, qd, qe, qf, qg, qh, zac, zab, zad, zaa, zae, TV.cell, zah, zai, zag, zaf, qi, qj, qk, ql, qm, qn, ne_eq, qo, qp, forall_eq, qs, qt, Int.reduceToNat, qu, exists_eq_left', zaj, zao, zaq, zan, zap, zam, zal, zar, qv, qq, qr, zak, hD, e64, zbx]
          refine ⟨fun _ => ⟨by omega, by omega, zdf trivial, fun h => absurd h hw, fun _ => ⟨⟨i + 1, rfl, by omega, he⟩, ?_⟩⟩, fun h => by omega⟩
          simp only [Gwm, List.getD_cons_zero, zac]; omega
      · rw [List.drop_of_length_le (by omega)] at he
        rw [if_neg (by rw [he]; simp [badR])] at hfin
        have hrl := z1v ((za1 cs).map encS)
        have hsl := zhv cs
        have hel := z63 cs
        have hrg : rowG cs = rowL ((za1 cs).map encS) := rfl
        rw [hrg] at hfin
        have hLl : ((za1 cs).map encS).length = (za1 cs).length := List.length_map _
        simp only [Tree.den, E.den, P1.den, P2.den, P3.den, qa, qb, qc, qd, qe, qf, qg, qh, zac, zab, zad, zaa, zae, TV.cell, zah, zai, zag, zaf, qi, qj, qk, ql, qm, qn, ne_eq, qo, qp, forall_eq, qs, qt, Int.reduceToNat, qu, exists_eq_left', zaj, zao, zaq, zan, zap, zam, zal, zar, qv, qq, qr, zak, hD, z3e, zgq, zbc]
        generalize (za1 cs).map encS = M at *
        refine ⟨fun h => by omega, fun _ => ⟨z3o ⟨hcr, by omega⟩, RwI M, Rwm M, ⟨0, rfl, by omega⟩, ?_⟩⟩
        rintro ys _ ⟨j, rfl, hj⟩
        have hE : ∀ y, Rwm M [.int (j : Int), y] = M.length - j := fun y => rfl
        have ej : IntKind.wrap .i64 ((j : Int) + 1) = ((j + 1 : Nat) : Int) := by rw [wrap_i64 (n := (j : Int) + 1) (by omega) (by omega)]; omega
        have htl : ((rowL M).take j).length ≤ M.length := by rw [List.length_take]; omega
        by_cases hjl : j < M.length
        · have g := zvn M hjl
          have hm : (M.getD j []).length ≤ 16 := hel _ (by rw [List.getD_eq_getElem?_getD, List.getElem?_eq_getElem hjl]; exact List.getElem_mem hjl)
          simp only [Tree.den, E.den, P1.den, P2.den, P3.den, qa, qb, qc, qd, qe, qf, qg, qh, zac, zab, zad, zaa, zae, TV.cell, zah, zai, zag, zaf, qi, qj, qk, ql, qm, qn, ne_eq, qo, qp, forall_eq, qs, qt, Int.reduceToNat, qu, exists_eq_left', zaj, zao, zaq, zan, zap, zam, zal, zar, qv, qq, qr, zak, hE, ej, zgq, zbc, g, qbx, zaw, zrn, zbo]
          refine ⟨fun _ => ⟨by omega, by omega, by omega, by omega, qbw (by omega), by omega, ⟨j + 1, ?_, by omega⟩, ?_⟩, fun h => by omega⟩
          · rw [z16 hjl]
          · simp only [Rwm, List.getD_cons_zero, zac]; omega
        · simp only [Tree.den, E.den, P1.den, P2.den, P3.den, qa, qb, qc, qd, qe, qf, qg, qh, zac, zab, zad, zaa, zae, TV.cell, zah, zai, zag, zaf, qi, qj, qk, ql, qm, qn, ne_eq, qo, qp, forall_eq, qs, qt, Int.reduceToNat, qu, exists_eq_left', zaj, zao, zaq, zan, zap, zam, zal, zar, qv, qq, qr, zak, hE, ej, zgq, zbc, zaw]
          refine ⟨fun h => by omega, fun _ => hfin _ ?_⟩
          rw [List.take_of_length_le (by omega)]
  | true =>
    have hd : decZ l true = backZ l := rfl
    rw [hd] at hfin
    cases hx : backZ l with
    | none =>
      rw [hx] at hfin
      have hT := zes hx
      simp only [Tree.den, E.den, P1.den, P2.den, P3.den, qa, qb, qc, qd, qe, qf, qg, qh, zac, zab, zad, zaa, zae, TV.cell, zah, zai, zag, zaf, qi, qj, qk, ql, qm, qn, ne_eq, qo, qp, forall_eq, qs, qt, Int.reduceToNat, qu, exists_eq_left', z1d, hT]
      exact ⟨fun _ => ⟨z0y ⟨hby, by omega⟩, fun _ => hfin _ rfl, fun h => absurd h (by simp)⟩, fun h => (by simp at h)⟩
    | some o =>
      rw [hx] at hfin
      have hol := back_len hx
      have hT := zel hx
      unfold zit at hfin
      dsimp only at hfin
      have hw1 := wordLen hol
      simp only [Tree.den, E.den, P1.den, P2.den, P3.den, qa, qb, qc, qd, qe, qf, qg, qh, zac, zab, zad, zaa, zae, TV.cell, zah, zai, zag, zaf, qi, qj, qk, ql, qm, qn, ne_eq, qo, qp, forall_eq, qs, qt, Int.reduceToNat, qu, exists_eq_left', z1d, hT]
      simp only [Tree.den, E.den, P1.den, P2.den, P3.den, qa, qb, qc, qd, qe, qf, qg, qh, zac, zab, zad, zaa, zae, TV.cell, zah, zai, zag, zaf, qi, qj, qk, ql, qm, qn, ne_eq, qo, qp, forall_eq, qs, qt, Int.reduceToNat, qu, exists_eq_left', zaj, zao, zaq, zan, zap, zam, zal, zar, qv, qq, qr, zak, zjn, zcs, zft, zbx]
      generalize hcs : o.map chZ = cs at *
      have hcl : cs.length = o.length := by rw [← hcs, List.length_map]
      have hcr : Run cs := by rw [← hcs]; exact (zps o).run
      refine ⟨fun _ => ⟨z0y ⟨hby, by omega⟩, fun h => absurd trivial h, fun _ => ⟨zja (by omega), GwI cs, Gwm cs, ⟨0, rfl, by omega, by rw [List.drop_zero]⟩, ?_⟩⟩, fun h => (by simp at h)⟩
      rintro xs _ ⟨i, rfl, hi, he⟩
      have hD : Gwm cs [.int (i : Int)] = cs.length - i := rfl
      have e64 : IntKind.wrap .i64 ((i : Int) + 1) = ((i + 1 : Nat) : Int) := by rw [wrap_i64 (n := (i : Int) + 1) (by omega) (by omega)]; omega
      by_cases hic : i < cs.length
      · rw [z02 hic] at he
        by_cases hw : za5 (cs.getD i 0) < 0
        · rw [decide_eq_true hw, Bool.true_or] at he
          rw [if_pos he] at hfin
          simp only [Tree.den, E.den, P1.den, P2.den, P3.den, qa, qb, qc, qd, qe, qf, qg, qh, zac, zab, zad, zaa, zae, TV.cell, zah, zai, zag, zaf, qi, qj, qk, ql, qm, qn, ne_eq, qo, qp, forall_eq, qs, qt, Int.reduceToNat, qu, exists_eq_left', zaj, zao, zaq, zan, zap, zam, zal, zar, qv, qq, qr, zak, hD, e64, zbx]
          exact ⟨fun _ => ⟨by omega, by omega, zdf trivial, fun _ => hfin _ rfl, fun h => absurd hw h⟩, fun h => by omega⟩
        · rw [decide_eq_false hw, Bool.false_or] at he
          simp only [Tree.den, E.den, P1.den, P2.den, P3.den, qa, qb, qc, qd, qe, qf, qg, qh, zac, zab, zad, zaa, zae, TV.cell, zah, zai, zag, zaf, qi, qj, qk, ql, qm, qn, ne_eq, qo, qp, forall_eq, qs, qt, Int.reduceToNat, qu, exists_eq_left', zaj, zao, zaq, zan, zap, zam, zal, zar, qv, qq, qr, zak, hD, e64, zbx]
          refine ⟨fun _ => ⟨by omega, by omega, zdf trivial, fun h => absurd h hw, fun _ => ⟨⟨i + 1, rfl, by omega, he⟩, ?_⟩⟩, fun h => by omega⟩
          simp only [Gwm, List.getD_cons_zero, zac]; omega
      · rw [List.drop_of_length_le (by omega)] at he
        rw [if_neg (by rw [he]; simp [badR])] at hfin
        have hrl := z1v ((za1 cs).map encS)
        have hsl := zhv cs
        have hel := z63 cs
        have hrg : rowG cs = rowL ((za1 cs).map encS) := rfl
        rw [hrg] at hfin
        have hLl : ((za1 cs).map encS).length = (za1 cs).length := List.length_map _
        simp only [Tree.den, E.den, P1.den, P2.den, P3.den, qa, qb, qc, qd, qe, qf, qg, qh, zac, zab, zad, zaa, zae, TV.cell, zah, zai, zag, zaf, qi, qj, qk, ql, qm, qn, ne_eq, qo, qp, forall_eq, qs, qt, Int.reduceToNat, qu, exists_eq_left', zaj, zao, zaq, zan, zap, zam, zal, zar, qv, qq, qr, zak, hD, z3e, zgq, zbc]
        generalize (za1 cs).map encS = M at *
        refine ⟨fun h => by omega, fun _ => ⟨z3o ⟨hcr, by omega⟩, RwI M, Rwm M, ⟨0, rfl, by omega⟩, ?_⟩⟩
        rintro ys _ ⟨j, rfl, hj⟩
        have hE : ∀ y, Rwm M [.int (j : Int), y] = M.length - j := fun y => rfl
        have ej : IntKind.wrap .i64 ((j : Int) + 1) = ((j + 1 : Nat) : Int) := by rw [wrap_i64 (n := (j : Int) + 1) (by omega) (by omega)]; omega
        have htl : ((rowL M).take j).length ≤ M.length := by rw [List.length_take]; omega
        by_cases hjl : j < M.length
        · have g := zvn M hjl
          have hm : (M.getD j []).length ≤ 16 := hel _ (by rw [List.getD_eq_getElem?_getD, List.getElem?_eq_getElem hjl]; exact List.getElem_mem hjl)
          simp only [Tree.den, E.den, P1.den, P2.den, P3.den, qa, qb, qc, qd, qe, qf, qg, qh, zac, zab, zad, zaa, zae, TV.cell, zah, zai, zag, zaf, qi, qj, qk, ql, qm, qn, ne_eq, qo, qp, forall_eq, qs, qt, Int.reduceToNat, qu, exists_eq_left', zaj, zao, zaq, zan, zap, zam, zal, zar, qv, qq, qr, zak, hE, ej, zgq, zbc, g, qbx, zaw, zrn, zbo]
          refine ⟨fun _ => ⟨by omega, by omega, by omega, by omega, qbw (by omega), by omega, ⟨j + 1, ?_, by omega⟩, ?_⟩, fun h => by omega⟩
          · rw [z16 hjl]
          · simp only [Rwm, List.getD_cons_zero, zac]; omega
        · simp only [Tree.den, E.den, P1.den, P2.den, P3.den, qa, qb, qc, qd, qe, qf, qg, qh, zac, zab, zad, zaa, zae, TV.cell, zah, zai, zag, zaf, qi, qj, qk, ql, qm, qn, ne_eq, qo, qp, forall_eq, qs, qt, Int.reduceToNat, qu, exists_eq_left', zaj, zao, zaq, zan, zap, zam, zal, zar, qv, qq, qr, zak, hE, ej, zgq, zbc, zaw]
          refine ⟨fun h => by omega, fun _ => hfin _ ?_⟩
          rw [List.take_of_length_le (by omega)])) rfl

def glyZ (g : Gl) : Int := if ¬ zbf g.s = 0 then 3 else if ¬ g.w = (zc7 g.s == 2) ∨ g.y < 0 ∨ 3 < g.y ∨ (g.y = 3 ∧ ¬ g.s = [42]) then 9 else 0
def rglL : Law := ⟨fun ts => ∃ (s : List UInt8) (w : Bool) (y : Int), ts = [.agg [.str s, .bool w, .int y]] ∧ (s.length ≤ 1000000), fun ts z₀ => ∀ (s : List UInt8) (w : Bool) (y : Int), ts = [.agg [.str s, .bool w, .int y]] → z₀ = .int (glyZ ⟨s, w, y⟩)⟩
theorem rgl_pre {s : List UInt8} {w : Bool} {y : Int} (h : s.length ≤ 1000000) : rglL.pre [.agg [.str s, .bool w, .int y]] := ⟨s, w, y, rfl, h⟩
theorem qb0 {s : List UInt8} {w : Bool} {y : Int} {z₀ : TV} (h : z₀ = .int (glyZ ⟨s, w, y⟩)) : rglL.post [.agg [.str s, .bool w, .int y]] z₀ := fun s₁ w₁ y₁ e => by
  simp only [List.cons.injEq, TV.str.injEq, TV.int.injEq, TV.bool.injEq, TV.agg.injEq, TV.list.injEq, zat, and_true, true_and, and_assoc] at e; obtain ⟨rfl, rfl, rfl⟩ := e
  exact h
theorem rgl_all {s : List UInt8} {w : Bool} {y : Int} {Q : TV → Prop} : (∀ z₀, rglL.post [.agg [.str s, .bool w, .int y]] z₀ → Q z₀) ↔ Q (.int (glyZ ⟨s, w, y⟩)) := ⟨fun h => h _ (qb0 rfl), fun h z₀ hr => by rw [hr _ _ _ rfl]; exact h⟩
theorem rgl_c (k : Nat) : Contract Tryd.prog (mkEnv globT []) gtabU (zpw k) rglL.pre rglL.post := Contract.env (Γ := mkEnv globT [rcheckL, rcwL]) (zxp (fun _ => rfl) (fun s hs => by
    simp only [cx_ref15_Glyph, List.mem_cons, List.not_mem_nil, or_false] at hs
    rcases hs with rfl | rfl
    · exact Contract.inEnv rfl (z66 0) rfl
    · exact Contract.inEnv rfl (rcw_c 1) rfl) k (by
  rintro ts hl ⟨s, w, y, rfl, hp⟩
  have hfin : ∀ z₀ : TV, z₀ = .int (glyZ ⟨s, w, y⟩) → rglL.post [.agg [.str s, .bool w, .int y]] z₀ := fun z₀ h => qb0 h
  generalize rglL.post [.agg [.str s, .bool w, .int y]] = R at hfin ⊢
  unfold tr_ref15_Glyph
  unfold glyZ at hfin
  dsimp only at hfin
  simp only [Tree.den, E.den, P1.den, P2.den, P3.den, qa, qb, qc, qd, qe, qf, qg, qh, zac, zab, zad, zaa, zae, TV.cell, zah, zai, zag, zaf, qi, qj, qk, ql, qm, qn, ne_eq, qo, qp, forall_eq, qs, qt, Int.reduceToNat, qu, exists_eq_left', zw8, qbx]
  refine ⟨zxg hp, fun h => hfin _ (by rw [if_pos h]), fun h => ⟨qbw hp, fun h1 => hfin _ ?_, fun h1 => ⟨fun h2 => hfin _ ?_, fun h2 => ⟨fun h3 => hfin _ ?_, fun h3 => ⟨fun h4 => ⟨fun h5 => hfin _ ?_, fun h5 => hfin _ ?_⟩, fun h4 => hfin _ ?_⟩⟩⟩⟩⟩
  · rw [if_neg (by simpa using h), if_pos (.inl h1)]
  · rw [if_neg (by simpa using h), if_pos (.inr (.inl h2))]
  · rw [if_neg (by simpa using h), if_pos (.inr (.inr (.inl h3)))]
  · rw [if_neg (by simpa using h), if_pos (.inr (.inr (.inr ⟨h4, h5⟩)))]
  · rw [if_neg (by simpa using h), if_neg (by rintro (e | e | e | ⟨_, e⟩) <;> first | exact e h1 | omega | exact e h5)]
  · rw [if_neg (by simpa using h), if_neg (by rintro (e | e | e | ⟨e, _⟩) <;> first | exact e h1 | omega)])) rfl
def SwI (a b : List Gl) (xs : List TV) : Prop := ∃ i : Nat, xs = [.int i] ∧ i ≤ a.length ∧ a.take i = b.take i
def Swm (a : List Gl) (xs : List TV) : Nat := a.length - (xs.getD 0 (.int 0)).asInt.toNat
noncomputable instance : DecidableEq Gl := fun _ _ => Classical.propDecidable _
def srowL : Law := ⟨fun ts => ∃ (a : List Gl) (b : List Gl), ts = [glsT a, glsT b] ∧ (a.length ≤ 1000000), fun ts z₀ => ∀ (a : List Gl) (b : List Gl), ts = [glsT a, glsT b] → z₀ = .bool (decide (a = b))⟩
theorem srow_pre {a : List Gl} {b : List Gl} (h : a.length ≤ 1000000) : srowL.pre [glsT a, glsT b] := ⟨a, b, rfl, h⟩
theorem srow_fin {a : List Gl} {b : List Gl} {z₀ : TV} (h : z₀ = .bool (decide (a = b))) : srowL.post [glsT a, glsT b] z₀ := fun a₁ b₁ e => by
  simp only [List.cons.injEq, TV.str.injEq, TV.int.injEq, TV.bool.injEq, TV.agg.injEq, TV.list.injEq, zat, and_true, true_and, and_assoc, zzx] at e; obtain ⟨rfl, rfl⟩ := e
  exact h
theorem srow_all {a : List Gl} {b : List Gl} {Q : TV → Prop} : (∀ z₀, srowL.post [glsT a, glsT b] z₀ → Q z₀) ↔ Q (.bool (decide (a = b))) := ⟨fun h => h _ (srow_fin rfl), fun h z₀ hr => by rw [hr _ _ rfl]; exact h⟩
theorem zsp {l : List Gl} {i : Nat} (h : i < l.length) : l.take (i + 1) = l.take i ++ [gg l i] := by
  unfold gg
  rw [List.take_succ_eq_append_getElem h, List.getD_eq_getElem?_getD, List.getElem?_eq_getElem h]
  rfl
theorem srow_c (k : Nat) : Contract Tryd.prog (mkEnv globT []) gtabU (zh1 k) srowL.pre srowL.post := Contract.env (Γ := mkEnv globT []) (zua (fun _ => rfl) (fun s hs => by
    cases hs) k (by
  rintro ts hl ⟨a, b, rfl, hp⟩
  have hfin : ∀ z₀ : TV, z₀ = .bool (decide (a = b)) → srowL.post [glsT a, glsT b] z₀ := fun z₀ h => srow_fin h
  generalize srowL.post [glsT a, glsT b] = R at hfin ⊢
  unfold tr_ref15_SameRow
  simp only [Tree.den, E.den, P1.den, P2.den, P3.den, qa, qb, qc, qd, qe, qf, qg, qh, zac, zab, zad, zaa, zae, TV.cell, zah, zai, zag, zaf, qi, qj, qk, ql, qm, qn, ne_eq, qo, qp, forall_eq, qs, qt, Int.reduceToNat, qu, exists_eq_left', zbo, zaw, List.length_map]
  refine ⟨fun h => hfin _ ?_, fun h => ⟨SwI a b, Swm a, ⟨0, rfl, by omega, rfl⟩, ?_⟩⟩
  · rw [decide_eq_false fun e => h (by rw [e])]
  rintro xs _ ⟨i, rfl, hi, he⟩
  have hD : Swm a [.int (i : Int)] = a.length - i := rfl
  have e64 : IntKind.wrap .i64 ((i : Int) + 1) = ((i + 1 : Nat) : Int) := by rw [wrap_i64 (n := (i : Int) + 1) (by omega) (by omega)]; omega
  by_cases hia : i < a.length
  · have hib : i < b.length := by omega
    simp only [Tree.den, E.den, P1.den, P2.den, P3.den, qa, qb, qc, qd, qe, qf, qg, qh, zac, zab, zad, zaa, zae, TV.cell, zah, zai, zag, zaf, qi, qj, qk, ql, qm, qn, ne_eq, qo, qp, forall_eq, qs, qt, Int.reduceToNat, qu, exists_eq_left', hD, e64, zbo, zaw, List.length_map, Int.toNat_natCast, zi7 hia, zi7 hib, glT]
    have ga := zsp hia
    have gb := zsp hib
    by_cases hg : gg a i = gg b i
    · have go : SwI a b [.int ((i + 1 : Nat) : Int)] ∧ Swm a [.int ((i + 1 : Nat) : Int)] < a.length - i := by
        refine ⟨⟨i + 1, rfl, by omega, by rw [ga, gb, he, hg]⟩, ?_⟩
        simp only [Swm, List.getD_cons_zero, zac]; omega
      rw [hg]
      refine ⟨fun _ => ⟨by omega, by omega, by omega, by omega, ?_⟩, fun h => by omega⟩
      simp [zab]
      exact go
    · have no : decide (a = b) = false := decide_eq_false fun e => hg (by rw [e])
      rw [no] at hfin
      refine ⟨fun _ => ⟨by omega, by omega, by omega, by omega, fun _ => hfin _ rfl, fun h => ?_⟩, fun h => by omega⟩
      exfalso
      apply hg
      generalize gg a i = x at *
      generalize gg b i = y at *
      rcases x with ⟨s1, w1, y1⟩
      rcases y with ⟨s2, w2, y2⟩
      rw [Gl.mk.injEq]
      by_cases e1 : s1 = s2 <;> by_cases e2 : w1 = w2 <;> by_cases e3 : y1 = y2 <;> simp_all [TV.asBool]
  · have : i = a.length := by omega
    subst this
    simp only [Tree.den, E.den, P1.den, P2.den, P3.den, qa, qb, qc, qd, qe, qf, qg, qh, zac, zab, zad, zaa, zae, TV.cell, zah, zai, zag, zaf, qi, qj, qk, ql, qm, qn, ne_eq, qo, qp, forall_eq, qs, qt, Int.reduceToNat, qu, exists_eq_left', hD, zbo, zaw, List.length_map]
    refine ⟨fun h => by omega, fun _ => hfin _ ?_⟩
    rw [List.take_of_length_le (Nat.le_refl _), List.take_of_length_le (by omega)] at he
    rw [decide_eq_true he])) rfl

def glT' (d : Option (List Int)) : List Gl × Int := match d with
  | none => ([], 17)
  | some o => if badR (o.map chZ) = true then ([], 17) else (rowG (o.map chZ), 0)
theorem z4s (d : Option (List Int)) : zit d = .agg [glsT (glT' d).1, .int (glT' d).2] := by
  unfold zit glT'
  cases d with
  | none => rfl
  | some o => dsimp only; split <;> rfl
theorem glT_len {l : List Int} (k : Bool) : (glT' (decZ l k)).1.length ≤ 4 * l.length := by
  unfold glT'
  cases hd : decZ l k with
  | none => simp
  | some o =>
    have ho : o.length ≤ 4 * l.length := by
      unfold decZ at hd
      cases k with
      | true => rw [if_pos rfl] at hd; exact back_len hd
      | false => rw [if_neg (by decide)] at hd; exact z0i hd
    dsimp only
    split
    · simp
    · have h1 := zhv (o.map chZ)
      rw [List.length_map] at h1
      unfold rowG
      rw [z1v, List.length_map]
      omega
def z3b (ts : List TV) : Prop := ∃ (l : List Int) (k : Bool), ts = [ints l, .bool k] ∧ Byte l
theorem bytesBoolP_of {t0 t1 : TV} (h0 : OkA false [.slice false [.int .u8]] t0) (h1 : OkA false [.bool] t1) : z3b [t0, t1] := by
  obtain ⟨l, rfl, _, hl⟩ := h0.ints
  obtain ⟨k, rfl⟩ := h1.bool
  exact ⟨l, k, rfl, hl⟩
theorem lawGlyphs_c (k : Nat) : Contract Tryd.prog (mkEnv globT []) gtabU (zg6 k) (trueL z3b).pre (trueL z3b).post := Contract.env (Γ := mkEnv globT [settL, awakeL, glsL, rglsL, srowL]) (zjp (fun _ => rfl) (fun s hs => by
    simp only [cx_law53_BraillelineGlyphs, List.mem_cons, List.not_mem_nil, or_false] at hs
    rcases hs with rfl | rfl | rfl | rfl | rfl
    · exact Contract.inEnv rfl ((z45 0).gt za3) rfl
    · exact Contract.inEnv rfl ((ze5 1).gt za3) rfl
    · exact Contract.inEnv rfl (gls_c 2) rfl
    · exact Contract.inEnv rfl (rgls_c 3) rfl
    · exact Contract.inEnv rfl (srow_c 4) rfl) k (by
  rintro ts hl ⟨l, k, rfl, hby⟩
  unfold tr_law53_BraillelineGlyphs
  have hgl := glT_len (l := l) k
  have q1 : l.length ≤ 60 → glsL.pre [ints l, .agg [.int 100, .bool false, .bool false, .int 0, .bool k, .int 40]] := fun h => gls_pre ⟨hby, by omega⟩
  have q2 : l.length ≤ 60 → rglsL.pre [ints l, .bool k] := fun h => rgls_pre ⟨hby, by omega⟩
  simp only [Tree.den, E.den, P1.den, P2.den, P3.den, qa, qb, qc, qd, qe, qf, qg, qh, zac, zab, zad, zaa, zae, TV.cell, zah, zai, zag, zaf, qi, qj, qk, ql, qm, qn, ne_eq, qo, qp, forall_eq, qs, qt, Int.reduceToNat, qu, exists_eq_left', za2, zku, setT, gls_all, rgls_all, z4s, srow_all]
  simp only [Tree.den, E.den, P1.den, P2.den, P3.den, qa, qb, qc, qd, qe, qf, qg, qh, zac, zab, zad, zaa, zae, TV.cell, zah, zai, zag, zaf, qi, qj, qk, ql, qm, qn, ne_eq, qo, qp, forall_eq, qs, qt, Int.reduceToNat, qu, exists_eq_left', zaj, zao, zaq, zan, zap, zam, zal, zar, qv, qq, qr, zak, za2, zku, setT, gls_all, rgls_all, z4s, srow_all, decide_true]
  refine ⟨fun _ => ⟨za0, rfl⟩, fun h => ⟨zo8 trivial, q1 (by omega), q2 (by omega), srow_pre (by omega), ?_⟩⟩
  repeat' (first | exact za0 | exact rfl | (refine ⟨?_, ?_⟩) | (intro h; first | contradiction | (exfalso; exact h trivial) | (exfalso; exact h rfl) | skip)))) rfl

theorem runesS_fin {s : List UInt8} (h : zbl s) : Go.Proofs.YtbeelajedknohaaDoor.fin (bs s) = zbj s := by unfold zbj; exact (zej h).2.2.2
theorem dec_br {l : List Gl} (h : VG l) (k : Bool) : decZ (brC l k) k = some (zbg l) := by
  unfold decZ brC
  cases k with
  | true =>
    rw [if_pos rfl, if_pos rfl]
    exact zva (zbu _) zq0
  | false =>
    rw [if_neg (by decide), if_neg (by decide), zpd h]
    exact text_cells zq0
theorem prop_row {l : List Gl} (h : ∀ g ∈ l, zbf g.s = 0) : zbg l = (l.map fun g => zbj g.s).flatten ∧ VG l := by
  have hv : VG l := fun g hg => (check_iff.1 (h g hg)).1
  refine ⟨?_, hv⟩
  rw [zf8 hv, List.flatMap_def]
  congr 1
  exact List.map_congr_left fun g hg => runesS_fin (hv g hg)
theorem cl_good {c : List Int} (h : Cl c) : badR c = false := by
  obtain ⟨b, ms, rfl, h1, h2, h3⟩ := h
  unfold badR
  rw [List.any_eq_false]
  intro r hr
  rcases List.mem_cons.1 hr with rfl | hr
  · simp; omega
  · have := zfp (h2 r hr)
    simp; omega
theorem bad_flat {cs : List (List Int)} (h : ∀ c ∈ cs, Cl c) : badR cs.flatten = false := by
  unfold badR
  rw [List.any_eq_false]
  intro r hr
  obtain ⟨c, hc, hr⟩ := List.mem_flatten.1 hr
  have := cl_good (h c hc)
  unfold badR at this
  rw [List.any_eq_false] at this
  exact this r hr
def zyc (l : List Gl) : List Gl := l.map fun g => ⟨g.s, g.w, 0⟩
theorem round_row {l : List Gl} (h : ∀ g ∈ l, zbf g.s = 0 ∧ g.w = (zc7 g.s == 2)) (k : Bool) : glT' (decZ (brC l k) k) = (zyc l, 0) := by
  obtain ⟨h1, hv⟩ := prop_row fun g hg => (h g hg).1
  have hcl : ∀ c ∈ l.map fun g => zbj g.s, Cl c := fun c hc => by
    obtain ⟨g, hg, rfl⟩ := List.mem_map.1 hc
    exact (check_iff.1 (h g hg).1).2
  rw [dec_br hv k]
  unfold glT'
  dsimp only
  rw [zln zq0, h1, if_neg (by rw [bad_flat hcl]; simp)]
  refine Prod.ext ?_ rfl
  dsimp only
  unfold rowG rowL zyc
  rw [split_cls hcl, List.map_map, List.map_map]
  refine List.map_congr_left fun g hg => ?_
  have he : encS (zbj g.s) = g.s := zxb (hv g hg)
  simp only [Function.comp_def, he, (h g hg).2]
def RtI (l : List Gl) (xs : List TV) : Prop := ∃ i : Nat, xs = [.int i, glsT (zyc (l.take i))] ∧ i ≤ l.length ∧ ∀ g ∈ l.take i, glyZ g = 0
def Rtm (l : List Gl) (xs : List TV) : Nat := l.length - (xs.getD 0 (.int 0)).asInt.toNat
theorem plain_snoc (l : List Gl) (g : Gl) : zyc (l ++ [g]) = zyc l ++ [⟨g.s, g.w, 0⟩] := by simp [zyc]
theorem glyZ_zero {g : Gl} (h : glyZ g = 0) : zbf g.s = 0 ∧ g.w = (zc7 g.s == 2) := by
  unfold glyZ at h
  split at h
  · omega
  · rename_i h1
    split at h
    · omega
    · rename_i h2
      exact ⟨Classical.byContradiction h1, Classical.byContradiction fun e => h2 (.inl e)⟩
theorem div_byteG {l : List Int} {us : List (Nat × List Int)} (h : Div l us) : Byte (cellsOf us) := by
  induction h with
  | nil => exact fun b hb => by cases hb
  | @cons l' n c us h t ih =>
    rw [za6]
    intro b hb
    rcases List.mem_append.1 hb with hb | hb
    · rcases h with ⟨r, m, rfl, rfl, rfl⟩ | ⟨s, hs, hb', rfl, rfl⟩
      · exact zsk _ b hb
      · exact zer _ b hb
    · exact ih b hb
theorem brC_byte (l : List Gl) (k : Bool) : Byte (brC l k) := by
  unfold brC
  cases k with
  | true =>
    rw [if_pos rfl]
    exact div_byteG (zbu (zbg l))
  | false =>
    rw [if_neg (by decide)]
    intro b hb
    unfold zbt at hb
    obtain ⟨g, _, hb⟩ := List.mem_flatMap.1 hb
    unfold cg za8 at hb
    obtain ⟨r, _, hb⟩ := List.mem_flatMap.1 hb
    exact zsk _ b hb
theorem lawRoundTrip_c (k : Nat) : Contract Tryd.prog (mkEnv globT []) gtabU (zfm k) (trueL zs3).pre (trueL zs3).post := Contract.env (Γ := mkEnv globT [ofL, settL, awakeL, glsL, rglL, srowL, fineL]) (zia (fun _ => rfl) (fun s hs => by
    simp only [cx_law53_BraillelineRoundTrip, List.mem_cons, List.not_mem_nil, or_false] at hs
    rcases hs with rfl | rfl | rfl | rfl | rfl | rfl | rfl
    · exact Contract.inEnv rfl ((of_c 0).gt za3) rfl
    · exact Contract.inEnv rfl ((z45 1).gt za3) rfl
    · exact Contract.inEnv rfl ((ze5 2).gt za3) rfl
    · exact Contract.inEnv rfl (gls_c 3) rfl
    · exact Contract.inEnv rfl (rgl_c 4) rfl
    · exact Contract.inEnv rfl (srow_c 5) rfl
    · exact Contract.inEnv rfl (fine_c 6) rfl) k (by
  rintro ts hl ⟨l, k, rfl⟩
  unfold tr_law53_BraillelineRoundTrip
  cases hf : fineB l with
  | false =>
    simp only [Tree.den, E.den, P1.den, P2.den, P3.den, qa, qb, qc, qd, qe, qf, qg, qh, zac, zab, zad, zaa, zae, TV.cell, zah, zai, zag, zaf, qi, qj, qk, ql, qm, qn, ne_eq, qo, qp, forall_eq, qs, qt, Int.reduceToNat, qu, exists_eq_left', zfy, hf, za2]
    repeat' (first | exact zew | exact za0 | exact rfl | (refine ⟨?_, ?_⟩) | (intro h; first | contradiction | (exfalso; exact h trivial) | skip))
  | true =>
    obtain ⟨h1, h2, h3, h4⟩ := zim hf
    simp only [Tree.den, E.den, P1.den, P2.den, P3.den, qa, qb, qc, qd, qe, qf, qg, qh, zac, zab, zad, zaa, zae, TV.cell, zah, zai, zag, zaf, qi, qj, qk, ql, qm, qn, ne_eq, qo, qp, forall_eq, qs, qt, Int.reduceToNat, qu, exists_eq_left', zfy, hf, za2, zbo, zaw, List.length_map]
    refine ⟨zew, fun h => (by simp at h), fun _ => ⟨RtI l, Rtm l, ⟨0, rfl, by omega, fun g hg => by simp at hg⟩, ?_⟩⟩
    rintro xs _ ⟨i, rfl, hi, hgo⟩
    have hD : ∀ z, Rtm l [.int (i : Int), z] = l.length - i := fun _ => rfl
    have hpl : (zyc (l.take i)).length ≤ l.length := by unfold zyc; rw [List.length_map, List.length_take]; omega
    by_cases hil : i < l.length
    · have e64 : IntKind.wrap .i64 ((i : Int) + 1) = ((i + 1 : Nat) : Int) := by rw [wrap_i64 (n := (i : Int) + 1) (by omega) (by omega)]; omega
      have hmem : gg l i ∈ l := by
        unfold gg
        rw [List.getD_eq_getElem?_getD, List.getElem?_eq_getElem hil]
        exact List.getElem_mem hil
      have hs4 := h4 _ hmem
      have ht := zsp hil
      simp only [Tree.den, E.den, P1.den, P2.den, P3.den, qa, qb, qc, qd, qe, qf, qg, qh, zac, zab, zad, zaa, zae, TV.cell, zah, zai, zag, zaf, qi, qj, qk, ql, qm, qn, ne_eq, qo, qp, forall_eq, qs, qt, Int.reduceToNat, qu, exists_eq_left', zaj, zao, zaq, zan, zap, zam, zal, zar, qv, qq, qr, zak, hD, e64, zbo, zaw, zi7 hil, glT, rgl_all, zrn, za2]
      refine ⟨fun _ => ⟨by omega, by omega, rgl_pre (by omega), fun _ => ⟨za0, rfl⟩, fun h0 => ⟨by omega, ⟨i + 1, ?_, by omega, fun g hg => ?_⟩, ?_⟩⟩, fun h => by omega⟩
      · rw [ht, plain_snoc]
      · rw [ht] at hg
        rcases List.mem_append.1 hg with hg | hg
        · exact hgo g hg
        · rw [List.mem_singleton.1 hg]; exact h0
      · simp only [Rtm, List.getD_cons_zero, zac]; omega
    · have : i = l.length := by omega
      subst this
      rw [List.take_of_length_le (Nat.le_refl _)] at *
      have hrr := round_row (fun g hg => glyZ_zero (hgo g hg)) k
      have hb := z1x l k
      have hbb := brC_byte l k
      have e : brT l k = .agg [ints (brC l k), ints (brS l k)] := rfl
      have q1 : ofL.pre [glsT l, .agg [.int 100, .bool false, .bool false, .int 0, .bool k, .int 40]] := ztp ⟨by omega, by omega⟩
      have q2 : glsL.pre [ints (brC l k), .agg [.int 100, .bool false, .bool false, .int 0, .bool k, .int 40]] := gls_pre ⟨hbb, by omega⟩
      have q3 : srowL.pre [glsT (zyc l), glsT (zyc l)] := srow_pre (by omega)
      simp only [Tree.den, E.den, P1.den, P2.den, P3.den, qa, qb, qc, qd, qe, qf, qg, qh, zac, zab, zad, zaa, zae, TV.cell, zah, zai, zag, zaf, qi, qj, qk, ql, qm, qn, ne_eq, qo, qp, forall_eq, qs, qt, Int.reduceToNat, qu, exists_eq_left', zaj, zao, zaq, zan, zap, zam, zal, zar, qv, qq, qr, zak, hD, zbo, zaw, za2, zku, setT, zx9, e, gls_all, z4s, hrr, srow_all, decide_true, and_self]
      refine ⟨fun h => by omega, fun _ => ?_⟩
      repeat' (first | exact za0 | exact zo8 trivial | exact q1 | exact q2 | exact q3 | exact rfl | (refine ⟨?_, ?_⟩) | (intro h; first | contradiction | (exfalso; exact h trivial) | (exfalso; exact h rfl) | skip)))) rfl
end Go.Proofs.YtbeelajedknohaaDoor

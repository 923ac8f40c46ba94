/- The contracts of package brailleline: Of, size, Cell, Glyph. -/
import Derived.Test.YtbeelajedknohaaDoorLin
import Derived.Test.YtbeelajedknohaaDoorB1
namespace Go.Proofs.YtbeelajedknohaaDoor
set_option linter.unusedSimpArgs false
set_option linter.unusedVariables false
set_option linter.unusedSectionVars false

def lessL : Law := ⟨fun ts => ∃ (a : Int) (b : Int), ts = [.int a, .int b] ∧ (True), fun ts z₀ => ∀ (a : Int) (b : Int), ts = [.int a, .int b] → z₀ = .bool (decide (a < b))⟩
theorem less_pre {a : Int} {b : Int} (h : True) : lessL.pre [.int a, .int b] := ⟨a, b, rfl, h⟩
theorem less_fin {a : Int} {b : Int} {z₀ : TV} (h : z₀ = .bool (decide (a < b))) : lessL.post [.int a, .int b] z₀ := fun a₁ b₁ e => by
  simp only [List.cons.injEq, TV.str.injEq, TV.int.injEq, TV.bool.injEq, TV.agg.injEq, TV.list.injEq, ints_eq, and_true, true_and, and_assoc] at e; obtain ⟨rfl, rfl⟩ := e
  exact h
theorem less_all {a : Int} {b : Int} {Q : TV → Prop} : (∀ z₀, lessL.post [.int a, .int b] z₀ → Q z₀) ↔ Q (.bool (decide (a < b))) := ⟨fun h => h _ (less_fin rfl), fun h z₀ hr => by rw [hr _ _ rfl]; exact h⟩
theorem less_c (k : Nat) : Contract Tryd.prog (mkEnv globT []) gtab (sn_cmp_Lessint k) lessL.pre lessL.post := Contract.env (Γ := mkEnv globT []) (contract_cmp_Lessint (fun _ => rfl) (fun s hs => by
    cases hs) k (by
  rintro ts hl ⟨a, b, rfl, hp⟩
  have hfin : ∀ z₀ : TV, z₀ = .bool (decide (a < b)) → lessL.post [.int a, .int b] z₀ := fun z₀ h => less_fin h
  generalize lessL.post [.int a, .int b] = R at hfin ⊢
  unfold tr_cmp_Lessint
  simp only [Tree.den, E.den, P1.den, P2.den, P3.den, List.map_cons, List.map_nil, List.cons_append, List.nil_append, List.getD_cons_zero, List.getD_cons_succ, List.getElem?_cons_zero, List.getElem?_cons_succ, asInt_int, asBool_bool, asStr_str, asList_list, cells_agg, TV.cell, pre_zero, pre_succ, post_zero, post_succ, decide_eq_true_eq, decide_eq_false_iff_not, beq_iff_eq, beq_eq_false_iff_ne, Bool.not_eq_true', Bool.not_eq_false', ne_eq, List.length_cons, List.length_nil, forall_eq, Bool.false_eq_true, Bool.true_eq_false, Int.reduceToNat, Option.some.injEq, exists_eq_left']
  repeat' (first | exact hfin _ rfl | (refine ⟨fun h => ?_, fun h => ?_⟩) | contradiction | (exfalso; apply h; trivial)))) rfl

/-! ### Of -/
def srcC (k : Nat) (l : List Gl) : List Int := srcG (fun g => (cg g).length) k l
def OaI (l : List Gl) (xs : List TV) : Prop := ∃ (k : Nat) (c s : List Int), xs = [.int k, ints c, ints s] ∧ k ≤ l.length ∧ cellsG l = c ++ cellsG (l.drop k) ∧ srcC 0 l = s ++ srcC k (l.drop k)
def Oam (l : List Gl) (xs : List TV) : Nat := l.length - (xs.getD 0 (.int 0)).asInt.toNat
def OiI (c s g : List Int) (k : Nat) (xs : List TV) : Prop := ∃ j : Nat, xs = [.int j, ints (c ++ g.take j), ints (s ++ List.replicate j (k : Int))] ∧ j ≤ g.length
def Oim (g : List Int) (xs : List TV) : Nat := g.length - (xs.getD 0 (.int 0)).asInt.toNat
def ObI (l : List Gl) (xs : List TV) : Prop := ∃ (t : List UInt8) (k : Nat) (o : List Int), xs = [.str t, .int k, ints o] ∧ k ≤ l.length ∧ wordG l = t ++ wordG (l.drop k) ∧ srcG ng 0 l = o ++ srcG ng k (l.drop k)
def Obm (l : List Gl) (xs : List TV) : Nat := l.length - (xs.getD 1 (.int 0)).asInt.toNat
def OwI (o : List Int) (n k : Nat) (xs : List TV) : Prop := ∃ j : Nat, xs = [.int j, ints (o ++ List.replicate j (k : Int))] ∧ j ≤ n
def Owm (n : Nat) (xs : List TV) : Nat := n - (xs.getD 0 (.int 0)).asInt.toNat
def OcI (c f o : List Int) (xs : List TV) : Prop := ∃ j : Nat, xs = [.int j, ints (c.take j), ints ((f.map (ownF o)).take j)] ∧ j ≤ c.length
def Ocm (c : List Int) (xs : List TV) : Nat := c.length - (xs.getD 0 (.int 0)).asInt.toNat
theorem srcC_cons (k : Nat) (g : Gl) (l : List Gl) : srcC k (g :: l) = List.replicate (cg g).length (k : Int) ++ srcC (k + 1) l := rfl
theorem tk_snoc {l : List Int} {j : Nat} (h : j < l.length) : l.take j ++ [l.getD j 0] = l.take (j + 1) := by
  rw [List.take_add_one, List.getD_eq_getElem?_getD, List.getElem?_eq_getElem h]
  rfl
theorem own_get {o : List Int} {p : Int} {j : Nat} (h0 : 0 ≤ p) : (if 0 ≤ p ∧ p < o.length then o.getD p.toNat 0 else 0) = ownF o p := by
  unfold ownF
  by_cases h : p < o.length
  · rw [if_pos ⟨h0, h⟩]
  · rw [if_neg fun e => h e.2, List.getD_eq_getElem?_getD, List.getElem?_eq_none (by omega)]
    rfl
theorem map_own_get {f o : List Int} {j : Nat} (h : j < f.length) : (f.map (ownF o)).getD j 0 = ownF o (f.getD j 0) := by
  rw [List.getD_eq_getElem?_getD, List.getElem?_map, List.getD_eq_getElem?_getD, List.getElem?_eq_getElem h]
  rfl
theorem gdmem {l : List Int} {j : Nat} (h : j < l.length) : l.getD j 0 ∈ l := by
  rw [List.getD_eq_getElem?_getD, List.getElem?_eq_getElem h]
  exact List.getElem_mem h
theorem brT_true (l : List Gl) : brT l true = .agg [ints (cellsOf (transZ (runesW l))), ints ((fromZ 0 (transZ (runesW l))).map (ownF (srcG ng 0 l)) ++ [(l.length : Int)])] := rfl
theorem brT_false (l : List Gl) : brT l false = .agg [ints (cellsG l), ints (srcC 0 l ++ [(l.length : Int)])] := rfl
def ofL : Law := ⟨fun ts => ∃ (l : List Gl) (a : Int) (b : Bool) (c : Bool) (d : Int) (k : Bool) (n : Int), ts = [glsT l, .agg [.int a, .bool b, .bool c, .int d, .bool k, .int n]] ∧ ((wordG l).length ≤ 1000000 ∧ l.length ≤ 1000000), fun ts z₀ => ∀ (l : List Gl) (a : Int) (b : Bool) (c : Bool) (d : Int) (k : Bool) (n : Int), ts = [glsT l, .agg [.int a, .bool b, .bool c, .int d, .bool k, .int n]] → z₀ = brT l k⟩
theorem of_pre {l : List Gl} {a : Int} {b : Bool} {c : Bool} {d : Int} {k : Bool} {n : Int} (h : (wordG l).length ≤ 1000000 ∧ l.length ≤ 1000000) : ofL.pre [glsT l, .agg [.int a, .bool b, .bool c, .int d, .bool k, .int n]] := ⟨l, a, b, c, d, k, n, rfl, h⟩
theorem of_fin {l : List Gl} {a : Int} {b : Bool} {c : Bool} {d : Int} {k : Bool} {n : Int} {z₀ : TV} (h : z₀ = brT l k) : ofL.post [glsT l, .agg [.int a, .bool b, .bool c, .int d, .bool k, .int n]] z₀ := fun l₁ a₁ b₁ c₁ d₁ k₁ n₁ e => by
  simp only [List.cons.injEq, TV.str.injEq, TV.int.injEq, TV.bool.injEq, TV.agg.injEq, TV.list.injEq, ints_eq, and_true, true_and, and_assoc, glsT_eq] at e; obtain ⟨rfl, rfl, rfl, rfl, rfl, rfl, rfl⟩ := e
  exact h
theorem of_all {l : List Gl} {a : Int} {b : Bool} {c : Bool} {d : Int} {k : Bool} {n : Int} {Q : TV → Prop} : (∀ z₀, ofL.post [glsT l, .agg [.int a, .bool b, .bool c, .int d, .bool k, .int n]] z₀ → Q z₀) ↔ Q (brT l k) := ⟨fun h => h _ (of_fin rfl), fun h z₀ hr => by rw [hr _ _ _ _ _ _ _ rfl]; exact h⟩
theorem of_c (k : Nat) : Contract Tryd.prog (mkEnv globT []) gtab (sn_brailleline_Of k) ofL.pre ofL.post := Contract.env (Γ := mkEnv globT [finishL, cellsL, transL]) (contract_brailleline_Of (fun _ => rfl) (fun s hs => by
    simp only [cx_brailleline_Of, List.mem_cons, List.not_mem_nil, or_false] at hs
    rcases hs with rfl | rfl | rfl
    · exact Contract.inEnv rfl (finish_c 0) rfl
    · exact Contract.inEnv rfl (progCells_c 1) rfl
    · exact Contract.inEnv rfl (trans_c 2) rfl) k (by
  rintro ts hl ⟨l, a, b, c, d, k, n, rfl, hp⟩
  have hfin : ∀ z₀ : TV, z₀ = brT l k → ofL.post [glsT l, .agg [.int a, .bool b, .bool c, .int d, .bool k, .int n]] z₀ := fun z₀ h => of_fin h
  generalize ofL.post [glsT l, .agg [.int a, .bool b, .bool c, .int d, .bool k, .int n]] = R at hfin ⊢
  unfold tr_brailleline_Of
  obtain ⟨hw, hn⟩ := hp
  have hcb := cellsG_bd l
  have hsb := srcC_len l 0
  have hob := own_len l 0
  cases k with
  | false =>
    simp only [Tree.den, E.den, P1.den, P2.den, P3.den, List.map_cons, List.map_nil, List.cons_append, List.nil_append, List.getD_cons_zero, List.getD_cons_succ, List.getElem?_cons_zero, List.getElem?_cons_succ, asInt_int, asBool_bool, asStr_str, asList_list, cells_agg, TV.cell, pre_zero, pre_succ, post_zero, post_succ, decide_eq_true_eq, decide_eq_false_iff_not, beq_iff_eq, beq_eq_false_iff_ne, Bool.not_eq_true', Bool.not_eq_false', ne_eq, List.length_cons, List.length_nil, forall_eq, Bool.false_eq_true, Bool.true_eq_false, Int.reduceToNat, Option.some.injEq, exists_eq_left', glsT_len, glsT_asList]
    refine ⟨fun _ => ?_, fun h => (by simp at h)⟩
    refine ⟨OaI l, Oam l, ⟨0, [], [], rfl, by omega, by rw [List.drop_zero]; rfl, by rw [List.drop_zero]; rfl⟩, ?_⟩
    rintro xs _ ⟨k, c, s, rfl, hk, hc, hs⟩
    have hD : Oam l [.int (k : Int), ints c, ints s] = l.length - k := rfl
    have hcl := congrArg List.length hc
    have hsl := congrArg List.length hs
    rw [List.length_append] at hcl hsl
    have hsb' : (srcC 0 l).length = (cellsG l).length := hsb
    simp only [Tree.den, E.den, P1.den, P2.den, P3.den, List.map_cons, List.map_nil, List.cons_append, List.nil_append, List.getD_cons_zero, List.getD_cons_succ, List.getElem?_cons_zero, List.getElem?_cons_succ, asInt_int, asBool_bool, asStr_str, asList_list, cells_agg, TV.cell, pre_zero, pre_succ, post_zero, post_succ, decide_eq_true_eq, decide_eq_false_iff_not, beq_iff_eq, beq_eq_false_iff_ne, Bool.not_eq_true', Bool.not_eq_false', ne_eq, List.length_cons, List.length_nil, forall_eq, Bool.false_eq_true, Bool.true_eq_false, Int.reduceToNat, Option.some.injEq, exists_eq_left', ints_asList, map_snoc, map_app, list_map, ints_nil, ints_get, ints_len, bs_get, Int.toNat_natCast, List.length_append, List.length_map, bs_length, hD, cells_all]
    refine ⟨fun hlt => ?_, fun hlt => ?_⟩
    · have hkl : k < l.length := by omega
      have hd := gls_drop hkl
      rw [hd, cellsG_cons] at hc
      rw [hd, srcC_cons] at hs
      have hwk : (gg l k).s.length ≤ (wordG l).length := by
        have e : wordG l = wordG (l.take k) ++ ((gg l k).s ++ wordG (l.drop (k + 1))) := by
          rw [← wordG_cons, ← hd]
          unfold wordG
          rw [← List.flatMap_append, List.take_append_drop]
        rw [e]
        simp only [List.length_append]
        omega
      have hcl := congrArg List.length hc
      have hsl := congrArg List.length hs
      simp only [List.length_append, List.length_replicate] at hcl hsl
      simp only [gls_get hkl, glT, Tree.den, E.den, P1.den, P2.den, P3.den, List.map_cons, List.map_nil, List.cons_append, List.nil_append, List.getD_cons_zero, List.getD_cons_succ, List.getElem?_cons_zero, List.getElem?_cons_succ, asInt_int, asBool_bool, asStr_str, asList_list, cells_agg, TV.cell, pre_zero, pre_succ, post_zero, post_succ, decide_eq_true_eq, decide_eq_false_iff_not, beq_iff_eq, beq_eq_false_iff_ne, Bool.not_eq_true', Bool.not_eq_false', ne_eq, List.length_cons, List.length_nil, forall_eq, Bool.false_eq_true, Bool.true_eq_false, Int.reduceToNat, Option.some.injEq, exists_eq_left', cells_all]
      simp only [Tree.den, E.den, P1.den, P2.den, P3.den, List.map_cons, List.map_nil, List.cons_append, List.nil_append, List.getD_cons_zero, List.getD_cons_succ, List.getElem?_cons_zero, List.getElem?_cons_succ, asInt_int, asBool_bool, asStr_str, asList_list, cells_agg, TV.cell, pre_zero, pre_succ, post_zero, post_succ, decide_eq_true_eq, decide_eq_false_iff_not, beq_iff_eq, beq_eq_false_iff_ne, Bool.not_eq_true', Bool.not_eq_false', ne_eq, List.length_cons, List.length_nil, forall_eq, Bool.false_eq_true, Bool.true_eq_false, Int.reduceToNat, Option.some.injEq, exists_eq_left', ints_asList, map_snoc, map_app, list_map, ints_nil, ints_get, ints_len, bs_get, Int.toNat_natCast, List.length_append, List.length_map, bs_length]
      have hg : cellsZ (Go.Proofs.YtbeelajedknohaaDoor.fin (bs (gg l k).s)) = cg (gg l k) := rfl
      rw [hg]
      generalize cg (gg l k) = g at *
      refine ⟨by omega, by omega, cells_pre (by omega), OiI c s g k, Oim g, ⟨0, by simp, by omega⟩, ?_⟩
      rintro ys _ ⟨j, rfl, hj⟩
      have hE : ∀ y z, Oim g [.int (j : Int), y, z] = g.length - j := fun y z => rfl
      have ej : IntKind.wrap .i64 ((j : Int) + 1) = ((j + 1 : Nat) : Int) := by rw [wrap_i64 (n := (j : Int) + 1) (by omega) (by omega)]; omega
      have ek : IntKind.wrap .i64 ((k : Int) + 1) = ((k + 1 : Nat) : Int) := by rw [wrap_i64 (n := (k : Int) + 1) (by omega) (by omega)]; omega
      simp only [Tree.den, E.den, P1.den, P2.den, P3.den, List.map_cons, List.map_nil, List.cons_append, List.nil_append, List.getD_cons_zero, List.getD_cons_succ, List.getElem?_cons_zero, List.getElem?_cons_succ, asInt_int, asBool_bool, asStr_str, asList_list, cells_agg, TV.cell, pre_zero, pre_succ, post_zero, post_succ, decide_eq_true_eq, decide_eq_false_iff_not, beq_iff_eq, beq_eq_false_iff_ne, Bool.not_eq_true', Bool.not_eq_false', ne_eq, List.length_cons, List.length_nil, forall_eq, Bool.false_eq_true, Bool.true_eq_false, Int.reduceToNat, Option.some.injEq, exists_eq_left', ints_asList, map_snoc, map_app, list_map, ints_nil, ints_get, ints_len, bs_get, Int.toNat_natCast, List.length_append, List.length_map, bs_length, hE, ej, ek, rep_snoc, List.length_replicate, List.length_take]
      refine ⟨fun hlj => ?_, fun hlj => ⟨⟨k + 1, _, _, rfl, by omega, ?_, ?_⟩, ?_⟩⟩
      · refine ⟨by omega, by omega, by omega, by omega, ⟨j + 1, ?_, by omega⟩, ?_⟩
        · rw [List.append_assoc, tk_snoc (by omega)]
        · simp only [Oim, List.getD_cons_zero, asInt_int]; omega
      · have : j = g.length := by omega
        rw [this, List.take_length, hc, List.append_assoc]
      · have : j = g.length := by omega
        rw [this, hs, List.append_assoc]
      · simp only [Oam, List.getD_cons_zero, asInt_int]; omega
    · have : k = l.length := by omega
      subst this
      rw [List.drop_of_length_le (Nat.le_refl _)] at hc hs
      refine ⟨by omega, hfin _ ?_⟩
      rw [brT_false, hc, hs]
      simp [cellsG, srcC, srcG]
  | true =>
    simp only [Tree.den, E.den, P1.den, P2.den, P3.den, List.map_cons, List.map_nil, List.cons_append, List.nil_append, List.getD_cons_zero, List.getD_cons_succ, List.getElem?_cons_zero, List.getElem?_cons_succ, asInt_int, asBool_bool, asStr_str, asList_list, cells_agg, TV.cell, pre_zero, pre_succ, post_zero, post_succ, decide_eq_true_eq, decide_eq_false_iff_not, beq_iff_eq, beq_eq_false_iff_ne, Bool.not_eq_true', Bool.not_eq_false', ne_eq, List.length_cons, List.length_nil, forall_eq, Bool.false_eq_true, Bool.true_eq_false, Int.reduceToNat, Option.some.injEq, exists_eq_left', glsT_len, glsT_asList]
    refine ⟨fun h => (by simp at h), fun _ => ?_⟩
    refine ⟨ObI l, Obm l, ⟨[], 0, [], rfl, by omega, by rw [List.drop_zero]; rfl, by rw [List.drop_zero]; rfl⟩, ?_⟩
    rintro xs _ ⟨t, k, o, rfl, hk, ht, ho⟩
    have hD : Obm l [.str t, .int (k : Int), ints o] = l.length - k := rfl
    have htl := congrArg List.length ht
    have hol := congrArg List.length ho
    rw [List.length_append] at htl hol
    simp only [Tree.den, E.den, P1.den, P2.den, P3.den, List.map_cons, List.map_nil, List.cons_append, List.nil_append, List.getD_cons_zero, List.getD_cons_succ, List.getElem?_cons_zero, List.getElem?_cons_succ, asInt_int, asBool_bool, asStr_str, asList_list, cells_agg, TV.cell, pre_zero, pre_succ, post_zero, post_succ, decide_eq_true_eq, decide_eq_false_iff_not, beq_iff_eq, beq_eq_false_iff_ne, Bool.not_eq_true', Bool.not_eq_false', ne_eq, List.length_cons, List.length_nil, forall_eq, Bool.false_eq_true, Bool.true_eq_false, Int.reduceToNat, Option.some.injEq, exists_eq_left', ints_asList, map_snoc, map_app, list_map, ints_nil, ints_get, ints_len, bs_get, Int.toNat_natCast, List.length_append, List.length_map, bs_length, hD]
    refine ⟨fun hlt => ?_, fun hlt => ?_⟩
    · have hkl : k < l.length := by omega
      have hd := gls_drop hkl
      rw [hd, wordG_cons] at ht
      rw [hd, srcG_cons] at ho
      have htl := congrArg List.length ht
      have hol := congrArg List.length ho
      simp only [List.length_append, List.length_replicate] at htl hol
      simp only [gls_get hkl, glT, Tree.den, E.den, P1.den, P2.den, P3.den, List.map_cons, List.map_nil, List.cons_append, List.nil_append, List.getD_cons_zero, List.getD_cons_succ, List.getElem?_cons_zero, List.getElem?_cons_succ, asInt_int, asBool_bool, asStr_str, asList_list, cells_agg, TV.cell, pre_zero, pre_succ, post_zero, post_succ, decide_eq_true_eq, decide_eq_false_iff_not, beq_iff_eq, beq_eq_false_iff_ne, Bool.not_eq_true', Bool.not_eq_false', ne_eq, List.length_cons, List.length_nil, forall_eq, Bool.false_eq_true, Bool.true_eq_false, Int.reduceToNat, Option.some.injEq, exists_eq_left', finish_all]
      simp only [Tree.den, E.den, P1.den, P2.den, P3.den, List.map_cons, List.map_nil, List.cons_append, List.nil_append, List.getD_cons_zero, List.getD_cons_succ, List.getElem?_cons_zero, List.getElem?_cons_succ, asInt_int, asBool_bool, asStr_str, asList_list, cells_agg, TV.cell, pre_zero, pre_succ, post_zero, post_succ, decide_eq_true_eq, decide_eq_false_iff_not, beq_iff_eq, beq_eq_false_iff_ne, Bool.not_eq_true', Bool.not_eq_false', ne_eq, List.length_cons, List.length_nil, forall_eq, Bool.false_eq_true, Bool.true_eq_false, Int.reduceToNat, Option.some.injEq, exists_eq_left', ints_asList, map_snoc, map_app, list_map, ints_nil, ints_get, ints_len, bs_get, Int.toNat_natCast, List.length_append, List.length_map, bs_length]
      have hg : (Go.Proofs.YtbeelajedknohaaDoor.fin (bs (gg l k).s)).length = ng (gg l k) := rfl
      rw [hg]
      have hnb : ng (gg l k) ≤ (gg l k).s.length := fin_len' _
      generalize ng (gg l k) = g at *
      refine ⟨by omega, by omega, by omega, finish_pre (by omega), OwI o g k, Owm g, ⟨0, by simp, by omega⟩, ?_⟩
      rintro ys _ ⟨j, rfl, hj⟩
      have hE : ∀ z, Owm g [.int (j : Int), z] = g - j := fun z => rfl
      have ej : IntKind.wrap .i64 ((j : Int) + 1) = ((j + 1 : Nat) : Int) := by rw [wrap_i64 (n := (j : Int) + 1) (by omega) (by omega)]; omega
      have ek : IntKind.wrap .i64 ((k : Int) + 1) = ((k + 1 : Nat) : Int) := by rw [wrap_i64 (n := (k : Int) + 1) (by omega) (by omega)]; omega
      simp only [Tree.den, E.den, P1.den, P2.den, P3.den, List.map_cons, List.map_nil, List.cons_append, List.nil_append, List.getD_cons_zero, List.getD_cons_succ, List.getElem?_cons_zero, List.getElem?_cons_succ, asInt_int, asBool_bool, asStr_str, asList_list, cells_agg, TV.cell, pre_zero, pre_succ, post_zero, post_succ, decide_eq_true_eq, decide_eq_false_iff_not, beq_iff_eq, beq_eq_false_iff_ne, Bool.not_eq_true', Bool.not_eq_false', ne_eq, List.length_cons, List.length_nil, forall_eq, Bool.false_eq_true, Bool.true_eq_false, Int.reduceToNat, Option.some.injEq, exists_eq_left', ints_asList, map_snoc, map_app, list_map, ints_nil, ints_get, ints_len, bs_get, Int.toNat_natCast, List.length_append, List.length_map, bs_length, hE, ej, ek, rep_snoc, List.length_replicate]
      refine ⟨fun hlj => ⟨by omega, ⟨j + 1, rfl, by omega⟩, ?_⟩, fun hlj => ⟨⟨_, k + 1, _, rfl, by omega, ?_, ?_⟩, ?_⟩⟩
      · simp only [Owm, List.getD_cons_zero, asInt_int]; omega
      · rw [ht, List.append_assoc]
      · have : j = g := by omega
        rw [this, ho, List.append_assoc]
      · simp only [Obm, List.getD_cons_zero, List.getD_cons_succ, asInt_int]; omega
    · have : k = l.length := by omega
      subst this
      rw [List.drop_of_length_le (Nat.le_refl _)] at ht ho
      have ht' : t = wordG l := by rw [ht]; simp [wordG]
      have ho' : o = srcG ng 0 l := by rw [ho]; simp [srcG]
      subst ht' ho'
      have hr : Go.Proofs.YtbeelajedknohaaDoor.fin (bs (wordG l)) = runesW l := rfl
      have htb := tot_bd (runesW l)
      have hrl := runesW_len l
      have htr := trans_len (runesW l)
      have hfr := fromZ_len (transZ (runesW l)) 0
      have hfm : ∀ x ∈ fromZ 0 (transZ (runesW l)), 0 ≤ x := fun x hx => by have := fromZ_mem hx; omega
      rw [brT_true] at hfin
      simp only [Tree.den, E.den, P1.den, P2.den, P3.den, List.map_cons, List.map_nil, List.cons_append, List.nil_append, List.getD_cons_zero, List.getD_cons_succ, List.getElem?_cons_zero, List.getElem?_cons_succ, asInt_int, asBool_bool, asStr_str, asList_list, cells_agg, TV.cell, pre_zero, pre_succ, post_zero, post_succ, decide_eq_true_eq, decide_eq_false_iff_not, beq_iff_eq, beq_eq_false_iff_ne, Bool.not_eq_true', Bool.not_eq_false', ne_eq, List.length_cons, List.length_nil, forall_eq, Bool.false_eq_true, Bool.true_eq_false, Int.reduceToNat, Option.some.injEq, exists_eq_left', trans_all, hr, transT]
      simp only [Tree.den, E.den, P1.den, P2.den, P3.den, List.map_cons, List.map_nil, List.cons_append, List.nil_append, List.getD_cons_zero, List.getD_cons_succ, List.getElem?_cons_zero, List.getElem?_cons_succ, asInt_int, asBool_bool, asStr_str, asList_list, cells_agg, TV.cell, pre_zero, pre_succ, post_zero, post_succ, decide_eq_true_eq, decide_eq_false_iff_not, beq_iff_eq, beq_eq_false_iff_ne, Bool.not_eq_true', Bool.not_eq_false', ne_eq, List.length_cons, List.length_nil, forall_eq, Bool.false_eq_true, Bool.true_eq_false, Int.reduceToNat, Option.some.injEq, exists_eq_left', ints_asList, map_snoc, map_app, list_map, ints_nil, ints_get, ints_len, bs_get, Int.toNat_natCast, List.length_append, List.length_map, bs_length]
      generalize cellsOf (transZ (runesW l)) = c at *
      generalize fromZ 0 (transZ (runesW l)) = f at *
      generalize srcG ng 0 l = o at *
      refine ⟨trans_pre hw, OcI c f o, Ocm c, ⟨0, by simp, by omega⟩, ?_⟩
      rintro ys _ ⟨j, rfl, hj⟩
      have hE : ∀ y z, Ocm c [.int (j : Int), y, z] = c.length - j := fun y z => rfl
      have ej : IntKind.wrap .i64 ((j : Int) + 1) = ((j + 1 : Nat) : Int) := by rw [wrap_i64 (n := (j : Int) + 1) (by omega) (by omega)]; omega
      simp only [Tree.den, E.den, P1.den, P2.den, P3.den, List.map_cons, List.map_nil, List.cons_append, List.nil_append, List.getD_cons_zero, List.getD_cons_succ, List.getElem?_cons_zero, List.getElem?_cons_succ, asInt_int, asBool_bool, asStr_str, asList_list, cells_agg, TV.cell, pre_zero, pre_succ, post_zero, post_succ, decide_eq_true_eq, decide_eq_false_iff_not, beq_iff_eq, beq_eq_false_iff_ne, Bool.not_eq_true', Bool.not_eq_false', ne_eq, List.length_cons, List.length_nil, forall_eq, Bool.false_eq_true, Bool.true_eq_false, Int.reduceToNat, Option.some.injEq, exists_eq_left', ints_asList, map_snoc, map_app, list_map, ints_nil, ints_get, ints_len, bs_get, Int.toNat_natCast, List.length_append, List.length_map, bs_length, hE, ej, List.length_take]
      refine ⟨fun hlj => ?_, fun hlj => ?_⟩
      · have hjc : j < c.length := by omega
        have hjf : j < f.length := by omega
        have hpm := hfm _ (gdmem hjf)
        have hmg := map_own_get (o := o) hjf
        have hts := tk_snoc (l := c) hjc
        have htf := tk_snoc (l := f.map (ownF o)) (j := j) (by rw [List.length_map]; exact hjf)
        rw [hmg] at htf
        have hgo : ∀ x, x = ownF o (f.getD j 0) → OcI c f o [.int ((j + 1 : Nat) : Int), ints (c.take j ++ [c.getD j 0]), ints ((f.map (ownF o)).take j ++ [x])] ∧ Ocm c [.int ((j + 1 : Nat) : Int), ints (c.take j ++ [c.getD j 0]), ints ((f.map (ownF o)).take j ++ [x])] < c.length - j := fun x hx => by
          subst hx
          refine ⟨⟨j + 1, by rw [hts, htf], by omega⟩, ?_⟩
          simp only [Ocm, List.getD_cons_zero, asInt_int]; omega
        have hz : ∀ {n : Int}, o.length ≤ n → (0 : Int) = ownF o n := fun {n} hn => by
          unfold ownF
          rw [List.getD_eq_getElem?_getD, List.getElem?_eq_none (by omega)]
          rfl
        refine ⟨by omega, by omega, fun h1 => ⟨by omega, by omega, fun h2 => ⟨by omega, by omega, fun h3 => ⟨by omega, by omega, by omega, by omega, by omega, by omega, hgo _ rfl⟩, fun h3 => ⟨by omega, by omega, hgo _ (hz (by omega))⟩⟩, fun h2 => absurd hpm h2⟩, fun h1 => absurd hjf (by omega)⟩
      · have : j = c.length := by omega
        subst this
        rw [List.take_length] at *
        refine ⟨by omega, hfin _ ?_⟩
        rw [List.take_of_length_le (by rw [List.length_map]; omega)])) rfl
end Go.Proofs.YtbeelajedknohaaDoor

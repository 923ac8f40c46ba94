/- The contract of the program's Cells. -/
import Derived.Test.YtbeelajedknohaaDoorCq
import Derived.Test.YtbeelajedknohaaDoorUz
namespace Go.Proofs.YtbeelajedknohaaDoor
set_option linter.unusedSimpArgs false
set_option linter.unusedVariables false
set_option linter.unusedSectionVars false

def hexL (r : Int) : List Int := [cellZ (hexZ (r / 1048576 % 16)), cellZ (hexZ (r / 65536 % 16)), cellZ (hexZ (r / 4096 % 16)), cellZ (hexZ (r / 256 % 16)), cellZ (hexZ (r / 16 % 16)), cellZ (hexZ (r % 16))]
theorem esc_hex (r : Int) : escZ r = 255 :: hexL r := rfl
def digitsB : List UInt8 := [48, 49, 50, 51, 52, 53, 54, 55, 56, 57, 97, 98, 99, 100, 101, 102]
theorem digits_get {d : Int} (h : 0 ≤ d) (k : d < 16) : ((digitsB.getD d.toNat 0).toNat : Int) = hexZ d := by
  obtain ⟨m, rfl⟩ := Int.eq_ofNat_of_zero_le h
  have key : ∀ m : Fin 16, ((digitsB.getD (m.val : Int).toNat 0).toNat : Int) = hexZ (m.val : Int) := by decide +kernel
  have hlt : m < 16 := by omega
  have h2 := key ⟨m, hlt⟩
  dsimp only at h2
  exact h2
theorem hexZ_bd {d : Int} (h : 0 ≤ d) (k : d < 16) : 48 ≤ hexZ d ∧ hexZ d ≤ 102 := by unfold hexZ; split <;> omega
theorem shift_and {r : Int} (h : 0 ≤ r) (k : r ≤ 1114111) {i : Nat} (hi : i < 6) : bitsOp .i32 (fun x y => x &&& y) (shrOp .i32 r (20 - 4 * i)) 15 = r / (2 ^ (20 - 4 * i) : Nat) % 16 := by
  have hm := and_mask32 4 (by omega) (a := r / (2 ^ (20 - 4 * i) : Nat)) (Int.ediv_nonneg h (by exact Int.le_of_lt (by exact_mod_cast Nat.two_pow_pos _))) (by
    have := Int.ediv_le_self (((2 ^ (20 - 4 * i) : Nat)) : Int) h; omega)
  have e : shrOp .i32 r (20 - 4 * (i : Int)) = r / (2 ^ (20 - 4 * i) : Nat) := by
    unfold shrOp
    have e1 : Nat.min ((20 : Int) - 4 * i).toNat IntKind.i32.bits = 20 - 4 * i := by
      simp only [IntKind.bits]
      rw [show ((20 : Int) - 4 * i).toNat = 20 - 4 * i by omega]
      exact Nat.min_eq_left (by omega)
    rw [e1, Int.fdiv_eq_ediv_of_nonneg _ (by exact Int.le_of_lt (Int.pow_pos (by decide)))]
    congr 1
  rw [e]
  exact hm
theorem hexL_get {r : Int} {i : Nat} (hi : i < 6) : (hexL r).getD i 0 = cellZ (hexZ (r / (2 ^ (20 - 4 * i) : Nat) % 16)) := by
  match i, hi with
  | 0, _ => rfl
  | 1, _ => rfl
  | 2, _ => rfl
  | 3, _ => rfl
  | 4, _ => rfl
  | 5, _ => simp [hexL]

def cellsL : Law := ⟨fun ts => ∃ s, ts = [.str s] ∧ s.length ≤ 1000000, fun ts x => ∀ s, ts = [.str s] → x = ints (cellsZ (Go.Proofs.YtbeelajedknohaaDoor.fin (bs s)))⟩
theorem cells_pre {s : List UInt8} (h : s.length ≤ 1000000) : cellsL.pre [.str s] := ⟨s, rfl, h⟩
theorem cells_all {p : List UInt8} {Q : TV → Prop} : (∀ r, cellsL.post [.str p] r → Q r) ↔ Q (ints (cellsZ (Go.Proofs.YtbeelajedknohaaDoor.fin (bs p)))) :=
  ⟨fun h => h _ fun p' e => by simp only [List.cons.injEq, TV.str.injEq, and_true] at e; rw [e], fun h r hr => by rw [hr p rfl]; exact h⟩
theorem oneZ_len (r : Int) : (oneZ r).length ≤ 7 := by unfold oneZ; split <;> simp [escZ]
theorem cellsZ_len (l : List Int) : (cellsZ l).length ≤ 7 * l.length := by
  induction l with
  | nil => simp [cellsZ]
  | cons a l ih => have := oneZ_len a; simp only [cellsZ, List.flatMap_cons, List.length_append, List.length_cons] at *; omega
theorem cellsZ_snoc (l : List Int) (r : Int) : cellsZ (l ++ [r]) = cellsZ l ++ oneZ r := by simp [cellsZ, List.flatMap_append]
def CI (l : List Int) (xs : List TV) : Prop := ∃ k : Nat, xs = [.int k, ints (cellsZ (l.take k))] ∧ k ≤ l.length
def Cm (l : List Int) (xs : List TV) : Nat := l.length - (xs.getD 0 (.int 0)).asInt.toNat
def HI (o : List Int) (r : Int) (xs : List TV) : Prop := ∃ k : Nat, xs = [.int k, ints (o ++ 255 :: (hexL r).take k)] ∧ k ≤ 6
def Hm (xs : List TV) : Nat := 6 - (xs.getD 0 (.int 0)).asInt.toNat
theorem progCells_c (k : Nat) : Contract Tryd.prog (mkEnv globT []) gtab (sn_computerbraille_Cells k) cellsL.pre cellsL.post := Contract.env (Γ := mkEnv globT [decodeL, finishL, cellL]) (contract_computerbraille_Cells (fun _ => rfl) (fun s hs => by
    simp only [cx_computerbraille_Cells, List.mem_cons, List.not_mem_nil, or_false] at hs
    rcases hs with rfl | rfl | rfl
    · exact Contract.inEnv rfl (decode_c 0) rfl
    · exact Contract.inEnv rfl (finish_c 1) rfl
    · exact Contract.inEnv rfl (cell_c 2) rfl) k (by
  rintro ts hl ⟨s, rfl, hsz⟩
  have fin : ∀ r : TV, r = ints (cellsZ (Go.Proofs.YtbeelajedknohaaDoor.fin (bs s))) → cellsL.post [.str s] r := fun r hr p' e => by
    simp only [List.cons.injEq, TV.str.injEq, and_true] at e
    subst e
    exact hr
  generalize cellsL.post [.str s] = R at fin ⊢
  unfold tr_computerbraille_Cells
  have hrest := bs_rest s
  simp only [Tree.den, E.den, P1.den, P2.den, P3.den, List.map_cons, List.map_nil, List.cons_append, List.nil_append, List.getD_cons_zero, List.getD_cons_succ, List.getElem?_cons_zero, List.getElem?_cons_succ, asInt_int, asBool_bool, asStr_str, asList_list, cells_agg, TV.cell, pre_zero, pre_succ, post_zero, post_succ, decide_eq_true_eq, decide_eq_false_iff_not, beq_iff_eq, beq_eq_false_iff_ne, Bool.not_eq_true', Bool.not_eq_false', ne_eq, List.length_cons, List.length_nil, forall_eq, Bool.false_eq_true, Bool.true_eq_false, Int.reduceToNat, Option.some.injEq, exists_eq_left', decode_all, finish_all, decT]
  simp only [Tree.den, E.den, P1.den, P2.den, P3.den, List.map_cons, List.map_nil, List.cons_append, List.nil_append, List.getD_cons_zero, List.getD_cons_succ, List.getElem?_cons_zero, List.getElem?_cons_succ, asInt_int, asBool_bool, asStr_str, asList_list, cells_agg, TV.cell, pre_zero, pre_succ, post_zero, post_succ, decide_eq_true_eq, decide_eq_false_iff_not, beq_iff_eq, beq_eq_false_iff_ne, Bool.not_eq_true', Bool.not_eq_false', ne_eq, List.length_cons, List.length_nil, forall_eq, Bool.false_eq_true, Bool.true_eq_false, Int.reduceToNat, Option.some.injEq, exists_eq_left', ints_asList, map_snoc, map_app, list_map, ints_nil, ints_get, ints_len, bs_get, Int.toNat_natCast, List.length_append, List.length_map, bs_length, finish_all, hrest, ← fin_split]
  have hlen := fin_len (bs s)
  have hsl := bs_length s
  have hdl := dec_len (bs s)
  have hul := unbs_len (dec (bs s)).2
  have hin := inR_fin (byte_of_bs s)
  generalize hl' : Go.Proofs.YtbeelajedknohaaDoor.fin (bs s) = l at *
  refine ⟨decode_pre (by rw [List.length_nil]; omega), finish_pre (by omega), by omega, CI l, Cm l, ⟨0, rfl, by omega⟩, ?_⟩
  rintro xs _ ⟨k, rfl, hk⟩
  have hD : ∀ o, Cm l [.int (k : Int), o] = l.length - k := fun o => rfl
  have hcl := cellsZ_len (l.take k)
  have htl := List.length_take_le k l
  simp only [Tree.den, E.den, P1.den, P2.den, P3.den, List.map_cons, List.map_nil, List.cons_append, List.nil_append, List.getD_cons_zero, List.getD_cons_succ, List.getElem?_cons_zero, List.getElem?_cons_succ, asInt_int, asBool_bool, asStr_str, asList_list, cells_agg, TV.cell, pre_zero, pre_succ, post_zero, post_succ, decide_eq_true_eq, decide_eq_false_iff_not, beq_iff_eq, beq_eq_false_iff_ne, Bool.not_eq_true', Bool.not_eq_false', ne_eq, List.length_cons, List.length_nil, forall_eq, Bool.false_eq_true, Bool.true_eq_false, Int.reduceToNat, Option.some.injEq, exists_eq_left', ints_asList, map_snoc, map_app, list_map, ints_nil, ints_get, ints_len, bs_get, Int.toNat_natCast, List.length_append, List.length_map, bs_length, hD, cell_all, pairT]
  have e64 : IntKind.wrap .i64 ((k : Int) + 1) = ((k + 1 : Nat) : Int) := by rw [wrap_i64 (n := (k : Int) + 1) (by omega) (by omega)]; omega
  refine ⟨fun hlt => ⟨by omega, by omega, ?_⟩, fun hlt => ?_⟩
  · have hkl : k < l.length := by omega
    have hr := hin (l.getD k 0) (by rw [List.getD_eq_getElem?_getD, List.getElem?_eq_getElem hkl]; exact List.getElem_mem hkl)
    have hs := take_snoc hkl
    have hone := oneZ_len (l.getD k 0)
    generalize hrr : l.getD k 0 = r at *
    have hnext : ∀ o, o = cellsZ (l.take k) ++ oneZ r → CI l [.int ((k + 1 : Nat) : Int), ints o] ∧ Cm l [.int ((k + 1 : Nat) : Int), ints o] < l.length - k := fun o ho => by
      refine ⟨⟨k + 1, by rw [hs, cellsZ_snoc, ho], by omega⟩, ?_⟩
      simp only [Cm, List.getD_cons_zero, asInt_int]; omega
    rw [e64]
    refine ⟨cell_pre (by omega) (by omega), fun hh => ⟨by omega, hnext _ (by unfold oneZ; rw [if_pos hh])⟩, fun hh => ⟨by omega, HI (cellsZ (l.take k)) r, Hm, ⟨0, by simp, by omega⟩, ?_⟩⟩
    rintro ys _ ⟨i, rfl, hi⟩
    have hD2 : ∀ o, Hm [.int (i : Int), o] = 6 - i := fun o => rfl
    simp only [Tree.den, E.den, P1.den, P2.den, P3.den, List.map_cons, List.map_nil, List.cons_append, List.nil_append, List.getD_cons_zero, List.getD_cons_succ, List.getElem?_cons_zero, List.getElem?_cons_succ, asInt_int, asBool_bool, asStr_str, asList_list, cells_agg, TV.cell, pre_zero, pre_succ, post_zero, post_succ, decide_eq_true_eq, decide_eq_false_iff_not, beq_iff_eq, beq_eq_false_iff_ne, Bool.not_eq_true', Bool.not_eq_false', ne_eq, List.length_cons, List.length_nil, forall_eq, Bool.false_eq_true, Bool.true_eq_false, Int.reduceToNat, Option.some.injEq, exists_eq_left', ints_asList, map_snoc, map_app, list_map, ints_nil, ints_get, ints_len, bs_get, Int.toNat_natCast, List.length_append, List.length_map, bs_length, hD2]
    have w1 : IntKind.wrap .i64 (4 * (i : Int)) = 4 * i := wrap_i64 (by omega) (by omega)
    have w2 : IntKind.wrap .i64 (20 - 4 * (i : Int)) = 20 - 4 * i := wrap_i64 (by omega) (by omega)
    have w3 : IntKind.wrap .i64 ((i : Int) + 1) = ((i + 1 : Nat) : Int) := by rw [wrap_i64 (n := (i : Int) + 1) (by omega) (by omega)]; omega
    rw [w1, w2, w3]
    refine ⟨fun hi6 => ?_, fun hi6 => ?_⟩
    · rw [shift_and (i := i) (by omega) (by omega) (by omega)]
      have hlt6 : i < 6 := by omega
      have hg := hexL_get (r := r) hlt6
      have hd0 := Int.emod_nonneg (r / (2 ^ (20 - 4 * i) : Nat)) (b := 16) (by omega)
      have hd1 := Int.emod_lt_of_pos (r / (2 ^ (20 - 4 * i) : Nat)) (b := 16) (by omega)
      generalize r / (2 ^ (20 - 4 * i) : Nat) % 16 = d at *
      have hdg := digits_get hd0 hd1
      have hdb := hexZ_bd hd0 hd1
      rw [bs_get] at hdg
      unfold digitsB at hdg
      rw [hdg, wrap_i32 (n := hexZ d) (by omega) (by omega)]
      have hll : (hexL r).length = 6 := rfl
      have hts := take_snoc (l := hexL r) (k := i) (by omega)
      refine ⟨by omega, by omega, by omega, cell_pre (by omega) (by omega), by simp; omega, ⟨i + 1, ?_, by omega⟩, ?_⟩
      · rw [hts, hg]; simp
      · simp only [Hm, List.getD_cons_zero, asInt_int]; omega
    · have : i = 6 := by omega
      subst this
      refine hnext _ ?_
      have hh' : hasZ r = false := hh
      unfold oneZ
      rw [if_neg (by rw [hh']; decide), esc_hex]
      rfl
  · have : k = l.length := by omega
    subst this
    rw [List.take_of_length_le (Nat.le_refl _)]
    exact fin _ rfl)) rfl
end Go.Proofs.YtbeelajedknohaaDoor

/- Written by this repo's own program out of its texts. -/
import Derived.Test.YtlhagkbhojmjpaaGreatDoorPHa
import Derived.Test.YtlhagkbhojmjpaaGreatDoorPNd
import Derived.Laws.CopyRow
import Derived.Laws.CopyOwn
set_option linter.unusedSimpArgs false
set_option linter.unusedVariables false
set_option linter.unusedSectionVars false
namespace Go.Proofs.YtlhagkbhojmjpaaGreatDoor
section
open Go.Shelf Go.RowKit
attribute [local go_sem] Oper.semAt_some
def namesS : By := [98, 97, 110, 103, 32, 113, 117, 111, 116, 101, 32, 104, 97, 115, 104, 32, 100, 111, 108, 108, 97, 114, 32, 112, 101, 114, 99, 101, 110, 116, 32, 97, 109, 112, 101, 114, 115, 97, 110, 100, 32, 97, 112, 111, 115, 116, 114, 111, 112, 104, 101, 32, 111, 112, 101, 110, 32, 99, 108, 111, 115, 101, 32, 115, 116, 97, 114, 32, 112, 108, 117, 115, 32, 99, 111, 109, 109, 97, 32, 100, 97, 115, 104, 32, 100, 111, 116, 32, 115, 108, 97, 115, 104, 32, 99, 111, 108, 111, 110, 32, 115, 101, 109, 105, 99, 111, 108, 111, 110, 32, 108, 101, 115, 115, 32, 101, 113, 117, 97, 108, 115, 32, 103, 114, 101, 97, 116, 101, 114, 32, 113, 117, 101, 115, 116, 105, 111, 110, 32, 97, 116, 32, 98, 114, 97, 99, 107, 101, 116, 32, 98, 97, 99, 107, 115, 108, 97, 115, 104, 32, 117, 110, 98, 114, 97, 99, 107, 101, 116, 32, 99, 97, 114, 101, 116, 32, 117, 110, 100, 101, 114, 115, 99, 111, 114, 101, 32, 98, 97, 99, 107, 113, 117, 111, 116, 101, 32, 98, 114, 97, 99, 101, 32, 98, 97, 114, 32, 117, 110, 98, 114, 97, 99, 101, 32, 116, 105, 108, 100, 101, 32]
def ctrlS : By := [99, 104, 97, 114, 97, 99, 116, 101, 114, 32, 106, 111, 105, 110, 101, 100, 32, 99, 97, 112, 32, 99, 97, 112, 115, 32, 119, 111, 114, 100, 32, 115, 112, 97, 99, 101, 32, 116, 105, 109, 101, 115, 32, 115, 112, 101, 108, 108, 101, 100, 32, 101, 110, 100, 32, 100, 105, 103, 105, 116, 115, 32, 112, 108, 97, 105, 110, 32, 115, 116, 114, 111, 110, 103, 32, 105, 110, 118, 101, 114, 115, 101, 32, 104, 105, 100, 100, 101, 110, 32, 115, 105, 122, 101, 32, 114, 111, 119, 115, 32, 99, 111, 108, 117, 109, 110, 115, 32, 115, 99, 114, 111, 108, 108, 32, 108, 105, 110, 101, 32, 108, 105, 110, 101, 115, 32, 102, 114, 111, 109, 32, 116, 111, 32, 117, 112, 32, 100, 111, 119, 110, 32, 99, 111, 108, 117, 109, 110, 32, 114, 101, 112, 108, 97, 99, 101, 32, 119, 105, 116, 104, 32, 105, 110, 115, 101, 114, 116, 32, 100, 101, 108, 101, 116, 101, 32, 99, 117, 114, 115, 111, 114, 32, 118, 105, 115, 105, 98, 108, 101, 32, 105, 110, 118, 105, 115, 105, 98, 108, 101, 32, 109, 111, 114, 101, 32, 100, 111, 110, 101, 32, 117, 112, 100, 97, 116, 101, 115, 32, 114, 101, 97, 100, 115, 32, 115, 116, 111, 112, 32, 98, 108, 97, 110, 107, 32, 98, 121]
theorem names_fields : Lib.fields namesS = nameL ∧ (∀ c ∈ namesS, c.toNat < 128) := by decide +kernel
theorem ctrl_fields : Lib.fields ctrlS = ctrlL ∧ (∀ c ∈ ctrlS, c.toNat < 128) := by decide +kernel
def HasC (W : World) (B : Nat) (cs : Array Value) (t : TypeId) : Prop := W.heap[B]? = some (.cells cs t (0, 0))
theorem HasC.lt {W : World} {B : Nat} {cs : Array Value} {t : TypeId} (h : HasC W B cs t) : B < W.heap.size := (Array.getElem?_eq_some_iff.1 h).1
theorem HasC.cell {W : World} {B : Nat} {cs : Array Value} {t : TypeId} (h : HasC W B cs t) (i : Nat) {v : Value} (hv : cs[i]? = some v) : W.cell? ⟨B, i, none⟩ = some v := by
 simp [World.cell?, show W.heap[B]? = _ from h, hv]
theorem HasC.frozen {W : World} {B : Nat} {cs : Array Value} {t : TypeId} (h : HasC W B cs t) (i : Nat) : W.frozen? ⟨B, i, none⟩ = false := by
 simp [World.frozen?, show W.heap[B]? = _ from h]
theorem HasC.new (W : World) (cs : Array Value) (t : TypeId) : HasC (W.alloc (.cells cs t)) W.heap.size cs t := World.alloc_heap_new W _
theorem HasC.kept {W W' : World} {row : Option Nat} {B : Nat} {cs : Array Value} {t : TypeId} (h : HasC W B cs t) (hg : W.grownBy W' row) (hne : some B ≠ row) : HasC W' B cs t := (hg.block B h.lt hne).trans h
theorem HasC.alloc {W : World} {B : Nat} {cs : Array Value} {t : TypeId} (h : HasC W B cs t) (o : Obj) : HasC (W.alloc o) B cs t := h.kept (World.grownBy_alloc W o none) (by simp)
theorem HasC.below {W W' : World} {N B : Nat} {cs : Array Value} {t : TypeId} (h : HasC W B cs t) (hb : Below N W W') (hN : B < N) : HasC W' B cs t := (hb.block B hN).trans h
theorem load_all {W : World} {b : Nat} {ts : Array Value} {T : TypeId} {n : Nat} (h : HasC W b ts T) (ha : aggP Tryz.prog T = some true) (hs : sizeP Tryz.prog T = some n) (hn : ts.size = n) : (Instr.loadAt T (.pointer (some ⟨b, 0, none⟩))).run Tryz.prog W = .ok (.agg ts) W := by
 have hrun := run_loadCells (P := Tryz.prog) W ⟨b, 0, none⟩ n (fun j => ts.getD j undef) (fun j hj => by
  rw [Addr.add_lit, Nat.zero_add]
  refine h.cell j ?_
  rw [← hn] at hj
  simp [hj])
 simp only [Instr.loadAt, Instr.sureAddr, loadVar, Sem.run_bind, Sem.run_pure, Result.andThen_ok, zv1 ha, if_true, zgn hs, hrun]
 have e : (List.map (fun j => ts.getD j undef) (List.range n)).toArray = ts := by
  apply Array.ext
  ·simp [hn]
  ·intro i h1 h2
   simp [h2]
 rw [e]
theorem wpListIn_load {F : Fence} {n : Nat} {P : Program} {w : World} {ops : Array Oper} {rest : List Oper} {o : Oper} {a : Act} {Q : Exit → Act → World → Prop} {t : TypeId} {x : Operand} {v : Value}
  (hg : o.guard = none) (hop : o.op = Op.load t x) (hv : (Instr.loadAt t (a.eval x)).run P w = .ok v w) (hK : wpListIn F n P ops Q rest (a.put o.dst v) w) : wpListIn F n P ops Q (o :: rest) a w := by
 refine wpListIn_plain hg fun K hK' => ?_
 unfold Oper.wpIn
 refine ⟨?_, ?_⟩
 ·simp [Oper.about, hop, resolve, Target.leads, Sem.run_pure]
 ·rw [Oper.semAt_plain F _ _ (by rw [hop]; intro c hc'; cases hc')]
  simp [execOp, hop, hv, Result.andThen]
  exact hK' _ _ hK
theorem wpListIn_store {F : Fence} {n : Nat} {P : Program} {w w' : World} {ops : Array Oper} {rest : List Oper} {o : Oper} {a : Act} {Q : Exit → Act → World → Prop} {t : TypeId} {x y : Operand}
  (hg : o.guard = none) (hd : o.dst = none) (hop : o.op = Op.store t x y) (hv : (Instr.storeAt t (a.eval x) (a.eval y)).run P w = .ok () w') (hK : wpListIn F n P ops Q rest a w') : wpListIn F n P ops Q (o :: rest) a w := by
 refine wpListIn_plain hg fun K hK' => ?_
 unfold Oper.wpIn
 refine ⟨?_, ?_⟩
 ·simp [Oper.about, hop, resolve, Target.leads, Sem.run_pure]
 ·rw [Oper.semAt_plain F _ _ (by rw [hop]; intro c hc'; cases hc')]
  have e : a.put o.dst undef = a := by rw [hd]; rfl
  simp [execOp, hop, hv, Result.andThen]
  show K (a.put o.dst undef) _
  rw [e]
  exact hK' _ _ hK
theorem store_all {W : World} {b : Nat} {cs vs : Array Value} {T : TypeId} {n : Nat} (h : HasC W b cs T) (hs : sizeP Tryz.prog T = some n) (hc : cs.size = n) (hv : vs.size = n) (h1 : ∀ v ∈ vs.toList, v.oneCell' = true) :
  (Instr.storeAt T (.pointer (some ⟨b, 0, none⟩)) (.agg vs)).run Tryz.prog W = .ok () (W.setRow b vs) := by
 have hrun := run_storeCells_at Tryz.prog b 0 T vs.toList 0 cs W h (by simp; omega) h1
 have e : (cs.toList.take (0 + 0) ++ vs.toList ++ cs.toList.drop (0 + 0 + vs.toList.length)).toArray = vs := by
  rw [List.drop_of_length_le (by simp; omega)]
  simp
 rw [e] at hrun
 have hsz : vs.size = n := hv
 simp only [Instr.storeAt, Instr.sureAddr, storeVar, Sem.run_bind, Sem.run_pure, Result.andThen_ok, zgn hs]
 rw [if_neg (by show ¬ (Value.agg vs).cells.size ≠ n; simp [Value.cells, hsz])]
 exact hrun
theorem HasC.row {W : World} {b : Nat} {cs vs : Array Value} {T : TypeId} (h : HasC W b cs T) : HasC (W.setRow b vs) b vs T := setRow_heap W b cs vs T _ h
theorem HasC.rowO {W : World} {b b' : Nat} {cs vs : Array Value} {T : TypeId} (h : HasC W b cs T) (hne : b ≠ b') : HasC (W.setRow b' vs) b cs T := (setRow_other W b' b vs hne).trans h
theorem ascii_cell {w : World} (hG : GlobOk (mkEnv globT []) gtabU w) (c : Nat) (hc : c < 256) : w.cell? ⟨4, c, none⟩ = some (.int .u8 (if Lib.isSp (UInt8.ofNat c) then 1 else 0)) := by
 have h := (hG 4 false [.int .u8] (by unfold gtabU; exact .head _)).1
 have hT : (mkEnv globT []).glob 4 = asciiT := rfl
 rw [hT] at h
 have hlen : asciiT.asList.length = 256 := by unfold asciiT; rw [zal]; simp [asciiZ]
 obtain ⟨u, h1, h2⟩ := znw h c (by rw [hlen]; exact hc) 0 (by simp)
 have e : zbk false (asciiT.asList.getD c (.int 0)) 0 = .int (asciiZ.getD c 0) := by
  unfold asciiT; rw [zaj, zam]; rfl
 rw [e] at h2
 have h2 : RepT (full w) (.int .u8) (.int (asciiZ.getD c 0)) u := h2
 cases h2
 simp only [List.length_cons, List.length_nil, Nat.zero_add, Nat.mul_one, Nat.add_zero] at h1
 rw [h1]
 have key : ∀ c : Fin 256, asciiZ.getD c.val 0 = if Lib.isSp (UInt8.ofNat c.val) then 1 else 0 := by decide +kernel
 rw [zac, key ⟨c, hc⟩]
theorem fields_call {w : World} (hG : GlobOk (mkEnv globT []) gtabU w) (s : By) (hs : s.length ≤ 1000000) (ha : ∀ c ∈ s, c.toNat < 128) (hl : (Lib.fields s).length ≤ 1000000) : Calls Tryz.prog 120 #[.string ⟨s.toArray⟩] w fun e w' => ∃ g, e = .returned (.slice (some ⟨g, 0, none⟩) (Lib.fields s).length (Lib.fields s).length) ∧ w.heap.size ≤ g ∧ g < w'.heap.size ∧ (∀ j x, (Lib.fields s)[j]? = some x → w'.cell? ⟨g, j, none⟩ = some (strV x)) ∧ Below w.heap.size w w' := by
 have hsz := baSize s
 refine (Any.strings_Fields_core lays_fields hi9S ⟨s.toArray⟩ w (by omega) (q4g ha) (ascii_cell hG)).mono ?_
 rintro e w' ⟨rfl, rfl⟩
 refine ⟨_, rfl, Nat.le_refl _, by simp, fun j x hx => ?_, (Below.refl _ w).alloc (Nat.le_refl _) _⟩
 exact (HasC.new w _ _).cell j (by simpa using ⟨x, hx, rfl⟩)
end
end Go.Proofs.YtlhagkbhojmjpaaGreatDoor

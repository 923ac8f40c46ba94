/- Written by this repo's own program out of its texts. -/
import Derived.Test.YtlhagkbhojmjpaaGreatDoorRY1
import Derived.RangeFuncNested
import Derived.RangeFuncBound
import Derived.RangeFuncCalls
import Derived.RangeFuncLeaves
import Derived.Shelf.Abstract
import Derived.Shelf.RegionOpen
import Derived.WalkKit
import Derived.OwnWalkIn
import Derived.TacticsInMore
import Derived.LoopNIn
import Derived.LoopIn
import Derived.Maps.AppendAt
import Derived.Maps.OwnIn
import Derived.Maps.StringElems
import Derived.Stop.RegionWithIn
namespace Go.Proofs.YtlhagkbhojmjpaaGreatDoor
set_option linter.unusedSimpArgs false
set_option linter.unusedVariables false
section
open Go.RowKit Go.Shelf
theorem run_insert_new {P : Program} {w : World} (mty kt et : TypeId) (r clock : Nat) (es : Array MapEntry) (s : ByteArray) (val : Value) (hm : P.underlying mty = some (.map kt et)) (hk : P.underlying kt = some .string) (hb : w.heap[r]? = some (.map es clock)) (hf : Instr.findNow .string (.string s) es.toList 0 = some none) :
    (Instr.mapUpdate mty (.map (some r)) (.string s) val).run P w = .ok () { w with heap := w.heap.setIfInBounds r (.map (es.push { key := .string s, val := val, born := clock }) (clock + 1)) } := by
  have hc : (Instr.checkKey false 10000 kt (.string s)).run P w = .ok () w := MapKept.run_checkKey (k := .string s) hk (by simp [MapKept.IsKey]) false 9999
  simp [Instr.mapUpdate, run_underlying hm, MapKept.run_getObj_map hb, hc, MapKept.run_findKey hk hf, MapKept.run_setObj_map _ hb, Result.andThen]
theorem qh6 {P : Program} {w : World} (mty kt et : TypeId) (r clock : Nat) (es : Array MapEntry) (s : ByteArray) (i : Nat) (v : Value) (hm : P.underlying mty = some (.map kt et)) (hk : P.underlying kt = some .string) (hb : w.heap[r]? = some (.map es clock)) (hf : Instr.findNow .string (.string s) es.toList 0 = some (some (i, v))) :
    (Instr.lookup mty (.map (some r)) (.string s) false).run P w = .ok v w := by
  have hc : ∀ b, (Instr.checkKey b 10000 kt (.string s)).run P w = .ok () w := fun b => MapKept.run_checkKey (k := .string s) hk (by simp [MapKept.IsKey]) b 9999
  simp [Instr.lookup, run_underlying hm, MapKept.run_getObj_map hb, hc, MapKept.run_findKey hk hf, Result.andThen]
theorem qkp {F : Fence} {n : Nat} {P : Program} {w w0 : World} {ops : Array Oper} {rest : List Oper} {o : Oper} {a : Act} {Q : Exit → Act → World → Prop} (hg : o.guard = none) (hd : o.dst = none) (m k v : Operand) (t : TypeId) (hop : o.op = Op.insert t m k v)
    {B r clock : Nat} {s : ByteArray} {val : Value} {es : Array MapEntry} {kt et : TypeId} (hm : a.eval m = .map (some r)) (hk : a.eval k = .string s) (hv : a.eval v = val) (ht : P.underlying t = some (.map kt et)) (hkt : P.underlying kt = some .string) (hb : w.heap[r]? = some (.map es clock)) (hf : Instr.findNow .string (.string s) es.toList 0 = some none)
    (hB : Below B w0 w) (hr : B ≤ r)
    (h : ∀ w', w'.heap[r]? = some (.map (es.push { key := .string s, val := val, born := clock }) (clock + 1)) → Below B w0 w' → wpListIn F n P ops Q rest a w') : wpListIn F n P ops Q (o :: rest) a w := by
  refine wpListIn_plain hg fun K hK' => ?_
  have hrun := run_insert_new (P := P) t kt et r clock es s val ht hkt hb hf
  have hlt : r < w.heap.size := (Array.getElem?_eq_some_iff.1 hb).1
  unfold Oper.wpIn
  refine ⟨?_, ?_⟩
  · simp [Oper.about, hop, resolve, Target.leads, Sem.run_pure]
  · rw [Oper.semAt_plain F _ _ (by rw [hop]; intro c hc'; cases hc')]
    simp [execOp, hop, hm, hk, hv, hrun, Result.andThen]
    have e : a.put o.dst undef = a := by rw [hd]; rfl
    have key := h { w with heap := w.heap.setIfInBounds r (.map (es.push { key := .string s, val := val, born := clock }) (clock + 1)) } (by simp [hlt]) (hB.trans ⟨rfl, rfl, rfl, by simp, fun k hk => by simp [Array.getElem?_setIfInBounds]; omega⟩)
    show K (a.put o.dst undef) _
    rw [e]
    exact hK' _ _ key
def entsOf : List (List UInt8 × List UInt8) → Nat → List MapEntry
  | [], _ => []
  | (k, v) :: l, i => { key := .string ⟨k.toArray⟩, val := .string ⟨v.toArray⟩, born := i } :: entsOf l (i + 1)
def lettersL : List (List UInt8 × List UInt8) := [([85, 112], [65]), ([68, 111, 119, 110], [66]), ([82, 105, 103, 104, 116], [67]), ([76, 101, 102, 116], [68]), ([69, 110, 100], [70]), ([72, 111, 109, 101], [72]), ([70, 49], [80]), ([70, 50], [81]), ([70, 51], [82]), ([70, 52], [83])]
def numbersL : List (List UInt8 × List UInt8) := [([73, 110, 115, 101, 114, 116], [50]), ([68, 101, 108, 101, 116, 101], [51]), ([80, 97, 103, 101, 85, 112], [53]), ([80, 97, 103, 101, 68, 111, 119, 110], [54]), ([70, 53], [49, 53]), ([70, 54], [49, 55]), ([70, 55], [49, 56]), ([70, 56], [49, 57]), ([70, 57], [50, 48]), ([70, 49, 48], [50, 49]), ([70, 49, 49], [50, 51]), ([70, 49, 50], [50, 52])]
set_option maxRecDepth 100000 in
set_option maxHeartbeats 2000000 in
theorem qia (n : Nat) (w : World) : CallsIn Fence.wide n Tryz.prog 76 #[] w fun e w' => e = .returned (.map (some w.heap.size)) ∧ w'.heap[w.heap.size]? = some (.map (entsOf lettersL 0).toArray 10) ∧ Below w.heap.size w w' := by
  refine callsIn_of_wp Tryz.func76 rfl trivial ?_ rfl
  simp only [Tryz.ntmps76, List.size_toArray, List.length_cons, List.length_nil, Nat.reduceAdd, Nat.reduceSub, Array.replicate_succ, Array.replicate_zero, List.push_toArray, List.append_toArray, List.nil_append, List.cons_append]
  have hmm := @run_makeMap Tryz.prog
  have hb0 : (w.alloc (.map #[] 0)).heap[w.heap.size]? = some (.map #[] 0) := World.alloc_heap_new w _
  have hB0 : Below w.heap.size w (w.alloc (.map #[] 0)) := (Below.refl _ w).alloc (Nat.le_refl _) _
  gi_wp2_with (refine qkp rfl rfl _ _ _ _ rfl rfl rfl rfl Tryz.underlying134 Tryz.underlying9 (by assumption) (by rfl) (by assumption) (Nat.le_refl _) ?_; intro w1 hb1 hB1)
  go_ret
  exact ⟨rfl, hb1, hB1⟩
set_option maxRecDepth 100000 in
set_option maxHeartbeats 2000000 in
theorem qh8 (n : Nat) (w : World) : CallsIn Fence.wide n Tryz.prog 77 #[] w fun e w' => e = .returned (.map (some w.heap.size)) ∧ w'.heap[w.heap.size]? = some (.map (entsOf numbersL 0).toArray 12) ∧ Below w.heap.size w w' := by
  refine callsIn_of_wp Tryz.func77 rfl trivial ?_ rfl
  simp only [Tryz.ntmps77, List.size_toArray, List.length_cons, List.length_nil, Nat.reduceAdd, Nat.reduceSub, Array.replicate_succ, Array.replicate_zero, List.push_toArray, List.append_toArray, List.nil_append, List.cons_append]
  have hmm := @run_makeMap Tryz.prog
  have hb0 : (w.alloc (.map #[] 0)).heap[w.heap.size]? = some (.map #[] 0) := World.alloc_heap_new w _
  have hB0 : Below w.heap.size w (w.alloc (.map #[] 0)) := (Below.refl _ w).alloc (Nat.le_refl _) _
  gi_wp2_with (refine qkp rfl rfl _ _ _ _ rfl rfl rfl rfl Tryz.underlying134 Tryz.underlying9 (by assumption) (by rfl) (by assumption) (Nat.le_refl _) ?_; intro w1 hb1 hB1)
  go_ret
  exact ⟨rfl, hb1, hB1⟩
def HasD (W : World) (B : Nat) (cs : Array Value) (t : TypeId) : Prop := W.heap[B]? = some (.cells cs t (0, 0))
theorem HasD.lt {W : World} {B : Nat} {cs : Array Value} {t : TypeId} (h : HasD W B cs t) : B < W.heap.size := (Array.getElem?_eq_some_iff.1 h).1
theorem HasD.cell {W : World} {B : Nat} {cs : Array Value} {t : TypeId} (h : HasD W B cs t) (i : Nat) {v : Value} (hv : cs[i]? = some v) : W.cell? ⟨B, i, none⟩ = some v := by
  simp [World.cell?, show W.heap[B]? = _ from h, hv]
theorem HasD.frozen {W : World} {B : Nat} {cs : Array Value} {t : TypeId} (h : HasD W B cs t) (i : Nat) : W.frozen? ⟨B, i, none⟩ = false := by
  simp [World.frozen?, show W.heap[B]? = _ from h]
theorem HasD.new (W : World) (cs : Array Value) (t : TypeId) : HasD (W.alloc (.cells cs t)) W.heap.size cs t := World.alloc_heap_new W _
theorem HasD.kept {W W' : World} {row : Option Nat} {B : Nat} {cs : Array Value} {t : TypeId} (h : HasD W B cs t) (hg : W.grownBy W' row) (hne : some B ≠ row) : HasD W' B cs t := (hg.block B h.lt hne).trans h
theorem HasD.alloc {W : World} {B : Nat} {cs : Array Value} {t : TypeId} (h : HasD W B cs t) (o : Obj) : HasD (W.alloc o) B cs t := h.kept (World.grownBy_alloc W o none) (by simp)
theorem HasD.below {W W' : World} {N B : Nat} {cs : Array Value} {t : TypeId} (h : HasD W B cs t) (hb : Below N W W') (hN : B < N) : HasD W' B cs t := (hb.block B hN).trans h
theorem HasD.drew {W : World} {B : Nat} {cs : Array Value} {t : TypeId} (h : HasD W B cs t) : HasD W.drew B cs t := h
theorem qh7 (w : World) (a0 a1 : Array Value) (t0 t1 : TypeId) : ∃ W0, (w.alloc (.cells a0 t0)).alloc (.cells a1 t1) = W0 ∧ HasD W0 w.heap.size a0 t0 ∧ HasD W0 (w.heap.size + 1) a1 t1 ∧ Below w.heap.size w W0 ∧ W0.heap.size = w.heap.size + 2 := by
  have h0 := HasD.new w a0 t0
  have h1 := HasD.new (w.alloc (.cells a0 t0)) a1 t1
  simp only [World.size_alloc] at h1
  exact ⟨_, rfl, h0.alloc _, h1, (((Below.refl _ w).alloc (by simp) _).alloc (by simp) _), by simp⟩
def modsV : Value := .agg #[.bool false, .bool false, .bool false, .bool false, .bool false, .bool false, .bool false, .bool false, .int .u8 0, .int .u8 0, .int .i64 0]
def KmodH (w : World) (c a s : Bool) (m : Int) (k : Array UInt8) : Prop := ∀ W', Below w.heap.size w W' → Calls Tryz.prog 74 #[.agg #[.string ⟨k⟩, .int .i32 0, .bool c, .bool a, .bool s]] W' fun e w' => e = .returned (.int .i64 m) ∧ Below W'.heap.size W' w'
def KitoH (w : World) (m : Int) (x : UInt8) : Prop := ∀ W', Below w.heap.size w W' → Calls Tryz.prog 75 #[.int .i64 m] W' fun e w' => e = .returned (.string ⟨#[x]⟩) ∧ Below W'.heap.size W' w'
def KnamC (w : World) (c a s : Bool) (k v : Array UInt8) : Prop := Calls Tryz.prog 40 #[.agg #[.string ⟨k⟩, .int .i32 0, .bool c, .bool a, .bool s], modsV] w fun e w' => e = .returned (.string ⟨v⟩) ∧ Below w.heap.size w w'
def ncsiL : List (List UInt8 × List UInt8) := [([85, 112], [65]), ([68, 111, 119, 110], [66]), ([82, 105, 103, 104, 116], [67]), ([76, 101, 102, 116], [68]), ([69, 110, 100], [70]), ([72, 111, 109, 101], [72])]
set_option maxRecDepth 100000 in
set_option maxHeartbeats 40000000 in
theorem ncsi (w : World) (c a s : Bool) (m : Int) (x : UInt8) (hm : m = 1) (q : List UInt8 × List UInt8) (hq : q ∈ ncsiL) (hMod : KmodH w c a s m q.1.toArray) (hIt : KitoH w m x) : KnamC w c a s q.1.toArray ([27, 91] ++ q.2 ++ []).toArray := by
  unfold KmodH at hMod
  unfold KitoH at hIt
  unfold KnamC modsV
  refine (callsIn_wide (n := 4)).1 ?_
  have TB := qh7 w #[.string ⟨q.1.toArray⟩, .int .i32 0, .bool c, .bool a, .bool s] #[.bool false, .bool false, .bool false, .bool false, .bool false, .bool false, .bool false, .bool false, .int .u8 0, .int .u8 0, .int .i64 0] 42 48
  simp only [ncsiL, List.mem_cons, List.not_mem_nil, or_false] at hq
  subst hm
  rcases hq with rfl | rfl | rfl | rfl | rfl | rfl
  all_goals
    dsimp only [List.cons_append, List.nil_append] at hMod TB ⊢
    refine callsIn_of_wp Tryz.func40 rfl trivial ?_ rfl
    simp only [Tryz.ntmps40, List.size_toArray, List.length_cons, List.length_nil, Nat.reduceAdd, Nat.reduceSub, Array.replicate_succ, Array.replicate_zero, List.push_toArray, List.append_toArray, List.nil_append, List.cons_append]
    gi_wp2_with fail
    obtain ⟨W0, hW0, k0, m0, hB0, hs0⟩ := TB
    rw [hW0]
    clear hW0
    refine ⟨trivial, ?_⟩
    refine (callsIn_wide.2 (hMod W0 hB0)).mono ?_
    rintro e W1 ⟨rfl, hb1⟩
    have k1 := k0.below hb1 (by omega)
    have m1 := m0.below hb1 (by omega)
    have hB1 := hB0.trans (hb1.mono (by omega))
    have hs1 := hb1.size
    gi_wp2_with fail
    refine ⟨trivial, ?_⟩
    refine (callsIn_wide.2 (hIt W1 hB1)).mono ?_
    rintro e W2 ⟨rfl, hb2⟩
    have k2 := k1.below hb2 (by omega)
    have m2 := m1.below hb2 (by omega)
    have hB2 := hB1.trans (hb2.mono (by omega))
    have hs2 := hb2.size
    have ck := k2.cell 0 rfl
    have cm := m2.cell 2 rfl
    clear k0 m0 hB0 hs0 k1 m1 hB1 hb1 hb2
    gi_wp2_with fail
    gi_region_with (refine ⟨trivial, ?_⟩; gi_at_call 76; refine (qia _ _).mono ?_; rintro e W3 ⟨rfl, hb3, hB3⟩; have hl0 := qh6 (P := Tryz.prog) 134 9 9 W2.heap.size _ _ ⟨#[85, 112]⟩ 0 (.string ⟨#[65]⟩) Tryz.underlying134 Tryz.underlying9 hb3 (by rfl); have hl1 := qh6 (P := Tryz.prog) 134 9 9 W2.heap.size _ _ ⟨#[68, 111, 119, 110]⟩ 1 (.string ⟨#[66]⟩) Tryz.underlying134 Tryz.underlying9 hb3 (by rfl); have hl2 := qh6 (P := Tryz.prog) 134 9 9 W2.heap.size _ _ ⟨#[82, 105, 103, 104, 116]⟩ 2 (.string ⟨#[67]⟩) Tryz.underlying134 Tryz.underlying9 hb3 (by rfl); have hl3 := qh6 (P := Tryz.prog) 134 9 9 W2.heap.size _ _ ⟨#[76, 101, 102, 116]⟩ 3 (.string ⟨#[68]⟩) Tryz.underlying134 Tryz.underlying9 hb3 (by rfl); have hl4 := qh6 (P := Tryz.prog) 134 9 9 W2.heap.size _ _ ⟨#[69, 110, 100]⟩ 4 (.string ⟨#[70]⟩) Tryz.underlying134 Tryz.underlying9 hb3 (by rfl); have hl5 := qh6 (P := Tryz.prog) 134 9 9 W2.heap.size _ _ ⟨#[72, 111, 109, 101]⟩ 5 (.string ⟨#[72]⟩) Tryz.underlying134 Tryz.underlying9 hb3 (by rfl); have k3 := (k2.drew).below hB3 (show _ < W2.drew.heap.size from k2.lt); have ck3 := k3.cell 0 rfl; have hBf : Below w.heap.size w W3 := hB2.drew.trans (hB3.mono (show _ ≤ W2.drew.heap.size from Nat.le_of_lt k2.lt)))
    all_goals gi_wp2
    all_goals go_ret
    all_goals exact ⟨rfl, by assumption⟩
def nfoL : List (List UInt8 × List UInt8) := [([70, 49], [80]), ([70, 50], [81]), ([70, 51], [82]), ([70, 52], [83])]
set_option maxRecDepth 100000 in
set_option maxHeartbeats 40000000 in
theorem nfo (w : World) (c a s : Bool) (m : Int) (x : UInt8) (hm : m = 1) (q : List UInt8 × List UInt8) (hq : q ∈ nfoL) (hMod : KmodH w c a s m q.1.toArray) (hIt : KitoH w m x) : KnamC w c a s q.1.toArray ([27, 79] ++ q.2 ++ []).toArray := by
  unfold KmodH at hMod
  unfold KitoH at hIt
  unfold KnamC modsV
  refine (callsIn_wide (n := 4)).1 ?_
  have TB := qh7 w #[.string ⟨q.1.toArray⟩, .int .i32 0, .bool c, .bool a, .bool s] #[.bool false, .bool false, .bool false, .bool false, .bool false, .bool false, .bool false, .bool false, .int .u8 0, .int .u8 0, .int .i64 0] 42 48
  simp only [nfoL, List.mem_cons, List.not_mem_nil, or_false] at hq
  subst hm
  rcases hq with rfl | rfl | rfl | rfl
  all_goals
    dsimp only [List.cons_append, List.nil_append] at hMod TB ⊢
    refine callsIn_of_wp Tryz.func40 rfl trivial ?_ rfl
    simp only [Tryz.ntmps40, List.size_toArray, List.length_cons, List.length_nil, Nat.reduceAdd, Nat.reduceSub, Array.replicate_succ, Array.replicate_zero, List.push_toArray, List.append_toArray, List.nil_append, List.cons_append]
    gi_wp2_with fail
    obtain ⟨W0, hW0, k0, m0, hB0, hs0⟩ := TB
    rw [hW0]
    clear hW0
    refine ⟨trivial, ?_⟩
    refine (callsIn_wide.2 (hMod W0 hB0)).mono ?_
    rintro e W1 ⟨rfl, hb1⟩
    have k1 := k0.below hb1 (by omega)
    have m1 := m0.below hb1 (by omega)
    have hB1 := hB0.trans (hb1.mono (by omega))
    have hs1 := hb1.size
    gi_wp2_with fail
    refine ⟨trivial, ?_⟩
    refine (callsIn_wide.2 (hIt W1 hB1)).mono ?_
    rintro e W2 ⟨rfl, hb2⟩
    have k2 := k1.below hb2 (by omega)
    have m2 := m1.below hb2 (by omega)
    have hB2 := hB1.trans (hb2.mono (by omega))
    have hs2 := hb2.size
    have ck := k2.cell 0 rfl
    have cm := m2.cell 2 rfl
    clear k0 m0 hB0 hs0 k1 m1 hB1 hb1 hb2
    gi_wp2_with fail
    gi_region_with (refine ⟨trivial, ?_⟩; gi_at_call 76; refine (qia _ _).mono ?_; rintro e W3 ⟨rfl, hb3, hB3⟩; have hl0 := qh6 (P := Tryz.prog) 134 9 9 W2.heap.size _ _ ⟨#[70, 49]⟩ 6 (.string ⟨#[80]⟩) Tryz.underlying134 Tryz.underlying9 hb3 (by rfl); have hl1 := qh6 (P := Tryz.prog) 134 9 9 W2.heap.size _ _ ⟨#[70, 50]⟩ 7 (.string ⟨#[81]⟩) Tryz.underlying134 Tryz.underlying9 hb3 (by rfl); have hl2 := qh6 (P := Tryz.prog) 134 9 9 W2.heap.size _ _ ⟨#[70, 51]⟩ 8 (.string ⟨#[82]⟩) Tryz.underlying134 Tryz.underlying9 hb3 (by rfl); have hl3 := qh6 (P := Tryz.prog) 134 9 9 W2.heap.size _ _ ⟨#[70, 52]⟩ 9 (.string ⟨#[83]⟩) Tryz.underlying134 Tryz.underlying9 hb3 (by rfl); have k3 := (k2.drew).below hB3 (show _ < W2.drew.heap.size from k2.lt); have ck3 := k3.cell 0 rfl; have hBf : Below w.heap.size w W3 := hB2.drew.trans (hB3.mono (show _ ≤ W2.drew.heap.size from Nat.le_of_lt k2.lt)))
    all_goals gi_wp2
    all_goals go_ret
    all_goals exact ⟨rfl, by assumption⟩
def nnumL : List (List UInt8 × List UInt8) := [([73, 110, 115, 101, 114, 116], [50]), ([68, 101, 108, 101, 116, 101], [51]), ([80, 97, 103, 101, 85, 112], [53]), ([80, 97, 103, 101, 68, 111, 119, 110], [54]), ([70, 53], [49, 53]), ([70, 54], [49, 55]), ([70, 55], [49, 56]), ([70, 56], [49, 57]), ([70, 57], [50, 48]), ([70, 49, 48], [50, 49]), ([70, 49, 49], [50, 51]), ([70, 49, 50], [50, 52])]
set_option maxRecDepth 100000 in
set_option maxHeartbeats 40000000 in
theorem nnum (w : World) (c a s : Bool) (m : Int) (x : UInt8) (hm : m = 1) (q : List UInt8 × List UInt8) (hq : q ∈ nnumL) (hMod : KmodH w c a s m q.1.toArray) (hIt : KitoH w m x) : KnamC w c a s q.1.toArray ([27, 91] ++ q.2 ++ [126]).toArray := by
  unfold KmodH at hMod
  unfold KitoH at hIt
  unfold KnamC modsV
  refine (callsIn_wide (n := 4)).1 ?_
  have TB := qh7 w #[.string ⟨q.1.toArray⟩, .int .i32 0, .bool c, .bool a, .bool s] #[.bool false, .bool false, .bool false, .bool false, .bool false, .bool false, .bool false, .bool false, .int .u8 0, .int .u8 0, .int .i64 0] 42 48
  simp only [nnumL, List.mem_cons, List.not_mem_nil, or_false] at hq
  subst hm
  rcases hq with rfl | rfl | rfl | rfl | rfl | rfl | rfl | rfl | rfl | rfl | rfl | rfl
  all_goals
    dsimp only [List.cons_append, List.nil_append] at hMod TB ⊢
    refine callsIn_of_wp Tryz.func40 rfl trivial ?_ rfl
    simp only [Tryz.ntmps40, List.size_toArray, List.length_cons, List.length_nil, Nat.reduceAdd, Nat.reduceSub, Array.replicate_succ, Array.replicate_zero, List.push_toArray, List.append_toArray, List.nil_append, List.cons_append]
    gi_wp2_with fail
    obtain ⟨W0, hW0, k0, m0, hB0, hs0⟩ := TB
    rw [hW0]
    clear hW0
    refine ⟨trivial, ?_⟩
    refine (callsIn_wide.2 (hMod W0 hB0)).mono ?_
    rintro e W1 ⟨rfl, hb1⟩
    have k1 := k0.below hb1 (by omega)
    have m1 := m0.below hb1 (by omega)
    have hB1 := hB0.trans (hb1.mono (by omega))
    have hs1 := hb1.size
    gi_wp2_with fail
    refine ⟨trivial, ?_⟩
    refine (callsIn_wide.2 (hIt W1 hB1)).mono ?_
    rintro e W2 ⟨rfl, hb2⟩
    have k2 := k1.below hb2 (by omega)
    have m2 := m1.below hb2 (by omega)
    have hB2 := hB1.trans (hb2.mono (by omega))
    have hs2 := hb2.size
    have ck := k2.cell 0 rfl
    have cm := m2.cell 2 rfl
    clear k0 m0 hB0 hs0 k1 m1 hB1 hb1 hb2
    gi_wp2_with fail
    gi_region_with (refine ⟨trivial, ?_⟩; gi_at_call 77; refine (qh8 _ _).mono ?_; rintro e W3 ⟨rfl, hb3, hB3⟩; have hl0 := qh6 (P := Tryz.prog) 134 9 9 W2.heap.size _ _ ⟨#[73, 110, 115, 101, 114, 116]⟩ 0 (.string ⟨#[50]⟩) Tryz.underlying134 Tryz.underlying9 hb3 (by rfl); have hl1 := qh6 (P := Tryz.prog) 134 9 9 W2.heap.size _ _ ⟨#[68, 101, 108, 101, 116, 101]⟩ 1 (.string ⟨#[51]⟩) Tryz.underlying134 Tryz.underlying9 hb3 (by rfl); have hl2 := qh6 (P := Tryz.prog) 134 9 9 W2.heap.size _ _ ⟨#[80, 97, 103, 101, 85, 112]⟩ 2 (.string ⟨#[53]⟩) Tryz.underlying134 Tryz.underlying9 hb3 (by rfl); have hl3 := qh6 (P := Tryz.prog) 134 9 9 W2.heap.size _ _ ⟨#[80, 97, 103, 101, 68, 111, 119, 110]⟩ 3 (.string ⟨#[54]⟩) Tryz.underlying134 Tryz.underlying9 hb3 (by rfl); have hl4 := qh6 (P := Tryz.prog) 134 9 9 W2.heap.size _ _ ⟨#[70, 53]⟩ 4 (.string ⟨#[49, 53]⟩) Tryz.underlying134 Tryz.underlying9 hb3 (by rfl); have hl5 := qh6 (P := Tryz.prog) 134 9 9 W2.heap.size _ _ ⟨#[70, 54]⟩ 5 (.string ⟨#[49, 55]⟩) Tryz.underlying134 Tryz.underlying9 hb3 (by rfl); have hl6 := qh6 (P := Tryz.prog) 134 9 9 W2.heap.size _ _ ⟨#[70, 55]⟩ 6 (.string ⟨#[49, 56]⟩) Tryz.underlying134 Tryz.underlying9 hb3 (by rfl); have hl7 := qh6 (P := Tryz.prog) 134 9 9 W2.heap.size _ _ ⟨#[70, 56]⟩ 7 (.string ⟨#[49, 57]⟩) Tryz.underlying134 Tryz.underlying9 hb3 (by rfl); have hl8 := qh6 (P := Tryz.prog) 134 9 9 W2.heap.size _ _ ⟨#[70, 57]⟩ 8 (.string ⟨#[50, 48]⟩) Tryz.underlying134 Tryz.underlying9 hb3 (by rfl); have hl9 := qh6 (P := Tryz.prog) 134 9 9 W2.heap.size _ _ ⟨#[70, 49, 48]⟩ 9 (.string ⟨#[50, 49]⟩) Tryz.underlying134 Tryz.underlying9 hb3 (by rfl); have hl10 := qh6 (P := Tryz.prog) 134 9 9 W2.heap.size _ _ ⟨#[70, 49, 49]⟩ 10 (.string ⟨#[50, 51]⟩) Tryz.underlying134 Tryz.underlying9 hb3 (by rfl); have hl11 := qh6 (P := Tryz.prog) 134 9 9 W2.heap.size _ _ ⟨#[70, 49, 50]⟩ 11 (.string ⟨#[50, 52]⟩) Tryz.underlying134 Tryz.underlying9 hb3 (by rfl); have k3 := (k2.drew).below hB3 (show _ < W2.drew.heap.size from k2.lt); have ck3 := k3.cell 0 rfl; have hBf : Below w.heap.size w W3 := hB2.drew.trans (hB3.mono (show _ ≤ W2.drew.heap.size from Nat.le_of_lt k2.lt)))
    all_goals gi_wp2
    all_goals go_ret
    all_goals exact ⟨rfl, by assumption⟩
def mletL : List (List UInt8 × List UInt8) := [([85, 112], [65]), ([68, 111, 119, 110], [66]), ([82, 105, 103, 104, 116], [67]), ([76, 101, 102, 116], [68]), ([69, 110, 100], [70]), ([72, 111, 109, 101], [72]), ([70, 49], [80]), ([70, 50], [81]), ([70, 51], [82]), ([70, 52], [83])]
set_option maxRecDepth 100000 in
set_option maxHeartbeats 40000000 in
theorem mlet (w : World) (c a s : Bool) (m : Int) (x : UInt8) (hm : ¬ m = 1) (q : List UInt8 × List UInt8) (hq : q ∈ mletL) (hMod : KmodH w c a s m q.1.toArray) (hIt : KitoH w m x) : KnamC w c a s q.1.toArray ([27, 91, 49, 59, x] ++ q.2 ++ []).toArray := by
  unfold KmodH at hMod
  unfold KitoH at hIt
  unfold KnamC modsV
  refine (callsIn_wide (n := 4)).1 ?_
  have TB := qh7 w #[.string ⟨q.1.toArray⟩, .int .i32 0, .bool c, .bool a, .bool s] #[.bool false, .bool false, .bool false, .bool false, .bool false, .bool false, .bool false, .bool false, .int .u8 0, .int .u8 0, .int .i64 0] 42 48
  simp only [mletL, List.mem_cons, List.not_mem_nil, or_false] at hq
  rcases hq with rfl | rfl | rfl | rfl | rfl | rfl | rfl | rfl | rfl | rfl
  all_goals
    dsimp only [List.cons_append, List.nil_append] at hMod TB ⊢
    refine callsIn_of_wp Tryz.func40 rfl trivial ?_ rfl
    simp only [Tryz.ntmps40, List.size_toArray, List.length_cons, List.length_nil, Nat.reduceAdd, Nat.reduceSub, Array.replicate_succ, Array.replicate_zero, List.push_toArray, List.append_toArray, List.nil_append, List.cons_append]
    gi_wp2_with fail
    obtain ⟨W0, hW0, k0, m0, hB0, hs0⟩ := TB
    rw [hW0]
    clear hW0
    refine ⟨trivial, ?_⟩
    refine (callsIn_wide.2 (hMod W0 hB0)).mono ?_
    rintro e W1 ⟨rfl, hb1⟩
    have k1 := k0.below hb1 (by omega)
    have m1 := m0.below hb1 (by omega)
    have hB1 := hB0.trans (hb1.mono (by omega))
    have hs1 := hb1.size
    gi_wp2_with fail
    refine ⟨trivial, ?_⟩
    refine (callsIn_wide.2 (hIt W1 hB1)).mono ?_
    rintro e W2 ⟨rfl, hb2⟩
    have k2 := k1.below hb2 (by omega)
    have m2 := m1.below hb2 (by omega)
    have hB2 := hB1.trans (hb2.mono (by omega))
    have hs2 := hb2.size
    have ck := k2.cell 0 rfl
    have cm := m2.cell 2 rfl
    clear k0 m0 hB0 hs0 k1 m1 hB1 hb1 hb2
    gi_wp2_with fail
    gi_region_with (refine ⟨trivial, ?_⟩; gi_at_call 76; refine (qia _ _).mono ?_; rintro e W3 ⟨rfl, hb3, hB3⟩; have hl0 := qh6 (P := Tryz.prog) 134 9 9 W2.heap.size _ _ ⟨#[85, 112]⟩ 0 (.string ⟨#[65]⟩) Tryz.underlying134 Tryz.underlying9 hb3 (by rfl); have hl1 := qh6 (P := Tryz.prog) 134 9 9 W2.heap.size _ _ ⟨#[68, 111, 119, 110]⟩ 1 (.string ⟨#[66]⟩) Tryz.underlying134 Tryz.underlying9 hb3 (by rfl); have hl2 := qh6 (P := Tryz.prog) 134 9 9 W2.heap.size _ _ ⟨#[82, 105, 103, 104, 116]⟩ 2 (.string ⟨#[67]⟩) Tryz.underlying134 Tryz.underlying9 hb3 (by rfl); have hl3 := qh6 (P := Tryz.prog) 134 9 9 W2.heap.size _ _ ⟨#[76, 101, 102, 116]⟩ 3 (.string ⟨#[68]⟩) Tryz.underlying134 Tryz.underlying9 hb3 (by rfl); have hl4 := qh6 (P := Tryz.prog) 134 9 9 W2.heap.size _ _ ⟨#[69, 110, 100]⟩ 4 (.string ⟨#[70]⟩) Tryz.underlying134 Tryz.underlying9 hb3 (by rfl); have hl5 := qh6 (P := Tryz.prog) 134 9 9 W2.heap.size _ _ ⟨#[72, 111, 109, 101]⟩ 5 (.string ⟨#[72]⟩) Tryz.underlying134 Tryz.underlying9 hb3 (by rfl); have hl6 := qh6 (P := Tryz.prog) 134 9 9 W2.heap.size _ _ ⟨#[70, 49]⟩ 6 (.string ⟨#[80]⟩) Tryz.underlying134 Tryz.underlying9 hb3 (by rfl); have hl7 := qh6 (P := Tryz.prog) 134 9 9 W2.heap.size _ _ ⟨#[70, 50]⟩ 7 (.string ⟨#[81]⟩) Tryz.underlying134 Tryz.underlying9 hb3 (by rfl); have hl8 := qh6 (P := Tryz.prog) 134 9 9 W2.heap.size _ _ ⟨#[70, 51]⟩ 8 (.string ⟨#[82]⟩) Tryz.underlying134 Tryz.underlying9 hb3 (by rfl); have hl9 := qh6 (P := Tryz.prog) 134 9 9 W2.heap.size _ _ ⟨#[70, 52]⟩ 9 (.string ⟨#[83]⟩) Tryz.underlying134 Tryz.underlying9 hb3 (by rfl); have k3 := (k2.drew).below hB3 (show _ < W2.drew.heap.size from k2.lt); have ck3 := k3.cell 0 rfl; have hBf : Below w.heap.size w W3 := hB2.drew.trans (hB3.mono (show _ ≤ W2.drew.heap.size from Nat.le_of_lt k2.lt)))
    all_goals gi_wp2
    all_goals go_ret
    all_goals exact ⟨rfl, by assumption⟩
def mnumL : List (List UInt8 × List UInt8) := [([73, 110, 115, 101, 114, 116], [50]), ([68, 101, 108, 101, 116, 101], [51]), ([80, 97, 103, 101, 85, 112], [53]), ([80, 97, 103, 101, 68, 111, 119, 110], [54]), ([70, 53], [49, 53]), ([70, 54], [49, 55]), ([70, 55], [49, 56]), ([70, 56], [49, 57]), ([70, 57], [50, 48]), ([70, 49, 48], [50, 49]), ([70, 49, 49], [50, 51]), ([70, 49, 50], [50, 52])]
set_option maxRecDepth 100000 in
set_option maxHeartbeats 40000000 in
theorem mnum (w : World) (c a s : Bool) (m : Int) (x : UInt8) (hm : ¬ m = 1) (q : List UInt8 × List UInt8) (hq : q ∈ mnumL) (hMod : KmodH w c a s m q.1.toArray) (hIt : KitoH w m x) : KnamC w c a s q.1.toArray ([27, 91] ++ q.2 ++ [59, x, 126]).toArray := by
  unfold KmodH at hMod
  unfold KitoH at hIt
  unfold KnamC modsV
  refine (callsIn_wide (n := 4)).1 ?_
  have TB := qh7 w #[.string ⟨q.1.toArray⟩, .int .i32 0, .bool c, .bool a, .bool s] #[.bool false, .bool false, .bool false, .bool false, .bool false, .bool false, .bool false, .bool false, .int .u8 0, .int .u8 0, .int .i64 0] 42 48
  simp only [mnumL, List.mem_cons, List.not_mem_nil, or_false] at hq
  rcases hq with rfl | rfl | rfl | rfl | rfl | rfl | rfl | rfl | rfl | rfl | rfl | rfl
  all_goals
    dsimp only [List.cons_append, List.nil_append] at hMod TB ⊢
    refine callsIn_of_wp Tryz.func40 rfl trivial ?_ rfl
    simp only [Tryz.ntmps40, List.size_toArray, List.length_cons, List.length_nil, Nat.reduceAdd, Nat.reduceSub, Array.replicate_succ, Array.replicate_zero, List.push_toArray, List.append_toArray, List.nil_append, List.cons_append]
    gi_wp2_with fail
    obtain ⟨W0, hW0, k0, m0, hB0, hs0⟩ := TB
    rw [hW0]
    clear hW0
    refine ⟨trivial, ?_⟩
    refine (callsIn_wide.2 (hMod W0 hB0)).mono ?_
    rintro e W1 ⟨rfl, hb1⟩
    have k1 := k0.below hb1 (by omega)
    have m1 := m0.below hb1 (by omega)
    have hB1 := hB0.trans (hb1.mono (by omega))
    have hs1 := hb1.size
    gi_wp2_with fail
    refine ⟨trivial, ?_⟩
    refine (callsIn_wide.2 (hIt W1 hB1)).mono ?_
    rintro e W2 ⟨rfl, hb2⟩
    have k2 := k1.below hb2 (by omega)
    have m2 := m1.below hb2 (by omega)
    have hB2 := hB1.trans (hb2.mono (by omega))
    have hs2 := hb2.size
    have ck := k2.cell 0 rfl
    have cm := m2.cell 2 rfl
    clear k0 m0 hB0 hs0 k1 m1 hB1 hb1 hb2
    gi_wp2_with fail
    gi_region_with (refine ⟨trivial, ?_⟩; gi_at_call 77; refine (qh8 _ _).mono ?_; rintro e W3 ⟨rfl, hb3, hB3⟩; have hl0 := qh6 (P := Tryz.prog) 134 9 9 W2.heap.size _ _ ⟨#[73, 110, 115, 101, 114, 116]⟩ 0 (.string ⟨#[50]⟩) Tryz.underlying134 Tryz.underlying9 hb3 (by rfl); have hl1 := qh6 (P := Tryz.prog) 134 9 9 W2.heap.size _ _ ⟨#[68, 101, 108, 101, 116, 101]⟩ 1 (.string ⟨#[51]⟩) Tryz.underlying134 Tryz.underlying9 hb3 (by rfl); have hl2 := qh6 (P := Tryz.prog) 134 9 9 W2.heap.size _ _ ⟨#[80, 97, 103, 101, 85, 112]⟩ 2 (.string ⟨#[53]⟩) Tryz.underlying134 Tryz.underlying9 hb3 (by rfl); have hl3 := qh6 (P := Tryz.prog) 134 9 9 W2.heap.size _ _ ⟨#[80, 97, 103, 101, 68, 111, 119, 110]⟩ 3 (.string ⟨#[54]⟩) Tryz.underlying134 Tryz.underlying9 hb3 (by rfl); have hl4 := qh6 (P := Tryz.prog) 134 9 9 W2.heap.size _ _ ⟨#[70, 53]⟩ 4 (.string ⟨#[49, 53]⟩) Tryz.underlying134 Tryz.underlying9 hb3 (by rfl); have hl5 := qh6 (P := Tryz.prog) 134 9 9 W2.heap.size _ _ ⟨#[70, 54]⟩ 5 (.string ⟨#[49, 55]⟩) Tryz.underlying134 Tryz.underlying9 hb3 (by rfl); have hl6 := qh6 (P := Tryz.prog) 134 9 9 W2.heap.size _ _ ⟨#[70, 55]⟩ 6 (.string ⟨#[49, 56]⟩) Tryz.underlying134 Tryz.underlying9 hb3 (by rfl); have hl7 := qh6 (P := Tryz.prog) 134 9 9 W2.heap.size _ _ ⟨#[70, 56]⟩ 7 (.string ⟨#[49, 57]⟩) Tryz.underlying134 Tryz.underlying9 hb3 (by rfl); have hl8 := qh6 (P := Tryz.prog) 134 9 9 W2.heap.size _ _ ⟨#[70, 57]⟩ 8 (.string ⟨#[50, 48]⟩) Tryz.underlying134 Tryz.underlying9 hb3 (by rfl); have hl9 := qh6 (P := Tryz.prog) 134 9 9 W2.heap.size _ _ ⟨#[70, 49, 48]⟩ 9 (.string ⟨#[50, 49]⟩) Tryz.underlying134 Tryz.underlying9 hb3 (by rfl); have hl10 := qh6 (P := Tryz.prog) 134 9 9 W2.heap.size _ _ ⟨#[70, 49, 49]⟩ 10 (.string ⟨#[50, 51]⟩) Tryz.underlying134 Tryz.underlying9 hb3 (by rfl); have hl11 := qh6 (P := Tryz.prog) 134 9 9 W2.heap.size _ _ ⟨#[70, 49, 50]⟩ 11 (.string ⟨#[50, 52]⟩) Tryz.underlying134 Tryz.underlying9 hb3 (by rfl); have k3 := (k2.drew).below hB3 (show _ < W2.drew.heap.size from k2.lt); have ck3 := k3.cell 0 rfl; have hBf : Below w.heap.size w W3 := hB2.drew.trans (hB3.mono (show _ ≤ W2.drew.heap.size from Nat.le_of_lt k2.lt)))
    all_goals gi_wp2
    all_goals go_ret
    all_goals exact ⟨rfl, by assumption⟩
def namedTab : List (List UInt8 × List UInt8 × List UInt8 × List UInt8) := [([85, 112], [27, 91, 65], [27, 91, 49, 59], [65]), ([68, 111, 119, 110], [27, 91, 66], [27, 91, 49, 59], [66]), ([82, 105, 103, 104, 116], [27, 91, 67], [27, 91, 49, 59], [67]), ([76, 101, 102, 116], [27, 91, 68], [27, 91, 49, 59], [68]), ([69, 110, 100], [27, 91, 70], [27, 91, 49, 59], [70]), ([72, 111, 109, 101], [27, 91, 72], [27, 91, 49, 59], [72]), ([70, 49], [27, 79, 80], [27, 91, 49, 59], [80]), ([70, 50], [27, 79, 81], [27, 91, 49, 59], [81]), ([70, 51], [27, 79, 82], [27, 91, 49, 59], [82]), ([70, 52], [27, 79, 83], [27, 91, 49, 59], [83]), ([73, 110, 115, 101, 114, 116], [27, 91, 50, 126], [27, 91, 50, 59], [126]), ([68, 101, 108, 101, 116, 101], [27, 91, 51, 126], [27, 91, 51, 59], [126]), ([80, 97, 103, 101, 85, 112], [27, 91, 53, 126], [27, 91, 53, 59], [126]), ([80, 97, 103, 101, 68, 111, 119, 110], [27, 91, 54, 126], [27, 91, 54, 59], [126]), ([70, 53], [27, 91, 49, 53, 126], [27, 91, 49, 53, 59], [126]), ([70, 54], [27, 91, 49, 55, 126], [27, 91, 49, 55, 59], [126]), ([70, 55], [27, 91, 49, 56, 126], [27, 91, 49, 56, 59], [126]), ([70, 56], [27, 91, 49, 57, 126], [27, 91, 49, 57, 59], [126]), ([70, 57], [27, 91, 50, 48, 126], [27, 91, 50, 48, 59], [126]), ([70, 49, 48], [27, 91, 50, 49, 126], [27, 91, 50, 49, 59], [126]), ([70, 49, 49], [27, 91, 50, 51, 126], [27, 91, 50, 51, 59], [126]), ([70, 49, 50], [27, 91, 50, 52, 126], [27, 91, 50, 52, 59], [126])]
theorem named_at (w : World) (c a s : Bool) (m : Int) (x : UInt8) (e : List UInt8 × List UInt8 × List UInt8 × List UInt8) (he : e ∈ namedTab) (hMod : KmodH w c a s m e.1.toArray) (hIt : KitoH w m x) :
    KnamC w c a s e.1.toArray (if m = 1 then e.2.1 else e.2.2.1 ++ x :: e.2.2.2).toArray := by
  by_cases hm : m = 1
  · rw [if_pos hm]
    simp only [namedTab, List.mem_cons, List.not_mem_nil, or_false] at he
    rcases he with rfl | rfl | rfl | rfl | rfl | rfl | rfl | rfl | rfl | rfl | rfl | rfl | rfl | rfl | rfl | rfl | rfl | rfl | rfl | rfl | rfl | rfl
    · exact ncsi w c a s m x hm ([85, 112], [65]) (by decide) hMod hIt
    · exact ncsi w c a s m x hm ([68, 111, 119, 110], [66]) (by decide) hMod hIt
    · exact ncsi w c a s m x hm ([82, 105, 103, 104, 116], [67]) (by decide) hMod hIt
    · exact ncsi w c a s m x hm ([76, 101, 102, 116], [68]) (by decide) hMod hIt
    · exact ncsi w c a s m x hm ([69, 110, 100], [70]) (by decide) hMod hIt
    · exact ncsi w c a s m x hm ([72, 111, 109, 101], [72]) (by decide) hMod hIt
    · exact nfo w c a s m x hm ([70, 49], [80]) (by decide) hMod hIt
    · exact nfo w c a s m x hm ([70, 50], [81]) (by decide) hMod hIt
    · exact nfo w c a s m x hm ([70, 51], [82]) (by decide) hMod hIt
    · exact nfo w c a s m x hm ([70, 52], [83]) (by decide) hMod hIt
    · exact nnum w c a s m x hm ([73, 110, 115, 101, 114, 116], [50]) (by decide) hMod hIt
    · exact nnum w c a s m x hm ([68, 101, 108, 101, 116, 101], [51]) (by decide) hMod hIt
    · exact nnum w c a s m x hm ([80, 97, 103, 101, 85, 112], [53]) (by decide) hMod hIt
    · exact nnum w c a s m x hm ([80, 97, 103, 101, 68, 111, 119, 110], [54]) (by decide) hMod hIt
    · exact nnum w c a s m x hm ([70, 53], [49, 53]) (by decide) hMod hIt
    · exact nnum w c a s m x hm ([70, 54], [49, 55]) (by decide) hMod hIt
    · exact nnum w c a s m x hm ([70, 55], [49, 56]) (by decide) hMod hIt
    · exact nnum w c a s m x hm ([70, 56], [49, 57]) (by decide) hMod hIt
    · exact nnum w c a s m x hm ([70, 57], [50, 48]) (by decide) hMod hIt
    · exact nnum w c a s m x hm ([70, 49, 48], [50, 49]) (by decide) hMod hIt
    · exact nnum w c a s m x hm ([70, 49, 49], [50, 51]) (by decide) hMod hIt
    · exact nnum w c a s m x hm ([70, 49, 50], [50, 52]) (by decide) hMod hIt
  · rw [if_neg hm]
    simp only [namedTab, List.mem_cons, List.not_mem_nil, or_false] at he
    rcases he with rfl | rfl | rfl | rfl | rfl | rfl | rfl | rfl | rfl | rfl | rfl | rfl | rfl | rfl | rfl | rfl | rfl | rfl | rfl | rfl | rfl | rfl
    · exact mlet w c a s m x hm ([85, 112], [65]) (by decide) hMod hIt
    · exact mlet w c a s m x hm ([68, 111, 119, 110], [66]) (by decide) hMod hIt
    · exact mlet w c a s m x hm ([82, 105, 103, 104, 116], [67]) (by decide) hMod hIt
    · exact mlet w c a s m x hm ([76, 101, 102, 116], [68]) (by decide) hMod hIt
    · exact mlet w c a s m x hm ([69, 110, 100], [70]) (by decide) hMod hIt
    · exact mlet w c a s m x hm ([72, 111, 109, 101], [72]) (by decide) hMod hIt
    · exact mlet w c a s m x hm ([70, 49], [80]) (by decide) hMod hIt
    · exact mlet w c a s m x hm ([70, 50], [81]) (by decide) hMod hIt
    · exact mlet w c a s m x hm ([70, 51], [82]) (by decide) hMod hIt
    · exact mlet w c a s m x hm ([70, 52], [83]) (by decide) hMod hIt
    · exact mnum w c a s m x hm ([73, 110, 115, 101, 114, 116], [50]) (by decide) hMod hIt
    · exact mnum w c a s m x hm ([68, 101, 108, 101, 116, 101], [51]) (by decide) hMod hIt
    · exact mnum w c a s m x hm ([80, 97, 103, 101, 85, 112], [53]) (by decide) hMod hIt
    · exact mnum w c a s m x hm ([80, 97, 103, 101, 68, 111, 119, 110], [54]) (by decide) hMod hIt
    · exact mnum w c a s m x hm ([70, 53], [49, 53]) (by decide) hMod hIt
    · exact mnum w c a s m x hm ([70, 54], [49, 55]) (by decide) hMod hIt
    · exact mnum w c a s m x hm ([70, 55], [49, 56]) (by decide) hMod hIt
    · exact mnum w c a s m x hm ([70, 56], [49, 57]) (by decide) hMod hIt
    · exact mnum w c a s m x hm ([70, 57], [50, 48]) (by decide) hMod hIt
    · exact mnum w c a s m x hm ([70, 49, 48], [50, 49]) (by decide) hMod hIt
    · exact mnum w c a s m x hm ([70, 49, 49], [50, 51]) (by decide) hMod hIt
    · exact mnum w c a s m x hm ([70, 49, 50], [50, 52]) (by decide) hMod hIt
end
end Go.Proofs.YtlhagkbhojmjpaaGreatDoor


/- Package scriptvm: the operations' map, and the method simple. -/
import Derived.Test.YtlhagkbhojmjpaaDoorSvn
import Derived.Maps.StringElems
namespace Go.Proofs.YtlhagkbhojmjpaaDoor
set_option linter.unusedSimpArgs false
set_option linter.unusedVariables false
section
open Go.RowKit Go.Shelf

theorem run_insert_int {P : Program} {w : World} (mty kt et : TypeId) (r clock : Nat) (es : Array MapEntry) (z : Int) (val : Value) (hm : P.underlying mty = some (.map kt et)) (hk : P.underlying kt = some (.int .i64)) (hb : w.heap[r]? = some (.map es clock)) (hf : Instr.findNow (.int .i64) (.int .i64 z) es.toList 0 = some none) :
    (Instr.mapUpdate mty (.map (some r)) (.int .i64 z) val).run P w = .ok () { w with heap := w.heap.setIfInBounds r (.map (es.push { key := .int .i64 z, val := val, born := clock }) (clock + 1)) } := by
  have hc : (Instr.checkKey false 10000 kt (.int .i64 z)).run P w = .ok () w := MapKept.run_checkKey (k := .int .i64 z) hk (by simp [MapKept.IsKey]) false 9999
  simp [Instr.mapUpdate, run_underlying hm, MapKept.run_getObj_map hb, hc, MapKept.run_findKey hk hf, MapKept.run_setObj_map _ hb, Result.andThen]
theorem run_lookup_int {P : Program} {w : World} (mty kt et : TypeId) (r clock : Nat) (es : Array MapEntry) (z : Int) (i : Nat) (v : Value) (hm : P.underlying mty = some (.map kt et)) (hk : P.underlying kt = some (.int .i64)) (hb : w.heap[r]? = some (.map es clock)) (hf : Instr.findNow (.int .i64) (.int .i64 z) es.toList 0 = some (some (i, v))) :
    (Instr.lookup mty (.map (some r)) (.int .i64 z) true).run P w = .ok (.tuple #[v, .bool true]) w := by
  have hc : ∀ b, (Instr.checkKey b 10000 kt (.int .i64 z)).run P w = .ok () w := fun b => MapKept.run_checkKey (k := .int .i64 z) hk (by simp [MapKept.IsKey]) b 9999
  simp [Instr.lookup, run_underlying hm, MapKept.run_getObj_map hb, hc, MapKept.run_findKey hk hf, Result.andThen]
theorem run_lookup_none {P : Program} {w : World} (mty kt et : TypeId) (r clock : Nat) (es : Array MapEntry) (z : Int) (v : Value) (hm : P.underlying mty = some (.map kt et)) (hk : P.underlying kt = some (.int .i64)) (hb : w.heap[r]? = some (.map es clock)) (hz : (zeroValue et).run P w = .ok v w) (hf : Instr.findNow (.int .i64) (.int .i64 z) es.toList 0 = some none) :
    (Instr.lookup mty (.map (some r)) (.int .i64 z) true).run P w = .ok (.tuple #[v, .bool false]) w := by
  have hc : ∀ b, (Instr.checkKey b 10000 kt (.int .i64 z)).run P w = .ok () w := fun b => MapKept.run_checkKey (k := .int .i64 z) hk (by simp [MapKept.IsKey]) b 9999
  simp [Instr.lookup, run_underlying hm, MapKept.run_getObj_map hb, hc, MapKept.run_findKey hk hf, hz, Result.andThen]
theorem qmh {F : Fence} {n : Nat} {P : Program} {w w0 : World} {ops : Array Oper} {rest : List Oper} {o : Oper} {a : Act} {Q : Exit → Act → World → Prop} (hg : o.guard = none) (hd : o.dst = none) (m k v : Operand) (t : TypeId) (hop : o.op = Op.insert t m k v)
    {B r clock : Nat} {z : Int} {val : Value} {es : Array MapEntry} {kt et : TypeId} (hm : a.eval m = .map (some r)) (hk : a.eval k = .int .i64 z) (hv : a.eval v = val) (ht : P.underlying t = some (.map kt et)) (hkt : P.underlying kt = some (.int .i64)) (hb : w.heap[r]? = some (.map es clock)) (hf : Instr.findNow (.int .i64) (.int .i64 z) es.toList 0 = some none)
    (hB : Below B w0 w) (hr : B ≤ r)
    (h : ∀ w', w'.heap[r]? = some (.map (es.push { key := .int .i64 z, val := val, born := clock }) (clock + 1)) → Below B w0 w' → wpListIn F n P ops Q rest a w') : wpListIn F n P ops Q (o :: rest) a w := by
  refine wpListIn_plain hg fun K hK' => ?_
  have hrun := run_insert_int (P := P) t kt et r clock es z val ht hkt hb hf
  have hlt : r < w.heap.size := (Array.getElem?_eq_some_iff.1 hb).1
  unfold Oper.wpIn
  refine ⟨?_, ?_⟩
  · simp [Oper.about, hop, resolve, Target.leads, Sem.run_pure]
  · rw [Oper.semAt_plain F _ _ (by rw [hop]; intro c hc'; cases hc')]
    simp [execOp, hop, hm, hk, hv, hrun, Result.andThen]
    have e : a.put o.dst undef = a := by rw [hd]; rfl
    have key := h { w with heap := w.heap.setIfInBounds r (.map (es.push { key := .int .i64 z, val := val, born := clock }) (clock + 1)) } (by simp [hlt]) (hB.trans ⟨rfl, rfl, rfl, by simp, fun k hk => by simp [Array.getElem?_setIfInBounds]; omega⟩)
    show K (a.put o.dst undef) _
    rw [e]
    exact hK' _ _ key
def opsL : List (Int × Nat) := [(8, 101), (9, 102), (10, 103), (11, 104), (12, 105)]
def entsI : List (Int × Nat) → Nat → List MapEntry
  | [], _ => []
  | (k, f) :: l, i => { key := .int .i64 k, val := .func (.func f) #[] #[], born := i } :: entsI l (i + 1)
set_option maxRecDepth 100000 in
set_option maxHeartbeats 2000000 in
theorem operations_in (w : World) : Calls Tryd.prog 60 #[] w fun e w' => e = .returned (.map (some w.heap.size)) ∧ w'.heap[w.heap.size]? = some (.map (entsI opsL 0).toArray 5) ∧ Below w.heap.size w w' := by
  refine (callsIn_wide (n := 8)).1 ?_
  refine callsIn_of_wp Tryd.func60 rfl trivial ?_ rfl
  simp only [Tryd.ntmps60, List.size_toArray, List.length_cons, List.length_nil, Nat.reduceAdd, Nat.reduceSub, Array.replicate_succ, Array.replicate_zero, List.push_toArray, List.append_toArray, List.nil_append, List.cons_append]
  have hmm := @run_makeMap Tryd.prog
  have hb0 : (w.alloc (.map #[] 0)).heap[w.heap.size]? = some (.map #[] 0) := World.alloc_heap_new w _
  have hB0 : Below w.heap.size w (w.alloc (.map #[] 0)) := (Below.refl _ w).alloc (Nat.le_refl _) _
  gi_wp2_with (refine qmh rfl rfl _ _ _ _ rfl rfl rfl rfl Tryd.underlying134 Tryd.underlying3 (by assumption) (by rfl) (by assumption) (Nat.le_refl _) ?_; intro w1 hb1 hB1)
  go_ret
  exact ⟨rfl, hb1, hB1⟩

def opF (op a b : Int) : Int := if op = 8 then wrap64 (a + b) else if op = 9 then wrap64 (a - b) else if op = 10 then wrap64 (a * b) else if op = 11 then (if a = b then 1 else 0) else if a < b then 1 else 0
theorem op1_in (W : World) (a b : Int) : Calls Tryd.prog 101 #[.int .i64 a, .int .i64 b] W fun e W' => e = .returned (.int .i64 (opF 8 a b)) ∧ W' = W := by
  refine (callsIn_wide (n := 8)).1 ?_
  refine callsIn_of_wp Tryd.func101 rfl trivial ?_ rfl
  simp only [Tryd.ntmps101, List.size_toArray, List.length_cons, List.length_nil, Nat.reduceAdd, Nat.reduceSub, Array.replicate_succ, Array.replicate_zero, List.push_toArray, List.append_toArray, List.nil_append, List.cons_append]
  gi_wp2
  go_ret
  exact ⟨rfl, rfl⟩
theorem op2_in (W : World) (a b : Int) : Calls Tryd.prog 102 #[.int .i64 a, .int .i64 b] W fun e W' => e = .returned (.int .i64 (opF 9 a b)) ∧ W' = W := by
  refine (callsIn_wide (n := 8)).1 ?_
  refine callsIn_of_wp Tryd.func102 rfl trivial ?_ rfl
  simp only [Tryd.ntmps102, List.size_toArray, List.length_cons, List.length_nil, Nat.reduceAdd, Nat.reduceSub, Array.replicate_succ, Array.replicate_zero, List.push_toArray, List.append_toArray, List.nil_append, List.cons_append]
  gi_wp2
  go_ret
  exact ⟨rfl, rfl⟩
theorem op3_in (W : World) (a b : Int) : Calls Tryd.prog 103 #[.int .i64 a, .int .i64 b] W fun e W' => e = .returned (.int .i64 (opF 10 a b)) ∧ W' = W := by
  refine (callsIn_wide (n := 8)).1 ?_
  refine callsIn_of_wp Tryd.func103 rfl trivial ?_ rfl
  simp only [Tryd.ntmps103, List.size_toArray, List.length_cons, List.length_nil, Nat.reduceAdd, Nat.reduceSub, Array.replicate_succ, Array.replicate_zero, List.push_toArray, List.append_toArray, List.nil_append, List.cons_append]
  gi_wp2
  go_ret
  exact ⟨rfl, rfl⟩
theorem op4_in (W : World) (a b : Int) : Calls Tryd.prog 104 #[.int .i64 a, .int .i64 b] W fun e W' => e = .returned (.int .i64 (opF 11 a b)) ∧ W' = W := by
  refine (callsIn_wide (n := 8)).1 ?_
  refine callsIn_of_wp Tryd.func104 rfl trivial ?_ rfl
  simp only [Tryd.ntmps104, List.size_toArray, List.length_cons, List.length_nil, Nat.reduceAdd, Nat.reduceSub, Array.replicate_succ, Array.replicate_zero, List.push_toArray, List.append_toArray, List.nil_append, List.cons_append]
  have ht := fun b => truth_in W b
  gi_wp2_with (refine ⟨trivial, ?_⟩; gi_at_call 64; refine (callsIn_wide.2 (ht _)).mono ?_; rintro e w' ⟨rfl, rfl⟩)
  all_goals go_ret
  · exact ⟨by show Ending.returned (Value.int .i64 1) = _; unfold opF; simp [h], rfl⟩
  · exact ⟨by show Ending.returned (Value.int .i64 0) = _; unfold opF; simp [h], rfl⟩
theorem op5_in (W : World) (a b : Int) : Calls Tryd.prog 105 #[.int .i64 a, .int .i64 b] W fun e W' => e = .returned (.int .i64 (opF 12 a b)) ∧ W' = W := by
  refine (callsIn_wide (n := 8)).1 ?_
  refine callsIn_of_wp Tryd.func105 rfl trivial ?_ rfl
  simp only [Tryd.ntmps105, List.size_toArray, List.length_cons, List.length_nil, Nat.reduceAdd, Nat.reduceSub, Array.replicate_succ, Array.replicate_zero, List.push_toArray, List.append_toArray, List.nil_append, List.cons_append]
  have ht := fun b => truth_in W b
  gi_wp2_with (refine ⟨trivial, ?_⟩; gi_at_call 64; refine (callsIn_wide.2 (ht _)).mono ?_; rintro e w' ⟨rfl, rfl⟩)
  all_goals go_ret
  · exact ⟨by show Ending.returned (Value.int .i64 1) = _; unfold opF; simp [h], rfl⟩
  · exact ⟨by show Ending.returned (Value.int .i64 0) = _; unfold opF; simp; omega, rfl⟩

theorem zero_fun (w : World) : ∃ v, (zeroValue 132).run Tryd.prog w = .ok v w := by
  have h : ((Tryd.prog.info? 132).bind (·.zero)).isSome = true := by kernel_rfl
  obtain ⟨z, hz⟩ := Option.isSome_iff_exists.1 h
  obtain ⟨i, hi, hzi⟩ := Option.bind_eq_some_iff.1 hz
  exact ⟨z, by simp [zeroValue, typeInfo, hi, hzi]⟩
def binS (m : Mch) (op : Int) : Mch := pushS (popS (popS m)) (opF op (popV (popS m)) (popV m))
def unS (m : Mch) (l : List Gl) (op : Int) : Mch :=
  if op = 4 then pushS (popS m) (codeZ l (popV m)) else if op = 5 then pushS (popS m) (glyZ l (popV m)).y else if op = 13 then pushS (popS m) (if popV m = 0 then 1 else 0)
  else if op = 14 then pushS (pushS (popS m) (popV m)) (popV m) else if op = 16 then pushS (pushS (popS (popS m)) (popV m)) (popV (popS m))
  else if op = 19 then (if 1 ≤ popV m ∧ popV m ≤ 3 then { popS m with cls := popV m } else popS m) else if op = 20 then (if 0 ≤ popV m ∧ popV m ≤ 60000 then { popS m with wt := popV m } else popS m) else popS m
def simS (m : Mch) (l : List Gl) (op arg : Int) : Mch := match valZ m l op arg with
  | some z => pushS m z
  | none => if 8 ≤ op ∧ op ≤ 12 then binS m op else unS m l op
theorem popS_gl (m : Mch) : (popS m).gl = m.gl := by unfold popS; split <;> rfl
theorem grown_mono {A B : World} {r : Option Nat} (h : A.grownBy B none) : A.grownBy B r := ⟨h.os, h.tape, h.output, h.size, fun k hk _ => h.block k hk (by simp)⟩
theorem IsM.kept {W W' : World} {B : Nat} {m : Mch} (h : IsM W B m) (k : Below W.heap.size W W') : IsM W' B m := ⟨(k.block B h.lt).trans h.h, h.s, h.d⟩
structure Env (w0 : World) (l : List Gl) (B : Nat) (m : Mch) (W : World) : Prop where
  g : GlobOk (mkEnv globT []) gtab w0
  b : Below w0.heap.size w0 W
  hB : w0.heap.size ≤ B
  hm : IsM W B m
  r : GRow l m.gl w0
  hl : ∀ g ∈ l, g.s.length ≤ 100000
theorem Env.step {w0 W W' : World} {l : List Gl} {B : Nat} {m m' : Mch} (h : Env w0 l B m W) (hm : IsM W' B m') (hg : m'.gl = m.gl) (k : W.grownBy W' (some B)) : Env w0 l B m' W' :=
  ⟨h.g, ⟨k.os.trans h.b.os, k.tape.trans h.b.tape, k.output.trans h.b.output, Nat.le_trans h.b.size k.size, fun i hi => (k.block i (Nat.lt_of_lt_of_le hi h.b.size) (by have := h.hB; simp; omega)).trans (h.b.block i hi)⟩, h.hB, hm, by rw [hg]; exact h.r, h.hl⟩
theorem Env.row {w0 W : World} {l : List Gl} {B : Nat} {m : Mch} (h : Env w0 l B m W) : GRow l m.gl W := by
  have k := h.b
  refine ⟨h.r.1, ?_⟩
  rcases h.r.2 with h0 | ⟨b, off, cap, e, hb, hc⟩
  · exact .inl h0
  · refine .inr ⟨b, off, cap, e, Nat.lt_of_lt_of_le hb k.size, fun i hi j hj => ?_⟩
    rw [World.cell?_of_block (k.block b hb)]
    exact hc i hi j hj
theorem Env.grow {w0 W W' : World} {l : List Gl} {B : Nat} {m : Mch} (h : Env w0 l B m W) (k : Below W.heap.size W W') : Env w0 l B m W' := h.step (h.hm.kept k) rfl (grown_below k _)
theorem Env.alloc {w0 W : World} {l : List Gl} {B : Nat} {m : Mch} (h : Env w0 l B m W) (o : Obj) : Env w0 l B m (W.alloc o) := h.grow ((Below.refl _ W).alloc (Nat.le_refl _) o)
theorem Env.drew {w0 W : World} {l : List Gl} {B : Nat} {m : Mch} (h : Env w0 l B m W) : Env w0 l B m W.drew := h.grow (Below.refl _ W).drew
theorem pushS_gl (m : Mch) (z : Int) : (pushS m z).gl = m.gl := by unfold pushS; split <;> rfl
theorem Env.pop {w0 W : World} {l : List Gl} {B : Nat} {m : Mch} (h : Env w0 l B m W) : Calls Tryd.prog 29 #[.pointer (some ⟨B, 0, none⟩)] W fun e W' => e = .returned (.int .i64 (popV m)) ∧ Env w0 l B (popS m) W' ∧ W.grownBy W' (some B) :=
  (pop_in W B m h.hm).mono fun e W' ⟨h1, h2, h3⟩ => ⟨h1, h.step h2 (popS_gl m) h3, h3⟩
theorem Env.push {w0 W : World} {l : List Gl} {B : Nat} {m : Mch} (h : Env w0 l B m W) (z : Int) : Calls Tryd.prog 61 #[.pointer (some ⟨B, 0, none⟩), .int .i64 z] W fun e W' => (∃ v, e = .returned v) ∧ Env w0 l B (pushS m z) W' ∧ W.grownBy W' (some B) :=
  (push_in W B m z h.hm).mono fun e W' ⟨h1, h2, h3⟩ => ⟨h1, h.step h2 (pushS_gl m z) h3, h3⟩
theorem Env.code {w0 W : World} {l : List Gl} {B : Nat} {m : Mch} (h : Env w0 l B m W) (i : Int) : Calls Tryd.prog 62 #[.pointer (some ⟨B, 0, none⟩), .int .i64 i] W fun e W' => e = .returned (.int .i64 (codeZ l i)) ∧ Env w0 l B m W' ∧ W.grownBy W' (some B) :=
  (code_in h.g W h.b B m l i h.hm h.row h.hl).mono fun e W' ⟨h1, h2⟩ => ⟨h1, h.grow h2, grown_below h2 _⟩
theorem Env.glyph {w0 W : World} {l : List Gl} {B : Nat} {m : Mch} (h : Env w0 l B m W) (i : Int) : Calls Tryd.prog 63 #[.pointer (some ⟨B, 0, none⟩), .int .i64 i] W fun e W' => e = .returned (.tuple #[.agg #[.string ⟨(glyZ l i).s.toArray⟩, .bool (glyZ l i).w, .int .i64 (glyZ l i).y], .bool (decide (0 ≤ i ∧ i < l.length))]) ∧ Env w0 l B m W' ∧ W.grownBy W' (some B) :=
  (glyph_in W B m l i h.hm h.row).mono fun e W' ⟨h1, h2⟩ => ⟨h1, h.grow (below_grown h2), grown_mono h2⟩
theorem Env.value {w0 W : World} {l : List Gl} {B : Nat} {m : Mch} (h : Env w0 l B m W) (op arg : Int) : Calls Tryd.prog 59 #[.pointer (some ⟨B, 0, none⟩), insV op arg] W fun e W' => e = .returned (.bool (valZ m l op arg).isSome) ∧ Env w0 l B ((valZ m l op arg).elim m (pushS m)) W' ∧ W.grownBy W' (some B) :=
  (value_in W B m l op arg h.hm h.row).mono fun e W' ⟨h1, h2, h3⟩ => ⟨h1, h.step h2 (by cases valZ m l op arg <;> simp [pushS_gl]) h3, h3⟩

set_option maxRecDepth 100000 in
set_option maxHeartbeats 4000000 in
theorem simple_val {w0 : World} {l : List Gl} {W : World} {B : Nat} {m : Mch} {op arg : Int} (h : Env w0 l B m W) (hv : (valZ m l op arg).isSome = true) :
    Calls Tryd.prog 30 #[.pointer (some ⟨B, 0, none⟩), insV op arg] W fun e W' => (∃ v, e = .returned v) ∧ Env w0 l B (simS m l op arg) W' ∧ W.grownBy W' (some B) := by
  obtain ⟨z, hz⟩ := Option.isSome_iff_exists.1 hv
  have hs : simS m l op arg = pushS m z := by unfold simS; rw [hz]
  rw [hs]
  have key := fun o => (h.alloc o).value op arg
  rw [hz] at key
  refine (callsIn_wide (n := 8)).1 ?_
  refine callsIn_of_wp Tryd.func30 rfl trivial ?_ rfl
  unfold insV at key ⊢
  simp only [Tryd.ntmps30, List.size_toArray, List.length_cons, List.length_nil, Nat.reduceAdd, Nat.reduceSub, Array.replicate_succ, Array.replicate_zero, List.push_toArray, List.append_toArray, List.nil_append, List.cons_append]
  gi_wp2_with (refine ⟨trivial, ?_⟩; gi_at_call 59; refine (callsIn_wide.2 (key _)).mono ?_; rintro e w' ⟨rfl, hm, hg⟩)
  refine bodyPost_ret (results_none rfl _ _ _) rfl ?_
  exact ⟨⟨_, rfl⟩, hm, kept_alloc hg⟩
theorem copy_kept {W W' : World} {N B : Nat} {cs : Array Value} {t : TypeId} (h : W.heap[N]? = some (.cells cs t (0, 0))) (k : W.grownBy W' (some B)) (hne : N ≠ B) : W'.heap[N]? = some (.cells cs t (0, 0)) := (k.block N (Array.getElem?_eq_some_iff.1 h).1 (by simpa using hne)).trans h
theorem copy_cell {W : World} {N : Nat} {cs : Array Value} {t : TypeId} (h : W.heap[N]? = some (.cells cs t (0, 0))) (i : Nat) {v : Value} (hv : cs[i]? = some v) : W.cell? ⟨N, i, none⟩ = some v := by simp [World.cell?, h, hv]
set_option maxRecDepth 100000 in
set_option maxHeartbeats 4000000 in
theorem simple_bin {w0 : World} {l : List Gl} {W : World} {B : Nat} {m : Mch} {arg : Int} (h : Env w0 l B m W) (op : Int) (f : Nat) (hop : (op, f) ∈ opsL) (hf : ∀ W a b, Calls Tryd.prog f #[.int .i64 a, .int .i64 b] W fun e W' => e = .returned (.int .i64 (opF op a b)) ∧ W' = W) :
    Calls Tryd.prog 30 #[.pointer (some ⟨B, 0, none⟩), insV op arg] W fun e W' => (∃ v, e = .returned v) ∧ Env w0 l B (binS m op) W' ∧ W.grownBy W' (some B) := by
  have key := fun o => (h.alloc o).value op arg
  have hn : valZ m l op arg = none := by
    simp only [opsL, List.mem_cons, Prod.mk.injEq, List.not_mem_nil, or_false] at hop
    rcases hop with ⟨rfl, _⟩ | ⟨rfl, _⟩ | ⟨rfl, _⟩ | ⟨rfl, _⟩ | ⟨rfl, _⟩ <;> rfl
  rw [hn] at key
  simp only [opsL, List.mem_cons, Prod.mk.injEq, List.not_mem_nil, or_false] at hop
  refine (callsIn_wide (n := 8)).1 ?_
  refine callsIn_of_wp Tryd.func30 rfl trivial ?_ rfl
  unfold insV at key ⊢
  simp only [Tryd.ntmps30, List.size_toArray, List.length_cons, List.length_nil, Nat.reduceAdd, Nat.reduceSub, Array.replicate_succ, Array.replicate_zero, List.push_toArray, List.append_toArray, List.nil_append, List.cons_append]
  gi_wp2_with (refine ⟨trivial, ?_⟩; gi_at_call 59; refine (callsIn_wide.2 (key _)).mono ?_; rintro e W1 ⟨rfl, h1, g1⟩)
  have n1 := World.alloc_heap_new W (.cells #[.int .i64 op, .int .i64 arg] 88)
  have hB1 : W.heap.size ≠ B := fun e => by have := h.hm.lt; omega
  have n2 := copy_kept n1 g1 hB1
  have c0 := copy_cell n2 0 rfl
  have g2 := kept_alloc g1
  clear key h n1 g1
  have hop9 := fun W => operations_in W
  rcases hop with ⟨rfl, rfl⟩ | ⟨rfl, rfl⟩ | ⟨rfl, rfl⟩ | ⟨rfl, rfl⟩ | ⟨rfl, rfl⟩
  · gi_region_with (refine ⟨trivial, ?_⟩; gi_at_call 60; refine (callsIn_wide.2 (hop9 _)).mono ?_; rintro e W3 ⟨rfl, hb3, hB3⟩; have hlk := run_lookup_int (P := Tryd.prog) 134 3 132 W1.heap.size _ _ 8 0 _ Tryd.underlying134 Tryd.underlying3 hb3 (by rfl); have n3 := (hB3.block _ (show W.heap.size < W1.drew.heap.size from (Array.getElem?_eq_some_iff.1 n2).1)).trans n2; have c3 := copy_cell n3 0 rfl; have hE := h1.drew.grow hB3; have hG := grown_trans g2 (grown_trans (grown_drew ⟨rfl, rfl, rfl, Nat.le_refl _, fun _ _ _ => rfl⟩) (grown_below hB3 _)))
    all_goals
      clear hlk c0 c3 n3 n2 h1 g2 hop9
      gi_wp2_with (first
        | (refine ⟨trivial, ?_⟩; gi_at_call 29; refine (callsIn_wide.2 hE.pop).mono ?_; rintro e W9 ⟨rfl, hE, hg⟩; have hG := grown_trans hG hg)
        | (refine ⟨trivial, ?_⟩; gi_at_call 101; refine (callsIn_wide.2 (hf _ _ _)).mono ?_; rintro e w9 ⟨rfl, rfl⟩)
        | (refine ⟨trivial, ?_⟩; gi_at_call 61; refine (callsIn_wide.2 (hE.push _)).mono ?_; rintro e W9 ⟨⟨v, rfl⟩, hE, hg⟩; have hG := grown_trans hG hg))
      refine bodyPost_ret (results_none rfl _ _ _) rfl ?_
      exact ⟨⟨_, rfl⟩, hE, hG⟩
  · gi_region_with (refine ⟨trivial, ?_⟩; gi_at_call 60; refine (callsIn_wide.2 (hop9 _)).mono ?_; rintro e W3 ⟨rfl, hb3, hB3⟩; have hlk := run_lookup_int (P := Tryd.prog) 134 3 132 W1.heap.size _ _ 9 1 _ Tryd.underlying134 Tryd.underlying3 hb3 (by rfl); have n3 := (hB3.block _ (show W.heap.size < W1.drew.heap.size from (Array.getElem?_eq_some_iff.1 n2).1)).trans n2; have c3 := copy_cell n3 0 rfl; have hE := h1.drew.grow hB3; have hG := grown_trans g2 (grown_trans (grown_drew ⟨rfl, rfl, rfl, Nat.le_refl _, fun _ _ _ => rfl⟩) (grown_below hB3 _)))
    all_goals
      clear hlk c0 c3 n3 n2 h1 g2 hop9
      gi_wp2_with (first
        | (refine ⟨trivial, ?_⟩; gi_at_call 29; refine (callsIn_wide.2 hE.pop).mono ?_; rintro e W9 ⟨rfl, hE, hg⟩; have hG := grown_trans hG hg)
        | (refine ⟨trivial, ?_⟩; gi_at_call 102; refine (callsIn_wide.2 (hf _ _ _)).mono ?_; rintro e w9 ⟨rfl, rfl⟩)
        | (refine ⟨trivial, ?_⟩; gi_at_call 61; refine (callsIn_wide.2 (hE.push _)).mono ?_; rintro e W9 ⟨⟨v, rfl⟩, hE, hg⟩; have hG := grown_trans hG hg))
      refine bodyPost_ret (results_none rfl _ _ _) rfl ?_
      exact ⟨⟨_, rfl⟩, hE, hG⟩
  · gi_region_with (refine ⟨trivial, ?_⟩; gi_at_call 60; refine (callsIn_wide.2 (hop9 _)).mono ?_; rintro e W3 ⟨rfl, hb3, hB3⟩; have hlk := run_lookup_int (P := Tryd.prog) 134 3 132 W1.heap.size _ _ 10 2 _ Tryd.underlying134 Tryd.underlying3 hb3 (by rfl); have n3 := (hB3.block _ (show W.heap.size < W1.drew.heap.size from (Array.getElem?_eq_some_iff.1 n2).1)).trans n2; have c3 := copy_cell n3 0 rfl; have hE := h1.drew.grow hB3; have hG := grown_trans g2 (grown_trans (grown_drew ⟨rfl, rfl, rfl, Nat.le_refl _, fun _ _ _ => rfl⟩) (grown_below hB3 _)))
    all_goals
      clear hlk c0 c3 n3 n2 h1 g2 hop9
      gi_wp2_with (first
        | (refine ⟨trivial, ?_⟩; gi_at_call 29; refine (callsIn_wide.2 hE.pop).mono ?_; rintro e W9 ⟨rfl, hE, hg⟩; have hG := grown_trans hG hg)
        | (refine ⟨trivial, ?_⟩; gi_at_call 103; refine (callsIn_wide.2 (hf _ _ _)).mono ?_; rintro e w9 ⟨rfl, rfl⟩)
        | (refine ⟨trivial, ?_⟩; gi_at_call 61; refine (callsIn_wide.2 (hE.push _)).mono ?_; rintro e W9 ⟨⟨v, rfl⟩, hE, hg⟩; have hG := grown_trans hG hg))
      refine bodyPost_ret (results_none rfl _ _ _) rfl ?_
      exact ⟨⟨_, rfl⟩, hE, hG⟩
  · gi_region_with (refine ⟨trivial, ?_⟩; gi_at_call 60; refine (callsIn_wide.2 (hop9 _)).mono ?_; rintro e W3 ⟨rfl, hb3, hB3⟩; have hlk := run_lookup_int (P := Tryd.prog) 134 3 132 W1.heap.size _ _ 11 3 _ Tryd.underlying134 Tryd.underlying3 hb3 (by rfl); have n3 := (hB3.block _ (show W.heap.size < W1.drew.heap.size from (Array.getElem?_eq_some_iff.1 n2).1)).trans n2; have c3 := copy_cell n3 0 rfl; have hE := h1.drew.grow hB3; have hG := grown_trans g2 (grown_trans (grown_drew ⟨rfl, rfl, rfl, Nat.le_refl _, fun _ _ _ => rfl⟩) (grown_below hB3 _)))
    all_goals
      clear hlk c0 c3 n3 n2 h1 g2 hop9
      gi_wp2_with (first
        | (refine ⟨trivial, ?_⟩; gi_at_call 29; refine (callsIn_wide.2 hE.pop).mono ?_; rintro e W9 ⟨rfl, hE, hg⟩; have hG := grown_trans hG hg)
        | (refine ⟨trivial, ?_⟩; gi_at_call 104; refine (callsIn_wide.2 (hf _ _ _)).mono ?_; rintro e w9 ⟨rfl, rfl⟩)
        | (refine ⟨trivial, ?_⟩; gi_at_call 61; refine (callsIn_wide.2 (hE.push _)).mono ?_; rintro e W9 ⟨⟨v, rfl⟩, hE, hg⟩; have hG := grown_trans hG hg))
      refine bodyPost_ret (results_none rfl _ _ _) rfl ?_
      exact ⟨⟨_, rfl⟩, hE, hG⟩
  · gi_region_with (refine ⟨trivial, ?_⟩; gi_at_call 60; refine (callsIn_wide.2 (hop9 _)).mono ?_; rintro e W3 ⟨rfl, hb3, hB3⟩; have hlk := run_lookup_int (P := Tryd.prog) 134 3 132 W1.heap.size _ _ 12 4 _ Tryd.underlying134 Tryd.underlying3 hb3 (by rfl); have n3 := (hB3.block _ (show W.heap.size < W1.drew.heap.size from (Array.getElem?_eq_some_iff.1 n2).1)).trans n2; have c3 := copy_cell n3 0 rfl; have hE := h1.drew.grow hB3; have hG := grown_trans g2 (grown_trans (grown_drew ⟨rfl, rfl, rfl, Nat.le_refl _, fun _ _ _ => rfl⟩) (grown_below hB3 _)))
    all_goals
      clear hlk c0 c3 n3 n2 h1 g2 hop9
      gi_wp2_with (first
        | (refine ⟨trivial, ?_⟩; gi_at_call 29; refine (callsIn_wide.2 hE.pop).mono ?_; rintro e W9 ⟨rfl, hE, hg⟩; have hG := grown_trans hG hg)
        | (refine ⟨trivial, ?_⟩; gi_at_call 105; refine (callsIn_wide.2 (hf _ _ _)).mono ?_; rintro e w9 ⟨rfl, rfl⟩)
        | (refine ⟨trivial, ?_⟩; gi_at_call 61; refine (callsIn_wide.2 (hE.push _)).mono ?_; rintro e W9 ⟨⟨v, rfl⟩, hE, hg⟩; have hG := grown_trans hG hg))
      refine bodyPost_ret (results_none rfl _ _ _) rfl ?_
      exact ⟨⟨_, rfl⟩, hE, hG⟩
end
end Go.Proofs.YtlhagkbhojmjpaaDoor

/- Written by this repo's own program out of its texts. -/
import Derived.Test.YtlhagkbhojmjpaaGreatDoorPFc
import Derived.MapKept
import Derived.Laws.RangeString
import Derived.RangeFuncNested
set_option linter.unusedSimpArgs false
set_option linter.unusedVariables false
set_option linter.unusedSectionVars false
namespace Go.Proofs.YtlhagkbhojmjpaaGreatDoor
open Go.RowKit
def strV (b : List UInt8) : Value := .string ⟨b.toArray⟩
def strC (l : List (List UInt8)) : List Value := l.map strV
theorem strC_len (l : List (List UInt8)) : (strC l).length = l.length := List.length_map _
theorem strC_app (a b : List (List UInt8)) : strC (a ++ b) = strC a ++ strC b := List.map_append
theorem strC_get {l : List (List UInt8)} {i : Nat} {b : List UInt8} (h : l[i]? = some b) : (strC l)[i]? = some (strV b) := by
 unfold strC; rw [List.getElem?_map, h]; rfl
theorem strC_one (l : List (List UInt8)) : ∀ u ∈ strC l, u.oneCell' = true := fun u hu => by
 obtain ⟨b, _, rfl⟩ := List.mem_map.1 hu
 rfl
theorem rowT_strs (M : Mem) (l : List (List UInt8)) : RowT M false [.str] (l.map TV.str) (strC l) := by
 refine ⟨by simp [strC], fun i hi c hc => ?_⟩
 have hc0 : c = 0 := by simpa using hc
 subst hc0
 have hi' : i < l.length := by simpa using hi
 refine ⟨strV l[i], by simp [strC, hi'], ?_⟩
 have e : zbk false ((l.map TV.str)[i]) 0 = .str l[i] := by simp [zbk]
 rw [e]
 exact RepT.str (.str l[i])
theorem gOf_own {w : World} {B : Nat} {e : TypeId} {size n : Nat} {v : Value} {xs : List Value} (h : w.ownsRow B e size v n xs) : ∀ g, gOf v = some g → B ≤ g ∧ g < w.heap.size := by
 intro g hg
 rcases h.2 with ⟨rfl, _⟩ | ⟨b, cap, cur, rfl, hb, hh, _⟩
 ·cases hg
 ·have : b = g := by simpa [gOf] using hg
  subst this
  exact ⟨hb, (Array.getElem?_eq_some_iff.1 hh).1⟩
theorem res_strs {B : Nat} {w : World} {e : TypeId} {l : List (List UInt8)} {v : Value} (h : w.ownsRow B e 1 v l.length (strC l)) : ResRep B w (fun g => gOf v = some g) [(false, [((.slice false [.str]), some e)])] (.list (l.map TV.str)) v := by
 refine ⟨[v], by simp, rfl, fun i x u hx hu => ?_, rfl, fun i x u hx hu => ?_, ?_⟩
 ·cases i with
  | zero => simp at hx; subst hx; rfl
  | succ i => simp at hx
 ·cases i with
  | zero =>
   have hx : (((CT.slice false [.str]), some e), TV.list (l.map TV.str)) = x := by simpa [zx6, zlm, zbk] using hx
   have hu : v = u := by simpa [zdc, flatV] using hu
   subst hx hu
   exact ⟨strC l, by rw [zaa, List.length_map]; exact h, rowT_strs _ l, fun g hg => hg⟩
  | succ i => simp [zx6, zlm] at hx
 ·have : (zb0 (zfx [(false, [((CT.slice false [.str]), some e)])]) (zdc [(false, [((CT.slice false [.str]), some e)])] [v])).length ≤ 1 := by
   simp only [zb0, zfx, zdc, flatV, List.append_nil, Bool.false_eq_true, if_false]
   exact List.length_filterMap_le _ _
  generalize zb0 _ _ = z at this ⊢
  match z, this with
  | [], _ => exact List.nodup_nil
  | [a], _ => simp
theorem Contract.leafS {P : Program} {Γ : CEnv} {gt : GT} {f : FuncId} {no : Nat} {e : TypeId} {args : List (Bool × List CT)} {pre : List TV → Prop} {post : List TV → TV → Prop} (en : Enters P f)
  (h : ∀ (w : World) (ts : List TV) (vs : Array Value), GlobOk Γ gt w → zn2 w args ts vs.toList → pre ts → ∃ l : List (List UInt8), post ts (.list (l.map .str)) ∧ Calls P f vs w fun x w' => ∃ v, x = .returned v ∧ w'.ownsRow w.heap.size e 1 v l.length (strC l) ∧ Below w.heap.size w w') :
  Contract P Γ gt ⟨f, no, args, [(false, [((.slice false [.str]), some e)])]⟩ pre post where
 enters := en
 calls := fun w ts vs hg ha hp => by
  obtain ⟨l, h2, h3⟩ := h w ts vs hg ha hp
  exact h3.mono fun x w' ⟨v, he, ho, hb⟩ => ⟨_, v, fun g => gOf v = some g, he, h2, hb, gOf_own ho, res_strs ho⟩
theorem ResRep.strs {B : Nat} {w : World} {G : Nat → Prop} {e : TypeId} {l : List (List UInt8)} {v : Value} (h : ResRep B w G [(false, [((.slice false [.str]), some e)])] (.list (l.map TV.str)) v) : w.ownsRow B e 1 v l.length (strC l) := by
 obtain ⟨vs, hv, hl, hs, hlen, hc, _⟩ := h
 match vs, hl with
 | [v'], _ =>
  have h0 : ResC B w G ((.slice false [.str]), some e) (.list (l.map TV.str)) v' := hc 0 _ _ rfl rfl
  obtain ⟨xs, h1, h2, _⟩ := h0
  have hvv : v = v' := hv
  subst hvv
  rw [zaa, List.length_map] at h1
  rw [zaa] at h2
  have hx : xs = strC l := by
   apply List.ext_getElem
   ·rw [h2.1, strC_len, List.length_map]; simp
   ·intro i h3 h4
    have hi : i < l.length := by rw [strC_len] at h4; exact h4
    obtain ⟨u, q1, q2⟩ := h2.2 i (by rw [List.length_map]; exact hi) 0 (by simp)
    have q1 : xs[i]? = some u := by simpa using q1
    rw [List.getElem?_eq_getElem h3] at q1
    have q2 : RepT (fresh w G B) .str (.str l[i]) u := by simpa [zbk] using q2
    cases q2
    have q3 := Option.some.inj q1
    rw [q3]
    simp [strC, strV, TV.asStr]
  rw [hx] at h1
  exact h1
theorem ResRep.two {B : Nat} {w : World} {G : Nat → Prop} {c1 c2 : CT} {t1 t2 : TV} {v1 v2 : Value} (h1 : RepT (fresh w G B) c1 t1 v1) (h2 : RepT (fresh w G B) c2 t2 v2) : ResRep B w G [(false, [(c1, none)]), (false, [(c2, none)])] (.agg [t1, t2]) (.tuple #[v1, v2]) := by
 refine ⟨[v1, v2], rfl, rfl, fun i x u hx hu => ?_, rfl, fun i x u hx hu => ?_, ?_⟩
 ·match i, hx, hu with
  | 0, hx, hu => simp at hx; subst hx; rfl
  | 1, hx, hu => simp at hx; subst hx; rfl
 ·match i, hx, hu with
  | 0, hx, hu =>
   have hx : ((c1, none), t1) = x := by simpa [zx6, zlm, zbk, TV.cell, TV.cells] using hx
   have hu : v1 = u := by simpa [zdc, flatV] using hu
   subst hx hu
   cases c1 <;> exact h1
  | 1, hx, hu =>
   have hx : ((c2, none), t2) = x := by simpa [zx6, zlm, zbk, TV.cell, TV.cells] using hx
   have hu : v2 = u := by simpa [zdc, flatV] using hu
   subst hx hu
   cases c2 <;> exact h2
 ·have : zb0 (zfx [(false, [(c1, none)]), (false, [(c2, (none : Option TypeId))])]) (zdc [(false, [(c1, (none : Option TypeId))]), (false, [(c2, none)])] [v1, v2]) = [] := by cases c1 <;> cases c2 <;> rfl
  rw [this]
  exact List.nodup_nil
theorem Contract.leaf2 {P : Program} {Γ : CEnv} {gt : GT} {f : FuncId} {no : Nat} {args : List (Bool × List CT)} {c1 c2 : CT} {pre : List TV → Prop} {post : List TV → TV → Prop} (en : Enters P f)
  (h : ∀ (w : World) (ts : List TV) (vs : Array Value), GlobOk Γ gt w → zn2 w args ts vs.toList → pre ts → ∃ t1 t2 v1 v2, (∀ M : Mem, RepT M c1 t1 v1) ∧ (∀ M : Mem, RepT M c2 t2 v2) ∧ post ts (.agg [t1, t2]) ∧ Calls P f vs w fun e w' => e = .returned (.tuple #[v1, v2]) ∧ Below w.heap.size w w') :
  Contract P Γ gt ⟨f, no, args, [(false, [(c1, none)]), (false, [(c2, none)])]⟩ pre post where
 enters := en
 calls := fun w ts vs hg ha hp => by
  obtain ⟨t1, t2, v1, v2, h1, h1', h2, h3⟩ := h w ts vs hg ha hp
  exact h3.mono fun e w' ⟨he, hb⟩ => ⟨.agg [t1, t2], .tuple #[v1, v2], fun _ => False, he, h2, hb, fun g hg => hg.elim, ResRep.two (h1 _) (h1' _)⟩
def fnd (s : List UInt8) : List (List UInt8 × Value) → Nat → Option (Nat × Value)
 | [], _ => none
 | x :: l, i => if x.1 = s then some (i, x.2) else fnd s l (i + 1)
theorem bytes_beq' (a b : List UInt8) : ((⟨a.toArray⟩ : ByteArray) == ⟨b.toArray⟩) = decide (a = b) := by
 rw [Bool.eq_iff_iff, MapKept.bytes_beq, decide_eq_true_eq]
 constructor
 ·intro e
  have := congrArg (fun x : ByteArray => x.data.toList) e
  simpa using this
 ·intro h; rw [h]
def entOf (e : MapEntry) : Value × Value := (e.key, e.val)
def kvOf (x : List UInt8 × Value) : Value × Value := (strV x.1, x.2)
theorem q36 (s : List UInt8) : ∀ (es : List MapEntry) (kv : List (List UInt8 × Value)) (i : Nat), es.map entOf = kv.map kvOf → Instr.findNow .string (strV s) es i = some (fnd s kv i)
 | [], [], i, h => rfl
 | [], _ :: _, i, h => by simp at h
 | _ :: _, [], i, h => by simp at h
 | e :: es, x :: kv, i, h => by
  simp only [List.map_cons, List.cons.injEq, entOf, kvOf, Prod.mk.injEq] at h
  obtain ⟨⟨h1, h2⟩, h3⟩ := h
  have ih := q36 s es kv (i + 1) h3
  have hs : Instr.sameNow .string (strV s) e.key = some (decide (x.1 = s)) := by
   rw [h1]
   show some ((⟨s.toArray⟩ : ByteArray) == ⟨x.1.toArray⟩) = _
   rw [bytes_beq']
   congr 1
   simp [eq_comm]
  unfold Instr.findNow fnd
  rw [hs]
  by_cases hx : x.1 = s
  ·rw [decide_eq_true hx, if_pos hx]
   simp [h2]
  ·rw [decide_eq_false hx, if_neg hx]
   exact ih
def ins (s : List UInt8) (v : Value) : List (List UInt8 × Value) → List (List UInt8 × Value)
 | [] => [(s, v)]
 | x :: l => if x.1 = s then (s, v) :: l else x :: ins s v l
theorem ins_none {s : List UInt8} {v : Value} : ∀ {l : List (List UInt8 × Value)} {i : Nat}, fnd s l i = none → ins s v l = l ++ [(s, v)]
 | [], i, h => rfl
 | x :: l, i, h => by
  unfold fnd at h
  unfold ins
  split at h
  ·cases h
  ·rename_i c
   rw [if_neg c, ins_none h]; rfl
theorem ins_some {s : List UInt8} {v u : Value} : ∀ {l : List (List UInt8 × Value)} {i j : Nat}, fnd s l i = some (j, u) → i ≤ j ∧ j - i < l.length ∧ ins s v l = l.modify (j - i) (fun _ => (s, v)) ∧ (l[j - i]?.map (·.1)) = some s
 | [], i, j, h => by cases h
 | x :: l, i, j, h => by
  unfold fnd at h
  unfold ins
  split at h
  ·rename_i c
   cases h
   rw [if_pos c, Nat.sub_self]
   exact ⟨Nat.le_refl _, Nat.zero_lt_succ _, rfl, by simp [c]⟩
  ·rename_i c
   obtain ⟨h1, h2, h3, h4⟩ := ins_some (v := v) h
   rw [if_neg c, h3]
   obtain ⟨k, rfl⟩ : ∃ k, j = i + 1 + k := ⟨j - (i + 1), by omega⟩
   rw [show i + 1 + k - i = k + 1 by omega, show i + 1 + k - (i + 1) = k by omega] at *
   exact ⟨by omega, by simpa using h2, rfl, h4⟩
theorem fnd_ins {s t : List UInt8} {v : Value} : ∀ {l : List (List UInt8 × Value)} {i : Nat}, (fnd t (ins s v l) i).map (·.2) = if t = s then some v else (fnd t l i).map (·.2)
 | [], i => by
  unfold ins fnd
  by_cases h : t = s
  ·rw [if_pos h, if_pos h.symm]; rfl
  ·rw [if_neg h, if_neg (fun e => h e.symm)]; rfl
 | x :: l, i => by
  unfold ins
  by_cases hx : x.1 = s
  ·rw [if_pos hx]
   unfold fnd
   by_cases h : t = s
   ·rw [if_pos h, if_pos h.symm]; rfl
   ·rw [if_neg h, if_neg (fun e => h e.symm), if_neg (fun e => h (e.symm.trans hx))]
  ·rw [if_neg hx]
   unfold fnd
   by_cases h : x.1 = t
   ·rw [if_pos h, if_pos h, if_neg (fun e => hx (h.trans e))]
   ·rw [if_neg h, if_neg h]
    exact fnd_ins
def MapHas (W : World) (r : Nat) (f : List UInt8 → Option Value) : Prop :=
 ∃ (es : Array MapEntry) (clk : Nat) (kv : List (List UInt8 × Value)), W.heap[r]? = some (.map es clk) ∧ es.toList.map entOf = kv.map kvOf ∧ ∀ s, (fnd s kv 0).map (·.2) = f s
theorem MapHas.lt {W : World} {r : Nat} {f : List UInt8 → Option Value} (h : MapHas W r f) : r < W.heap.size := by
 obtain ⟨es, clk, kv, h, _⟩ := h
 exact (Array.getElem?_eq_some_iff.1 h).1
theorem MapHas.kept {W W' : World} {r : Nat} {f : List UInt8 → Option Value} (h : MapHas W r f) (k : W'.heap[r]? = W.heap[r]?) : MapHas W' r f := by
 obtain ⟨es, clk, kv, h1, h2⟩ := h
 exact ⟨es, clk, kv, k.trans h1, h2⟩
theorem MapHas.new (W : World) : MapHas (W.alloc (.map #[] 0)) W.heap.size (fun _ => none) := ⟨#[], 0, [], World.alloc_heap_new W _, rfl, fun _ => rfl⟩
theorem MapHas.cong {W : World} {r : Nat} {f g : List UInt8 → Option Value} (h : MapHas W r f) (e : ∀ s, f s = g s) : MapHas W r g := by
 obtain ⟨es, clk, kv, h1, h2, h3⟩ := h
 exact ⟨es, clk, kv, h1, h2, fun s => (h3 s).trans (e s)⟩
theorem run_insert {P : Program} {W : World} {mty kt et : TypeId} {r : Nat} {f : List UInt8 → Option Value} (hm : P.underlying mty = some (.map kt et)) (hk : P.underlying kt = some .string) (h : MapHas W r f) (s : List UInt8) (v : Value) :
  ∃ o : Obj, (Instr.mapUpdate mty (.map (some r)) (strV s) v).run P W = .ok () { W with heap := W.heap.setIfInBounds r o } ∧ MapHas { W with heap := W.heap.setIfInBounds r o } r (fun t => if t = s then some v else f t) ∧ ∃ es clk, o = .map es clk := by
 have hlt := h.lt
 obtain ⟨es, clk, kv, hb, he, hf⟩ := h
 have hkey : MapKept.IsKey .string (strV s) := by simp [MapKept.IsKey, strV]
 have hc : (Instr.checkKey false 10000 kt (strV s)).run P W = .ok () W := MapKept.run_checkKey (k := strV s) hk hkey false 9999
 have hn := q36 s es.toList kv 0 he
 have hin : ∀ s', (fnd s' (ins s v kv) 0).map (·.2) = if s' = s then some v else f s' := fun s' => by rw [fnd_ins, hf]
 cases hfd : fnd s kv 0 with
 | none =>
  rw [hfd] at hn
  refine ⟨.map (es.push { key := strV s, val := v, born := clk }) (clk + 1), ?_, ⟨es.push { key := strV s, val := v, born := clk }, clk + 1, ins s v kv, by simp [hlt], ?_, hin⟩, _, _, rfl⟩
  ·simp [Instr.mapUpdate, run_underlying hm, MapKept.run_getObj_map hb, hc, MapKept.run_findKey hk hn, MapKept.run_setObj_map _ hb, Result.andThen]
  ·rw [ins_none hfd, Array.toList_push, List.map_append, List.map_append, he]
   rfl
 | some q =>
  obtain ⟨j, u⟩ := q
  rw [hfd] at hn
  obtain ⟨_, h2, h3, h4⟩ := ins_some (v := v) hfd
  rw [Nat.sub_zero] at h2 h3 h4
  have hlen : es.size = kv.length := by
   have := congrArg List.length he
   simpa using this
  have hj : es[j]? = some (es[j]'(by omega)) := Array.getElem?_eq_getElem (by omega)
  have hkj : (es[j]'(by omega)).key = strV s := by
   have h5 := congrArg (fun l => l[j]?) he
   simp only [List.getElem?_map] at h5
   rw [Array.getElem?_toList, hj] at h5
   cases hq : kv[j]? with
   | none => rw [hq] at h4; cases h4
   | some x =>
    rw [hq] at h4 h5
    have h6 : x.1 = s := Option.some.inj h4
    simp only [Option.map_some, Option.some.injEq, entOf, kvOf, Prod.mk.injEq] at h5
    rw [h5.1, h6]
  refine ⟨.map (es.modify j fun e => { e with key := strV s, val := v }) clk, ?_, ⟨es.modify j fun e => { e with key := strV s, val := v }, clk, ins s v kv, by simp [hlt], ?_, hin⟩, _, _, rfl⟩
  ·simp [Instr.mapUpdate, run_underlying hm, MapKept.run_getObj_map hb, hc, MapKept.run_findKey hk hn, hj, hkj, MapKept.run_keyThatStays hkey, MapKept.run_setObj_map _ hb, Result.andThen]
  ·rw [h3, Array.toList_modify]
   have hmod : ∀ (a : List MapEntry) (b : List (List UInt8 × Value)) (j : Nat), a.map entOf = b.map kvOf → (a.modify j fun e => { e with key := strV s, val := v }).map entOf = (b.modify j fun _ => (s, v)).map kvOf := by
    intro a
    induction a with
    | nil => intro b j h; cases b with
     | nil => simp
     | cons _ _ => simp at h
    | cons e a ih =>
     intro b j h
     cases b with
     | nil => simp at h
     | cons x b =>
      simp only [List.map_cons, List.cons.injEq] at h
      cases j with
      | zero => simp [h.2, entOf, kvOf]
      | succ j => simp [h.1, ih b j h.2]
   exact hmod _ _ _ he
theorem MapHas.rep {W : World} {r : Nat} {f : List UInt8 → Option Value} {G : Nat → Prop} {B : Nat} {b : Bool} {t : TV} (h : MapHas W r f) (hG : ¬ G r) (hB : B ≤ r) (hf : ∀ s, f s = (mval t.asList s).map (mcv b)) : RepT (fresh W G B) (.map b) t (.map (some r)) := by
 obtain ⟨es, clk, kv, hb, he, hv⟩ := h
 refine .map b t r clk es ⟨hb, hG, hB⟩ fun s => ?_
 have hn := q36 s es.toList kv 0 he
 have h2 := (hv s).trans (hf s)
 cases hfd : fnd s kv 0 with
 | none =>
  rw [hfd] at hn h2
  refine ⟨0, hn.trans ?_⟩
  cases hm : mval t.asList s with
  | none => rfl
  | some x => rw [hm] at h2; cases h2
 | some q =>
  obtain ⟨j, u⟩ := q
  rw [hfd] at hn h2
  refine ⟨j, hn.trans ?_⟩
  cases hm : mval t.asList s with
  | none => rw [hm] at h2; cases h2
  | some x =>
   rw [hm] at h2
   have : u = mcv b x := Option.some.inj h2
   rw [this]; rfl
theorem Contract.leafM {P : Program} {Γ : CEnv} {gt : GT} {f : FuncId} {no : Nat} {b : Bool} {args : List (Bool × List CT)} {pre : List TV → Prop} {post : List TV → TV → Prop} (en : Enters P f)
  (h : ∀ (w : World) (ts : List TV) (vs : Array Value), GlobOk Γ gt w → zn2 w args ts vs.toList → pre ts → ∃ (t : TV) (q : List UInt8 → Option Value), post ts t ∧ (∀ s, q s = (mval t.asList s).map (mcv b)) ∧ Calls P f vs w fun x w' => ∃ r, x = .returned (.map (some r)) ∧ w.heap.size ≤ r ∧ MapHas w' r q ∧ Below w.heap.size w w') :
  Contract P Γ gt ⟨f, no, args, [(false, [((.map b), none)])]⟩ pre post where
 enters := en
 calls := fun w ts vs hg ha hp => by
  obtain ⟨t, q, h2, hq, h3⟩ := h w ts vs hg ha hp
  exact h3.mono fun x w' ⟨r, he, hr, hm, hb⟩ => ⟨t, .map (some r), fun _ => False, he, h2, hb, fun g hg => hg.elim, ResRep.one (hm.rep (fun h => h) hr hq)⟩
theorem ResRep.map {B : Nat} {w : World} {G : Nat → Prop} {b : Bool} {t : TV} {v : Value} (h : ResRep B w G [(false, [((.map b), none)])] t v) : RepT (fresh w G B) (.map b) t v := by
 obtain ⟨vs, hv, hl, hs, _, hc, _⟩ := h
 match vs, hl with
 | [v'], _ =>
  have h2 : RepT (fresh w G B) (.map b) t v' := hc 0 _ _ rfl rfl
  have hvv : v = v' := hv
  subst hvv
  exact h2
end Go.Proofs.YtlhagkbhojmjpaaGreatDoor

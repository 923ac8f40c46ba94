/- The law TopScriptConcealment holds for every input: the row's statement, and the tied card. -/
import Derived.SizedLaws
import Derived.LaidLaws
import Derived.LaidMore
import Derived.Stop.Joined
import Derived.SevenTiedAt
import Derived.Test.YtlhagkbhojmjpaaDoorCards
import Derived.Test.YtlhagkbhojmjpaaDoorTie
import Derived.Test.YtlhagkbhojmjpaaDoorKj
import Derived.Test.YtlhagkbhojmjpaaDoorMd
namespace Go.Proofs.YtlhagkbhojmjpaaDoor.pTopScriptConcealment
open Go Go.ChangeShapes Go.WideShapes Go.ChangeAt Go.RowKit
open Go.ChangeMaps (open_string shut_string)
set_option linter.unusedVariables false
set_option linter.unusedSimpArgs false

noncomputable def laidWorld (os : Os) : World :=
  let w0 := World.holding Tryd.prog os ⟨#[], #[], []⟩
  let put (h : Array Obj) (g : Nat) (cs : Array Value) : Array Obj := h.modify g fun
    | .cells _ t frozen => .cells cs t frozen
    | o => o
  let h0 := put w0.heap 4 ((List.range 16).flatMap fun i => [Value.int .u8 (Lib.accLo i), Value.int .u8 (Lib.accHi i)]).toArray
  let h1 := put h0 0 (popsZ.map fun z => Value.int .i64 z).toArray
  let h2 := put h1 1 (pushZ.map fun z => Value.int .i64 z).toArray
  let h3 := put h2 3 (Lib.firstTab.map fun z => Value.int .u8 z).toArray
  { w0 with heap := h3 }
theorem door_met (os : Os) (args : Array Value) : laidMetH Tryd.prog Rows.topScriptConcealmentRow.laid ((laidWorld os).forCall (fun _ _ => 0) ⟨#[], args, []⟩).memory := by
  rw [MakeChecks.laidMetH_plain _ _ _ (by kernel_rfl)]
  exact (LaidIn.of_run (l := Rows.topScriptConcealmentRow.laid) [4, 0, 1, 3] 8 (by kernel_rfl) (by kernel_rfl) (by kernel_rfl) (by kernel_rfl)).met

set_option maxRecDepth 100000 in
theorem lifted (os : Os) (started : os.Started) (H : Type) (enc : TypeId × Value → H) :
    ReturnsInHanded {} Tryd.checked os 4 .any (fun w args => (Rows.topScriptConcealmentSpec.pre enc Tryd.prog Tryd.f4 Rows.topScriptConcealmentRow.domain false w args ∧ laidMetH Tryd.prog Rows.topScriptConcealmentRow.laid w) ∧ sizedMet enc Tryd.prog Tryd.f4 (OpenSpec.ofChange Rows.topScriptConcealmentSpec) false w args)
      (Rows.topScriptConcealmentSpec.post enc Tryd.prog Tryd.f4 false true false false) := by
  refine returnsInHanded_of_change_and (C := Tryd.checked) (X := fun w _ => laidMetH Tryd.prog Rows.topScriptConcealmentRow.laid w) (fun _ _ _ hh h => h.of_heap hh) ownT started (by kernel_rfl) Tryd.func4
    (ChangeSpec.witness_shaped (enc := enc) (C := Tryd.checked) (os := os) (X := fun w _ => laidMetH Tryd.prog Rows.topScriptConcealmentRow.laid w) false (laidWorld os) #[.slice none 0 0, .agg #[.int .i64 0, .int .i64 0, .slice none 0 0, .int .i64 0, .int .i64 0, .slice none 0 0, .int .i64 0, .int .i64 0, .bool false, .int .i64 0, .int .i64 0, .bool false, .int .i64 0, .int .i64 0, .int .i64 0, .bool false, .int .u8 0, .int .u8 0, .int .i64 0, .int .i64 0, .int .i64 0, .int .i64 0, .bool false, .bool false, .bool false, .bool false, .bool false, .bool false, .bool false, .bool false, .int .u8 0, .int .u8 0, .int .i64 0, .int .i64 0, .int .i64 0, .slice none 0 0, .slice none 0 0, .int .i64 0, .string ⟨#[]⟩, .string ⟨#[]⟩, .string ⟨#[]⟩, .string ⟨#[]⟩], .string ⟨#[]⟩, .string ⟨#[]⟩, .agg #[.int .i64 0, .int .i64 0, .int .i64 0]] 8 rfl (World.shaped_of_RefB (by kernel_rfl) (by kernel_rfl)) (by kernel_rfl) (by kernel_rfl) (by kernel_rfl) (door_met os _)) ?_
  intro W base args ds gs before hval0 hW hcnd hsz0 hL hhold
  have hval : ∀ (j : Nat) t v, Tryd.f4.params[j]? = some t → args[j]? = some v → Value.okWide Tryd.prog W .any base t v := hval0
  have hW' := hW
  obtain ⟨p, q, hA0, hV, rfl, hfz, hnd⟩ := hW
  have hA : DataW.TrodAll enc Tryd.prog W 0 (fun _ => true) true Tryd.f4.params.toList args.toList ds p := hA0
  have hsz : (DataW.weightsEach Tryd.prog (Tryd.f4.params.toList ++ Rows.topScriptConcealmentSpec.plain.varTypes Tryd.prog) (ds ++ gs)).all (fun n => decide (n ≤ reachBytes)) = true := hsz0
  rw [MakeChecks.laidMetH_plain _ _ _ (by kernel_rfl)] at hL
  have hglob : GlobOk (mkEnv globT []) gtabU W := zme hL ⟨_, by kernel_rfl, .tail _ (.head _)⟩ ⟨_, by kernel_rfl, .tail _ (.tail _ (.head _))⟩ (by rw [zey]; exact .tail _ (.tail _ (.tail _ (.head _)))) (.head _)
  rw [Tryd.params4] at hA hval hsz
  obtain ⟨v0, vs0, d0, ds0, p0, q0, hargs, rfl, rfl, h0, r0⟩ := trodAll_cons hA
  obtain ⟨v1, vs1, d1, ds1, p1, q1, rfl, rfl, rfl, h1, r1⟩ := trodAll_cons r0
  obtain ⟨v2, vs2, d2, ds2, p2, q2, rfl, rfl, rfl, h2, r2⟩ := trodAll_cons r1
  obtain ⟨v3, vs3, d3, ds3, p3, q3, rfl, rfl, rfl, h3, r3⟩ := trodAll_cons r2
  obtain ⟨v4, vs4, d4, ds4, p4, q4, rfl, rfl, rfl, h4, r4⟩ := trodAll_cons r3
  obtain ⟨rfl, rfl, rfl⟩ := trodAll_nil r4
  obtain rfl : args = #[v0, v1, v2, v3, v4] := by cases args; simp_all
  obtain ⟨rfl, rfl⟩ := trodVars_none hV
  have k0 := h0
  have lt0 : ∀ x ∈ p0, x.block < W.heap.size := by obtain ⟨m, hm⟩ := k0; exact DataW.trod_lt m _ _ _ hm
  have k1 := h1
  have lt1 : ∀ x ∈ p1, x.block < W.heap.size := by obtain ⟨m, hm⟩ := k1; exact DataW.trod_lt m _ _ _ hm
  have k2 := h2
  have lt2 : ∀ x ∈ p2, x.block < W.heap.size := by obtain ⟨m, hm⟩ := k2; exact DataW.trod_lt m _ _ _ hm
  have k3 := h3
  have lt3 : ∀ x ∈ p3, x.block < W.heap.size := by obtain ⟨m, hm⟩ := k3; exact DataW.trod_lt m _ _ _ hm
  have k4 := h4
  have lt4 : ∀ x ∈ p4, x.block < W.heap.size := by obtain ⟨m, hm⟩ := k4; exact DataW.trod_lt m _ _ _ hm
  obtain ⟨t0, rep0, ok0⟩ := zdx (d := 12) (x := (false, [.slice true [.int .i64, .int .i64]])) (by kernel_rfl) (hval 0 22 v0 rfl rfl) h0 (WOk.of_each hsz (i := 0) rfl rfl)
  obtain ⟨t1, rep1, ok1⟩ := zdx (d := 40) (x := (true, tmA)) (by kernel_rfl) (hval 1 53 v1 rfl rfl) h1 (WOk.of_each hsz (i := 1) rfl rfl)
  obtain ⟨t2, rep2, ok2⟩ := zdx (d := 12) (x := (false, [.str])) (by kernel_rfl) (hval 2 9 v2 rfl rfl) h2 (WOk.of_each hsz (i := 2) rfl rfl)
  obtain ⟨t3, rep3, ok3⟩ := zdx (d := 12) (x := (false, [.str])) (by kernel_rfl) (hval 3 9 v3 rfl rfl) h3 (WOk.of_each hsz (i := 3) rfl rfl)
  obtain ⟨t4, rep4, ok4⟩ := zdx (d := 12) (x := (true, [.int .i64, .int .i64, .int .i64])) (by kernel_rfl) (hval 4 25 v4 rfl rfl) h4 (WOk.of_each hsz (i := 4) rfl rfl)
  clear hA0 hval0
  refine ((lawConceal_c 0).law (fun _ _ _ h => by rw [h]; rfl) (w := W) (vs := #[v0, v1, v2, v3, v4]) hglob (zbn rep0 (zbn rep1 (zbn rep2 (zbn rep3 (zbn rep4 zge))))) (conP_of ok0 ok1 ok2 ok3 ok4)).mono fun e W' ⟨he, bel⟩ => ?_
  subst he
  exact ⟨_, rfl, _, _, _, [], _, [], hW', trodAll_mk1 (shut_bool Tryd.underlying4 _), (trodAll_cons_mk (Below.trod laidT (by kernel_rfl) (of_decide_eq_true (by kernel_rfl)) k0 bel lt0) (trodAll_cons_mk (Below.trod laidT (by kernel_rfl) (of_decide_eq_true (by kernel_rfl)) k1 bel lt1) (trodAll_cons_mk (Below.trod laidT (by kernel_rfl) (of_decide_eq_true (by kernel_rfl)) k2 bel lt2) (trodAll_cons_mk (Below.trod laidT (by kernel_rfl) (of_decide_eq_true (by kernel_rfl)) k3 bel lt3) (trodAll_cons_mk (Below.trod laidT (by kernel_rfl) (of_decide_eq_true (by kernel_rfl)) k4 bel lt4) trodAll_mk0))))), rfl, bel.frame _, fun h => by cases h⟩

theorem row_holds : Rows.TopScriptConcealmentSaid :=
  OpenClaim.holds_of_wide 4 Tryd.f4 rfl rfl rfl rfl rfl rfl rfl ⟨rfl, rfl, rfl, rfl, rfl⟩ rfl rfl rfl rfl rfl (by kernel_rfl) Tryd.func4 (by kernel_rfl)
    (of_decide_eq_true (by kernel_rfl)) (by unfold Func.isWrapper; first | (rw [if_pos (by decide +kernel)]; kernel_rfl) | (rw [if_neg (by decide +kernel)]; exact ⟨rfl, rfl⟩))
    (fun os started H enc _ => lifted os started H enc)
theorem proved : Rows.TopScriptConcealmentCardSaid :=
  Claim7.holds_tied_plain_at .later [] [.data, .data, .data, .pinned] true Rows.topScriptConcealmentCard.stood.harness false
    row_holds (fun _ h => by cases h) (by kernel_rfl) (fun _ h => by cases h) topScriptConcealment_row_tie rfl ⟨rfl, rfl⟩ (by kernel_rfl) rfl
    (fun f fn hf hfn => by
      obtain rfl : f = 4 := Option.some.inj ((show Tryd.prog.funcNamed Rows.topScriptConcealmentRow.func = some 4 by kernel_rfl).symm.trans hf) |>.symm
      obtain rfl : fn = Tryd.f4 := (Option.some.inj (Tryd.func4.symm.trans hfn)).symm
      exact ⟨by kernel_rfl, fun j t ht => by
        rw [Tryd.params4] at ht
        have hm : t ∈ (#[22, 53, 9, 9, 25] : Array TypeId).toList := by simpa using Array.mem_of_getElem? ht
        have hall : ((#[22, 53, 9, 9, 25] : Array TypeId).toList.all fun u => !Tryd.prog.wantsStandIn u) = true := by kernel_rfl
        exact (show Tryd.prog.wantsStandIn t = false by simpa using List.all_eq_true.1 hall t hm)⟩)
    (by kernel_rfl)
#print axioms proved
end Go.Proofs.YtlhagkbhojmjpaaDoor.pTopScriptConcealment

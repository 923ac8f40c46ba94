/- Proved: the given statement TopCopiedWordsCardSaid of this seat, as it stands; no condition ahead of it. -/
import Derived.SizedLaws
import Derived.LaidLaws
import Derived.LaidMore
import Derived.Stop.Joined
import Derived.SevenTiedAt
import Derived.Test.YtlhagkbhojmjpaaGreatDoorCards
import Derived.Test.YtlhagkbhojmjpaaGreatDoorTie
import Derived.Test.YtlhagkbhojmjpaaGreatDoorPWf
set_option linter.unusedVariables false
set_option linter.unusedSimpArgs false
namespace Go.Proofs.YtlhagkbhojmjpaaGreatDoor.pTopCopiedWords
open Go Go.ChangeShapes Go.WideShapes Go.ChangeAt Go.RowKit
open Go.ChangeMaps (open_string shut_string)
theorem laid_eq : Rows.topCopiedWordsRow.laid = [("unicode/utf8.acceptRanges", Lib.acceptData), ("unicode.White_Space", Lib.whiteData), ("strings.asciiSpace", (Lib.tabData .u8 asciiZ : DataW Unit)), ("narrator/spokentext.styles", stylesD), ("unicode.CaseRanges", Lib.caseData), ("unicode/utf8.first", Lib.firstData)] := by kernel_rfl
noncomputable def laidWorld (os : Os) : World :=
 let N := (World.settled Tryz.prog os).heap.size
 let w0 := World.holding Tryz.prog os ⟨#[.cells (Lib.whiteT.map fun (z : Nat) => Value.int .u16 (z : Int)).toArray 266, .cells #[.slice (some ⟨N, 0, none⟩) 7 7, .slice none 0 0, .int .i64 2] 263, .cells Lib.caseCells5 293], #[], []⟩
 let put (h : Array Obj) (g : Nat) (cs : Array Value) : Array Obj := h.modify g fun
  | .cells _ t frozen => .cells cs t frozen
  | o => o
 let h1 := put w0.heap 4 (asciiZ.map fun z => Value.int .u8 z).toArray
 let h2 := put h1 0 (Lib.firstTab.map fun z => Value.int .u8 z).toArray
 let h3 := put h2 1 ((List.range 16).flatMap fun i => [Value.int .u8 (Lib.accLo i), Value.int .u8 (Lib.accHi i)]).toArray
 let h4 := put h3 5 #[.pointer (some ⟨N + 1, 0, none⟩)]
 let h5 := put h4 7 #[.slice (some ⟨N + 2, 0, none⟩) 336 336]
 let h6 := put h5 3 (strC stB).toArray
 { w0 with heap := h6 }
theorem door_met (os : Os) (args : Array Value) : laidMetH Tryz.prog Rows.topCopiedWordsRow.laid ((laidWorld os).forCall (fun _ _ => 0) ⟨#[], args, []⟩).memory := by
 rw [MakeChecks.laidMetH_plain _ _ _ (by kernel_rfl), laid_eq]
 exact laidMet_swap (l := [("unicode/utf8.acceptRanges", Lib.acceptData), ("unicode.White_Space", Lib.whiteData), ("strings.asciiSpace", (Lib.tabData .u8 asciiZ : DataW Unit)), ("narrator/spokentext.styles", stylesD)]) (x := ("unicode/utf8.first", Lib.firstData)) (y := ("unicode.CaseRanges", Lib.caseData))
  (laidMet_with_case (ρ := ren_lower) { lays_lower with } lays_lower.t206 ⟨by kernel_rfl, by kernel_rfl, by kernel_rfl, by kernel_rfl, by kernel_rfl, by kernel_rfl⟩
   (l := [("unicode/utf8.acceptRanges", Lib.acceptData), ("unicode.White_Space", Lib.whiteData), ("strings.asciiSpace", (Lib.tabData .u8 asciiZ : DataW Unit)), ("narrator/spokentext.styles", stylesD), ("unicode/utf8.first", Lib.firstData)])
   10 (by kernel_rfl) (by kernel_rfl) (by kernel_rfl) ((World.settled Tryz.prog default).heap.size + 2) 293 (of_decide_eq_true (by kernel_rfl)) (by kernel_rfl) (by kernel_rfl) (by kernel_rfl))
set_option maxRecDepth 100000 in
theorem lifted (os : Os) (started : os.Started) (H : Type) (enc : TypeId × Value → H) :
  ReturnsInHanded {} Tryz.checked os 4 .any (fun w args => (Rows.topCopiedWordsSpec.pre enc Tryz.prog Tryz.f4 Rows.topCopiedWordsRow.domain false w args ∧ laidMetH Tryz.prog Rows.topCopiedWordsRow.laid w) ∧ sizedMet enc Tryz.prog Tryz.f4 (OpenSpec.ofChange Rows.topCopiedWordsSpec) false w args)
   (Rows.topCopiedWordsSpec.post enc Tryz.prog Tryz.f4 false true false false) := by
 refine returnsInHanded_of_change_and (C := Tryz.checked) (X := fun w _ => laidMetH Tryz.prog Rows.topCopiedWordsRow.laid w) (fun _ _ _ hh h => h.of_heap hh) ownT started (by kernel_rfl) Tryz.func4
  (ChangeSpec.witness_shaped (enc := enc) (C := Tryz.checked) (os := os) (X := fun w _ => laidMetH Tryz.prog Rows.topCopiedWordsRow.laid w) false (laidWorld os) #[.agg #[.int .i64 0, .int .i64 0, .slice none 0 0, .int .i64 0, .int .i64 0, .bool false], .agg #[.int .i64 0, .bool false, .bool false, .int .i64 0, .bool false, .int .i64 0], .int .u8 0, .int .u8 0] 8 rfl (World.shaped_of_RefB (by kernel_rfl) (by kernel_rfl)) (by kernel_rfl) (by kernel_rfl) (by kernel_rfl) (door_met os _)) ?_
 intro W base args ds gs before hval0 hW hcnd hsz0 hL hhold
 have hval : ∀ (j : Nat) t v, Tryz.f4.params[j]? = some t → args[j]? = some v → Value.okWide Tryz.prog W .any base t v := hval0
 have hW' := hW
 obtain ⟨p, q, hA0, hV, rfl, hfz, hnd⟩ := hW
 have hA : DataW.TrodAll enc Tryz.prog W 0 (fun _ => true) true Tryz.f4.params.toList args.toList ds p := hA0
 have hsz : (DataW.weightsEach Tryz.prog (Tryz.f4.params.toList ++ Rows.topCopiedWordsSpec.plain.varTypes Tryz.prog) (ds ++ gs)).all (fun n => decide (n ≤ reachBytes)) = true := hsz0
 rw [MakeChecks.laidMetH_plain _ _ _ (by kernel_rfl)] at hL
 have hglob : GlobOk (mkEnv globT []) gtabU W := by
  have hL2 := hL
  rw [laid_eq] at hL2
  exact zme hL2 (.tail _ (.tail _ (.head _))) (.tail _ (.tail _ (.tail _ (.head _)))) (.tail _ (.tail _ (.tail _ (.tail _ (.tail _ (.head _)))))) (.head _)
 rw [Tryz.params4] at hA hval hsz
 obtain ⟨v0, vs0, d0, ds0, p0, q0, hargs, rfl, rfl, h0, r0⟩ := trodAll_cons hA
 obtain ⟨v1, vs1, d1, ds1, p1, q1, rfl, rfl, rfl, h1, r1⟩ := trodAll_cons r0
 obtain ⟨v2, vs2, d2, ds2, p2, q2, rfl, rfl, rfl, h2, r2⟩ := trodAll_cons r1
 obtain ⟨v3, vs3, d3, ds3, p3, q3, rfl, rfl, rfl, h3, r3⟩ := trodAll_cons r2
 obtain ⟨rfl, rfl, rfl⟩ := trodAll_nil r3
 obtain rfl : args = #[v0, v1, v2, v3] := by cases args; simp_all
 obtain ⟨rfl, rfl⟩ := trodVars_none hV
 have k0 := h0
 have lt0 : ∀ x ∈ p0, x.block < W.heap.size := by obtain ⟨m, hm⟩ := k0; exact DataW.trod_lt m _ _ _ hm
 have k1 := h1
 have lt1 : ∀ x ∈ p1, x.block < W.heap.size := by obtain ⟨m, hm⟩ := k1; exact DataW.trod_lt m _ _ _ hm
 have k2 := h2
 have lt2 : ∀ x ∈ p2, x.block < W.heap.size := by obtain ⟨m, hm⟩ := k2; exact DataW.trod_lt m _ _ _ hm
 have k3 := h3
 have lt3 : ∀ x ∈ p3, x.block < W.heap.size := by obtain ⟨m, hm⟩ := k3; exact DataW.trod_lt m _ _ _ hm
 obtain ⟨t0, rep0, ok0⟩ := zdx (d := 12) (x := (true, [.int .i64, .int .i64, .slice false [.slice true [.str, .bool, .int .i64]], .int .i64, .int .i64, .bool])) (by kernel_rfl) (hval 0 24 v0 rfl rfl) h0 (WOk.of_each hsz (i := 0) rfl rfl)
 obtain ⟨t1, rep1, ok1⟩ := zdx (d := 12) (x := (true, [.int .i64, .bool, .bool, .int .i64, .bool, .int .i64])) (by kernel_rfl) (hval 1 30 v1 rfl rfl) h1 (WOk.of_each hsz (i := 1) rfl rfl)
 obtain ⟨t2, rep2, ok2⟩ := zdx (d := 12) (x := (false, [.int .u8])) (by kernel_rfl) (hval 2 5 v2 rfl rfl) h2 (WOk.of_each hsz (i := 2) rfl rfl)
 obtain ⟨t3, rep3, ok3⟩ := zdx (d := 12) (x := (false, [.int .u8])) (by kernel_rfl) (hval 3 5 v3 rfl rfl) h3 (WOk.of_each hsz (i := 3) rfl rfl)
 clear hA0 hval0
 refine ((lawTcw_c 0).law (fun _ _ _ h => by rw [h]; rfl) (w := W) (vs := #[v0, v1, v2, v3]) hglob (zbn rep0 (zbn rep1 (zbn rep2 (zbn rep3 zge)))) (tcwP_of ok0 ok1 ok2 ok3)).mono fun e W' ⟨he, bel⟩ => ?_
 subst he
 exact ⟨_, rfl, _, _, _, [], _, [], hW', trodAll_mk1 (shut_bool Tryz.underlying4 _), (trodAll_cons_mk (Below.trod laidT (by kernel_rfl) (of_decide_eq_true (by kernel_rfl)) k0 bel lt0) (trodAll_cons_mk (Below.trod laidT (by kernel_rfl) (of_decide_eq_true (by kernel_rfl)) k1 bel lt1) (trodAll_cons_mk (Below.trod laidT (by kernel_rfl) (of_decide_eq_true (by kernel_rfl)) k2 bel lt2) (trodAll_cons_mk (Below.trod laidT (by kernel_rfl) (of_decide_eq_true (by kernel_rfl)) k3 bel lt3) trodAll_mk0)))), rfl, bel.frame _, fun h => by cases h⟩
theorem row_holds : Rows.TopCopiedWordsSaid :=
 OpenClaim.holds_of_wide 4 Tryz.f4 rfl rfl rfl rfl rfl rfl rfl ⟨rfl, rfl, rfl, rfl, rfl⟩ rfl rfl rfl rfl rfl (by kernel_rfl) Tryz.func4 (by kernel_rfl)
  (of_decide_eq_true (by kernel_rfl)) (by unfold Func.isWrapper; first | (rw [if_pos (by decide +kernel)]; kernel_rfl) | (rw [if_neg (by decide +kernel)]; exact ⟨rfl, rfl⟩))
  (fun os started H enc _ => lifted os started H enc)
theorem proved : Rows.TopCopiedWordsCardSaid :=
 Claim7.holds_tied_plain_at .later [] [.data, .listed, .data, .widerDeep, .pinned, .pinned] true Rows.topCopiedWordsCard.stood.harness false
  row_holds (fun _ h => by cases h) (by kernel_rfl) (fun _ h => by cases h) topCopiedWords_row_tie rfl ⟨rfl, rfl⟩ (by kernel_rfl) rfl
  (fun f fn hf hfn => by
   obtain rfl : f = 4 := Option.some.inj ((show Tryz.prog.funcNamed Rows.topCopiedWordsRow.func = some 4 by kernel_rfl).symm.trans hf) |>.symm
   obtain rfl : fn = Tryz.f4 := (Option.some.inj (Tryz.func4.symm.trans hfn)).symm
   exact ⟨by kernel_rfl, fun j t ht => by
    rw [Tryz.params4] at ht
    have hm : t ∈ (#[24, 30, 5, 5] : Array TypeId).toList := by simpa using Array.mem_of_getElem? ht
    have hall : ((#[24, 30, 5, 5] : Array TypeId).toList.all fun u => !Tryz.prog.wantsStandIn u) = true := by kernel_rfl
    exact (show Tryz.prog.wantsStandIn t = false by simpa using List.all_eq_true.1 hall t hm)⟩)
  (by kernel_rfl)
#print axioms proved
end Go.Proofs.YtlhagkbhojmjpaaGreatDoor.pTopCopiedWords

/- Packages attr, narratorref04; what terminals can be shown. -/
import Derived.Test.YtlhagkbhojmjpaaDoorKa
import Derived.Test.YtlhagkbhojmjpaaDoorReg
import Derived.Test.YtlhagkbhojmjpaaDoorSuc
import Derived.Test.YtlhagkbhojmjpaaDoorVer
namespace Go.Proofs.YtlhagkbhojmjpaaDoor
set_option linter.unusedSimpArgs false
set_option linter.unusedVariables false
set_option linter.unusedSectionVars false
section
open Go.RowKit Go.Shelf

def atE (f b g : Int) : Int := if f < -1 ∨ 255 < f then 2 else if b < -1 ∨ 255 < b then 2 else if g < 0 ∨ 255 < g then 2 else 0
set_option maxRecDepth 100000 in
theorem atc_in (W : World) (f b g : Int) : Calls Tryd.prog 75 #[.agg #[.int .i64 f, .int .i64 b, .int .i64 g]] W fun e w' => e = .returned (.int .i64 (atE f b g)) ∧ Below W.heap.size W w' := by
  refine (callsIn_wide (n := 8)).1 ?_
  refine callsIn_of_wp Tryd.func75 rfl trivial ?_ rfl
  simp only [Tryd.ntmps75, List.size_toArray, List.length_cons, List.length_nil, Nat.reduceAdd, Nat.reduceSub, Array.replicate_succ, Array.replicate_zero, List.push_toArray, List.append_toArray, List.nil_append, List.cons_append]
  gi_wp2_with fail
  generalize hW1 : W.alloc (.cells #[.int .i64 f, .int .i64 b, .int .i64 g] 43) = W1
  have hb : Below W.heap.size W W1 := by rw [← hW1]; exact (Below.refl _ W).alloc (Nat.le_refl _) _
  have c2 : W1.cell? ⟨W.heap.size, 2, none⟩ = some (.int .i64 g) := by rw [← hW1]; exact (HasC.new W #[.int .i64 f, .int .i64 b, .int .i64 g] 43).cell 2 rfl
  have hlt : W.heap.size < W1.heap.size := by rw [← hW1]; simp
  clear hW1
  have hs : ∀ w', (sizeOf 3).run Tryd.prog w' = .ok 1 w' := fun w' => by kernel_rfl
  have hx0 : ∀ w', (Instr.index 194 (.agg #[.int .i64 f, .int .i64 b]) (.int .i64 0)).run Tryd.prog w' = .ok (.int .i64 f) w' := fun w' => by
    simp [Instr.index, run_underlying Tryd.underlying194, asIntOf, go_sem, hs]
  have hx1 : ∀ w', (Instr.index 194 (.agg #[.int .i64 f, .int .i64 b]) (.int .i64 1)).run Tryd.prog w' = .ok (.int .i64 b) w' := fun w' => by
    simp [Instr.index, run_underlying Tryd.underlying194, asIntOf, go_sem, hs]
  gi_loopw [10] (fun vi wr => ∃ i : Int, vi = .int .i64 i ∧ wr = W1 ∧ (i = 0 ∨ i = 1 ∨ i = 2) ∧ (1 ≤ i → ¬ (f < -1 ∨ 255 < f)) ∧ (2 ≤ i → ¬ (b < -1 ∨ 255 < b))) (fun vi _ => 2 - (intOf vi).toNat)
  case atStart => exact ⟨0, rfl, rfl, .inl rfl, fun h => by omega, fun h => by omega⟩
  case round =>
    obtain ⟨i, rfl, rfl, h2, k1, k2⟩ := hrel
    rcases h2 with rfl | rfl | rfl
    · by_cases h1 : f < -1
      · gi_wp2_with fail
        go_ret
        refine ⟨?_, hb⟩
        show Ending.returned (Value.int .i64 2) = _
        unfold atE
        rw [if_pos (.inl h1)]
      · by_cases h3 : 255 < f
        · gi_wp2_with fail
          go_ret
          refine ⟨?_, hb⟩
          show Ending.returned (Value.int .i64 2) = _
          unfold atE
          rw [if_pos (.inr h3)]
        · gi_wp2_with fail
          go_roundw
          case rel => exact ⟨1, by go_num, trivial, .inr (.inl rfl), fun _ => by omega, fun h => by omega⟩
          case measure => simp [intOf]
    · have k1 := k1 (by omega)
      by_cases h1 : b < -1
      · gi_wp2_with fail
        go_ret
        refine ⟨?_, hb⟩
        show Ending.returned (Value.int .i64 2) = _
        unfold atE
        rw [if_neg k1, if_pos (.inl h1)]
      · by_cases h3 : 255 < b
        · gi_wp2_with fail
          go_ret
          refine ⟨?_, hb⟩
          show Ending.returned (Value.int .i64 2) = _
          unfold atE
          rw [if_neg k1, if_pos (.inr h3)]
        · gi_wp2_with fail
          go_roundw
          case rel => exact ⟨2, by go_num, trivial, .inr (.inr rfl), fun _ => k1, fun h => by omega⟩
          case measure => simp [intOf]
    · have k1 := k1 (by omega)
      have k2 := k2 (by omega)
      by_cases h1 : g < 0
      · gi_wp2_with fail
        go_ret
        refine ⟨?_, hb⟩
        show Ending.returned (Value.int .i64 2) = _
        unfold atE
        rw [if_neg k1, if_neg k2, if_pos (.inl h1)]
      · by_cases h3 : 255 < g
        · gi_wp2_with fail
          go_ret
          refine ⟨?_, hb⟩
          show Ending.returned (Value.int .i64 2) = _
          unfold atE
          rw [if_neg k1, if_neg k2, if_pos (.inr h3)]
        · gi_wp2_with fail
          go_ret
          refine ⟨?_, hb⟩
          show Ending.returned (Value.int .i64 0) = _
          unfold atE
          rw [if_neg k1, if_neg k2, if_neg (by omega)]
end
open Go.RowKit

def atcL : Law := ⟨fun ts => ∃ (f : Int) (b : Int) (g : Int), ts = [.agg [.int f, .int b, .int g]] ∧ (True), fun ts z₀ => ∀ (f : Int) (b : Int) (g : Int), ts = [.agg [.int f, .int b, .int g]] → z₀ = .int (atE f b g)⟩
theorem atc_pre {f : Int} {b : Int} {g : Int} (h : True) : atcL.pre [.agg [.int f, .int b, .int g]] := ⟨f, b, g, rfl, h⟩
theorem atc_fin {f : Int} {b : Int} {g : Int} {z₀ : TV} (h : z₀ = .int (atE f b g)) : atcL.post [.agg [.int f, .int b, .int g]] z₀ := fun f₁ b₁ g₁ e => by
  simp only [List.cons.injEq, TV.str.injEq, TV.int.injEq, TV.bool.injEq, TV.agg.injEq, TV.list.injEq, zat, and_true, true_and, and_assoc] at e; obtain ⟨rfl, rfl, rfl⟩ := e
  exact h
theorem atc_all {f : Int} {b : Int} {g : Int} {Q : TV → Prop} : (∀ z₀, atcL.post [.agg [.int f, .int b, .int g]] z₀ → Q z₀) ↔ Q (.int (atE f b g)) := ⟨fun h => h _ (atc_fin rfl), fun h z₀ hr => by rw [hr _ _ _ rfl]; exact h⟩
theorem atc_c (k : Nat) : Contract Tryd.prog (mkEnv globT []) gtabU (qo9 k) atcL.pre atcL.post := by
  refine Contract.leaf ⟨Tryd.f75, Tryd.f75.body.getD .skip, Tryd.func75, by kernel_rfl, by kernel_rfl⟩ ?_
  intro w ts vs hG ha hp
  obtain ⟨f, b, g, rfl, _⟩ := hp
  obtain ⟨v, rfl, hv⟩ := args1 ha
  obtain rfl := arg3 hv
  exact ⟨.int (atE f b g), .int .i64 (atE f b g), fun M => RepT.int .i64 (.int _), atc_fin rfl, atc_in w f b g⟩
def andI (x y : Int) : Int := zbw .i64 (· &&& ·) x y
def styZ (g : Int) : Int := if ¬ andI g 64 = 0 then 3 else if ¬ andI g 32 = 0 then 2 else if ¬ andI g 29 = 0 then 1 else 0
def styL : Law := ⟨fun ts => ∃ (f : Int) (b : Int) (g : Int), ts = [.agg [.int f, .int b, .int g]] ∧ (True), fun ts z₀ => ∀ (f : Int) (b : Int) (g : Int), ts = [.agg [.int f, .int b, .int g]] → z₀ = .int (styZ g)⟩
theorem sty_pre {f : Int} {b : Int} {g : Int} (h : True) : styL.pre [.agg [.int f, .int b, .int g]] := ⟨f, b, g, rfl, h⟩
theorem sty_fin {f : Int} {b : Int} {g : Int} {z₀ : TV} (h : z₀ = .int (styZ g)) : styL.post [.agg [.int f, .int b, .int g]] z₀ := fun f₁ b₁ g₁ e => by
  simp only [List.cons.injEq, TV.str.injEq, TV.int.injEq, TV.bool.injEq, TV.agg.injEq, TV.list.injEq, zat, and_true, true_and, and_assoc] at e; obtain ⟨rfl, rfl, rfl⟩ := e
  exact h
theorem sty_all {f : Int} {b : Int} {g : Int} {Q : TV → Prop} : (∀ z₀, styL.post [.agg [.int f, .int b, .int g]] z₀ → Q z₀) ↔ Q (.int (styZ g)) := ⟨fun h => h _ (sty_fin rfl), fun h z₀ hr => by rw [hr _ _ _ rfl]; exact h⟩
theorem sty_c (k : Nat) : Contract Tryd.prog (mkEnv globT []) gtabU (qox k) styL.pre styL.post := Contract.env (Γ := mkEnv globT []) (qo6 (fun _ => rfl) (fun s hs => by
    cases hs) k (by
  rintro ts hl ⟨f, b, g, rfl, hp⟩
  have hfin : ∀ z₀ : TV, z₀ = .int (styZ g) → styL.post [.agg [.int f, .int b, .int g]] z₀ := fun z₀ hz₀ => sty_fin hz₀
  generalize styL.post [.agg [.int f, .int b, .int g]] = R at hfin ⊢
  unfold tr_attr_Style
  unfold styZ andI at hfin
  simp only [Tree.den, E.den, P1.den, P2.den, P3.den, qa, qb, qc, qd, qe, qf, qg, qh, zac, zab, zad, zaa, zae, TV.cell, zah, zai, zag, zaf, qi, qj, qk, ql, qm, qn, ne_eq, qo, qp, forall_eq, qs, qt, Int.reduceToNat, qu, exists_eq_left']
  exact ⟨fun h1 => hfin _ (by rw [if_pos h1]), fun h1 => ⟨fun h2 => hfin _ (by rw [if_neg (fun k => k h1), if_pos h2]), fun h2 => ⟨fun h3 => hfin _ (by rw [if_neg (fun k => k h1), if_neg (fun k => k h2), if_pos h3]), fun h3 => hfin _ (by rw [if_neg (fun k => k h1), if_neg (fun k => k h2), if_neg (fun k => k h3)])⟩⟩⟩)) rfl
def rgt (f b g : Int) : Int := if atE f b g = 0 then 1 else 0
theorem atE0 {f b g : Int} : atE f b g = 0 ↔ ¬ f < -1 ∧ ¬ 255 < f ∧ ¬ b < -1 ∧ ¬ 255 < b ∧ ¬ g < 0 ∧ ¬ 255 < g := by
  unfold atE
  by_cases h1 : f < -1 ∨ 255 < f
  · rw [if_pos h1]; exact ⟨fun h => by omega, fun h => by omega⟩
  rw [if_neg h1]
  by_cases h2 : b < -1 ∨ 255 < b
  · rw [if_pos h2]; exact ⟨fun h => by omega, fun h => by omega⟩
  rw [if_neg h2]
  by_cases h3 : g < 0 ∨ 255 < g
  · rw [if_pos h3]; exact ⟨fun h => by omega, fun h => by omega⟩
  rw [if_neg h3]; exact ⟨fun _ => by omega, fun _ => rfl⟩
def rgtL : Law := ⟨fun ts => ∃ (f : Int) (b : Int) (g : Int), ts = [.agg [.int f, .int b, .int g]] ∧ (True), fun ts z₀ => ∀ (f : Int) (b : Int) (g : Int), ts = [.agg [.int f, .int b, .int g]] → z₀ = .int (rgt f b g)⟩
theorem rgt_pre {f : Int} {b : Int} {g : Int} (h : True) : rgtL.pre [.agg [.int f, .int b, .int g]] := ⟨f, b, g, rfl, h⟩
theorem rgt_fin {f : Int} {b : Int} {g : Int} {z₀ : TV} (h : z₀ = .int (rgt f b g)) : rgtL.post [.agg [.int f, .int b, .int g]] z₀ := fun f₁ b₁ g₁ e => by
  simp only [List.cons.injEq, TV.str.injEq, TV.int.injEq, TV.bool.injEq, TV.agg.injEq, TV.list.injEq, zat, and_true, true_and, and_assoc] at e; obtain ⟨rfl, rfl, rfl⟩ := e
  exact h
theorem rgt_all {f : Int} {b : Int} {g : Int} {Q : TV → Prop} : (∀ z₀, rgtL.post [.agg [.int f, .int b, .int g]] z₀ → Q z₀) ↔ Q (.int (rgt f b g)) := ⟨fun h => h _ (rgt_fin rfl), fun h z₀ hr => by rw [hr _ _ _ rfl]; exact h⟩
theorem rgt_c (k : Nat) : Contract Tryd.prog (mkEnv globT []) gtabU (qoe k) rgtL.pre rgtL.post := Contract.env (Γ := mkEnv globT []) (qo2 (fun _ => rfl) (fun s hs => by
    cases hs) k (by
  rintro ts hl ⟨f, b, g, rfl, hp⟩
  have hfin : ∀ z₀ : TV, z₀ = .int (rgt f b g) → rgtL.post [.agg [.int f, .int b, .int g]] z₀ := fun z₀ hz₀ => rgt_fin hz₀
  generalize rgtL.post [.agg [.int f, .int b, .int g]] = R at hfin ⊢
  unfold tr_ref04_Right
  have hz : atE f b g = 0 → rgt f b g = 1 := fun h => if_pos h
  have hn : ¬ atE f b g = 0 → rgt f b g = 0 := fun h => if_neg h
  rw [atE0] at hz hn
  simp only [Tree.den, E.den, P1.den, P2.den, P3.den, qa, qb, qc, qd, qe, qf, qg, qh, zac, zab, zad, zaa, zae, TV.cell, zah, zai, zag, zaf, qi, qj, qk, ql, qm, qn, ne_eq, qo, qp, forall_eq, qs, qt, Int.reduceToNat, qu, exists_eq_left']
  refine ⟨fun h => hfin _ (by rw [hn (by omega)]), fun h1 => ⟨fun h => hfin _ (by rw [hn (by omega)]), fun h2 => ⟨fun h => hfin _ (by rw [hn (by omega)]), fun h3 => ⟨fun h => hfin _ (by rw [hn (by omega)]), fun h4 => ⟨fun h => hfin _ (by rw [hn (by omega)]), fun h5 => ⟨fun h => hfin _ (by rw [hn (by omega)]), fun h6 => hfin _ (by rw [hz (by omega)])⟩⟩⟩⟩⟩⟩)) rfl

def szB (w h : Int) : Bool := decide (1 ≤ w ∧ w ≤ 132 ∧ 1 ≤ h ∧ h ≤ 60)
def rsizL : Law := ⟨fun ts => ∃ (w : Int) (h : Int), ts = [.int w, .int h] ∧ (True), fun ts z₀ => ∀ (w : Int) (h : Int), ts = [.int w, .int h] → z₀ = .bool (szB w h)⟩
theorem rsiz_pre {w : Int} {h : Int} (h₀ : True) : rsizL.pre [.int w, .int h] := ⟨w, h, rfl, h₀⟩
theorem rsiz_fin {w : Int} {h : Int} {z₀ : TV} (h₀ : z₀ = .bool (szB w h)) : rsizL.post [.int w, .int h] z₀ := fun w₁ h₁ e => by
  simp only [List.cons.injEq, TV.str.injEq, TV.int.injEq, TV.bool.injEq, TV.agg.injEq, TV.list.injEq, zat, and_true, true_and, and_assoc] at e; obtain ⟨rfl, rfl⟩ := e
  exact h₀
theorem rsiz_all {w : Int} {h : Int} {Q : TV → Prop} : (∀ z₀, rsizL.post [.int w, .int h] z₀ → Q z₀) ↔ Q (.bool (szB w h)) := ⟨fun h₀ => h₀ _ (rsiz_fin rfl), fun h₀ z₀ hr => by rw [hr _ _ rfl]; exact h₀⟩
theorem rsiz_c (k : Nat) : Contract Tryd.prog (mkEnv globT []) gtabU (qc3 k) rsizL.pre rsizL.post := Contract.env (Γ := mkEnv globT []) (qem (fun _ => rfl) (fun s hs => by
    cases hs) k (by
  rintro ts hl ⟨w, h, rfl, hp⟩
  have hfin : ∀ z₀ : TV, z₀ = .bool (szB w h) → rsizL.post [.int w, .int h] z₀ := fun z₀ hz₀ => rsiz_fin hz₀
  generalize rsizL.post [.int w, .int h] = R at hfin ⊢
  unfold tr_ref15_Size
  unfold szB at hfin
  simp only [Tree.den, E.den, P1.den, P2.den, P3.den, qa, qb, qc, qd, qe, qf, qg, qh, zac, zab, zad, zaa, zae, TV.cell, zah, zai, zag, zaf, qi, qj, qk, ql, qm, qn, ne_eq, qo, qp, forall_eq, qs, qt, Int.reduceToNat, qu, exists_eq_left']
  have hf : ¬ (1 ≤ w ∧ w ≤ 132 ∧ 1 ≤ h ∧ h ≤ 60) → R (.bool false) := fun k => hfin _ (by rw [decide_eq_false k])
  refine ⟨fun h1 => ⟨fun h2 => ⟨fun h3 => hfin _ (by simp [h1, h2, h3]), fun h3 => hf (by omega)⟩, fun h2 => hf (by omega)⟩, fun h1 => hf (by omega)⟩)) rfl
def psizL : Law := ⟨fun ts => ∃ (w : Int) (h : Int), ts = [.int w, .int h] ∧ (True), fun ts z₀ => ∀ (w : Int) (h : Int), ts = [.int w, .int h] → z₀ = .bool (szB w h)⟩
theorem psiz_pre {w : Int} {h : Int} (h₀ : True) : psizL.pre [.int w, .int h] := ⟨w, h, rfl, h₀⟩
theorem psiz_fin {w : Int} {h : Int} {z₀ : TV} (h₀ : z₀ = .bool (szB w h)) : psizL.post [.int w, .int h] z₀ := fun w₁ h₁ e => by
  simp only [List.cons.injEq, TV.str.injEq, TV.int.injEq, TV.bool.injEq, TV.agg.injEq, TV.list.injEq, zat, and_true, true_and, and_assoc] at e; obtain ⟨rfl, rfl⟩ := e
  exact h₀
theorem psiz_all {w : Int} {h : Int} {Q : TV → Prop} : (∀ z₀, psizL.post [.int w, .int h] z₀ → Q z₀) ↔ Q (.bool (szB w h)) := ⟨fun h₀ => h₀ _ (psiz_fin rfl), fun h₀ z₀ hr => by rw [hr _ _ rfl]; exact h₀⟩
theorem psiz_c (k : Nat) : Contract Tryd.prog (mkEnv globT []) gtabU (qc1 k) psizL.pre psizL.post := Contract.env (Γ := mkEnv globT []) (qec (fun _ => rfl) (fun s hs => by
    cases hs) k (by
  rintro ts hl ⟨w, h, rfl, hp⟩
  have hfin : ∀ z₀ : TV, z₀ = .bool (szB w h) → psizL.post [.int w, .int h] z₀ := fun z₀ hz₀ => psiz_fin hz₀
  generalize psizL.post [.int w, .int h] = R at hfin ⊢
  unfold tr_view_sized
  unfold szB at hfin
  simp only [Tree.den, E.den, P1.den, P2.den, P3.den, qa, qb, qc, qd, qe, qf, qg, qh, zac, zab, zad, zaa, zae, TV.cell, zah, zai, zag, zaf, qi, qj, qk, ql, qm, qn, ne_eq, qo, qp, forall_eq, qs, qt, Int.reduceToNat, qu, exists_eq_left']
  have hf : ¬ (1 ≤ w ∧ w ≤ 132 ∧ 1 ≤ h ∧ h ≤ 60) → R (.bool false) := fun k => hfin _ (by rw [decide_eq_false k])
  refine ⟨fun h1 => ⟨fun h2 => ⟨fun h3 => hfin _ (by simp [h1, h2, h3]), fun h3 => hf (by omega)⟩, fun h2 => hf (by omega)⟩, fun h1 => hf (by omega)⟩)) rfl
def atB (c : Zl) : Bool := decide (atE c.f c.b c.g = 0)
def rwB (w : Int) (l : List Zl) : Bool := decide ((l.length : Int) = w) && decide (rwE l = 0) && l.all atB
def showB (w h : Int) (r : List (List Zl)) (cr cl : Int) : Bool := szB w h && decide ((r.length : Int) = h) && decide (0 ≤ cr ∧ cr < h) && decide (0 ≤ cl ∧ cl < w) && r.all (rwB w)
def showQ (t : TV) : Bool := showB (intQ t 0) (intQ t 1) (rowsQ t) (intQ t 6) (intQ t 7)
def TxtOk (r : List (List Zl)) : Prop := ∀ l ∈ r, ∀ c ∈ l, c.s.length ≤ 1000000
def ShI (w : Int) (r : List (List Zl)) (xs : List TV) : Prop := ∃ k : Nat, xs = [.int k] ∧ k ≤ r.length ∧ r.all (rwB w) = (r.drop k).all (rwB w)
def ShJ (l : List Zl) (xs : List TV) : Prop := ∃ k : Nat, xs = [.int k] ∧ k ≤ l.length ∧ l.all atB = (l.drop k).all atB
theorem rowLen {l : List Zl} (h : rwE l = 0) : l.length ≤ 132 := by
  unfold rwE at h
  split at h
  · omega
  · omega
theorem rgt0 {c : Zl} (h : rgt c.f c.b c.g = 0) : atB c = false := by
  unfold rgt at h
  split at h
  · omega
  · exact decide_eq_false ‹_›
theorem rgt1 {c : Zl} (h : ¬ rgt c.f c.b c.g = 0) : atB c = true := by
  unfold rgt at h
  split at h
  · exact decide_eq_true ‹_›
  · exact absurd rfl h
def rshoL : Law := ⟨fun ts => ∃ (t : TV), ts = [t] ∧ (TermOk t ∧ TxtOk (rowsQ t)), fun ts z₀ => ∀ (t : TV), ts = [t] → z₀ = .bool (showQ t)⟩
theorem rsho_pre {t : TV} (h : TermOk t ∧ TxtOk (rowsQ t)) : rshoL.pre [t] := ⟨t, rfl, h⟩
theorem rsho_fin {t : TV} {z₀ : TV} (h : z₀ = .bool (showQ t)) : rshoL.post [t] z₀ := fun t₁ e => by
  simp only [List.cons.injEq, TV.str.injEq, TV.int.injEq, TV.bool.injEq, TV.agg.injEq, TV.list.injEq, zat, and_true, true_and, and_assoc] at e; subst e
  exact h
theorem rsho_all {t : TV} {Q : TV → Prop} : (∀ z₀, rshoL.post [t] z₀ → Q z₀) ↔ Q (.bool (showQ t)) := ⟨fun h => h _ (rsho_fin rfl), fun h z₀ hr => by rw [hr _ rfl]; exact h⟩
theorem rsho_c (k : Nat) : Contract Tryd.prog (mkEnv globT []) gtabU (qou k) rshoL.pre rshoL.post := Contract.env (Γ := mkEnv globT [rsizL, rrowL, rgtL]) (contract_ref15_Showable (fun _ => rfl) (fun s hs => by
    simp only [cx_ref15_Showable, List.mem_cons, List.not_mem_nil, or_false] at hs
    rcases hs with rfl | rfl | rfl
    · exact Contract.inEnv rfl (rsiz_c 0) rfl
    · exact Contract.inEnv rfl (rrow_c 1) rfl
    · exact Contract.inEnv rfl (rgt_c 2) rfl) k (by
  rintro ts hl ⟨t, rfl, hp⟩
  have hfin : ∀ z₀ : TV, z₀ = .bool (showQ t) → rshoL.post [t] z₀ := fun z₀ hz₀ => rsho_fin hz₀
  generalize rshoL.post [t] = R at hfin ⊢
  unfold tr_ref15_Showable
  unfold showQ intQ at hfin
  obtain ⟨r, hr⟩ : ∃ r, rowsQ t = r := ⟨_, rfl⟩
  have ht : t.cells.getD 2 (.int 0) = rwsT r := by rw [← hr]; exact hp.1.r
  have hx := hp.2
  rw [hr] at hfin hx
  have hw := hp.1.w
  have hh := hp.1.h
  generalize (t.cells.getD 0 (.int 0)).asInt = w at hfin hw
  generalize (t.cells.getD 1 (.int 0)).asInt = h at hfin hh
  simp only [Tree.den, E.den, P1.den, P2.den, P3.den, qa, qb, qc, qd, qe, qf, qg, qh, zac, zab, zad, zaa, zae, TV.cell, zah, zai, zag, zaf, qi, qj, qk, ql, qm, qn, ne_eq, qo, qp, forall_eq, qs, qt, Int.reduceToNat, qu, exists_eq_left', ht, rwsT_len, hw, hh, rsiz_all]
  generalize (t.cells.getD 6 (.int 0)).asInt = cr at hfin ⊢
  generalize (t.cells.getD 7 (.int 0)).asInt = cl at hfin ⊢
  have hf : showB w h r cr cl = false → R (.bool false) := fun k => hfin _ (by rw [k])
  unfold showB at hf hfin
  refine ⟨rsiz_pre trivial, fun h1 => hf (by rw [h1]; rfl), fun h1 => ⟨fun h2 => hf (by rw [decide_eq_false h2]; simp), fun h2 => ⟨fun h3 => hf (by rw [decide_eq_false (show ¬ (0 ≤ cr ∧ cr < h) by omega)]; simp), fun h3 => ⟨fun h4 => hf (by rw [decide_eq_false (show ¬ (0 ≤ cr ∧ cr < h) by omega)]; simp), fun h4 => ⟨fun h5 => hf (by rw [decide_eq_false (show ¬ (0 ≤ cl ∧ cl < w) by omega)]; simp), fun h5 => ⟨fun h6 => hf (by rw [decide_eq_false (show ¬ (0 ≤ cl ∧ cl < w) by omega)]; simp), fun h6 => ?_⟩⟩⟩⟩⟩⟩
  have h60 : r.length ≤ 60 := by
    unfold szB at h1
    have := of_decide_eq_true h1
    omega
  rw [h1, decide_eq_true h2, decide_eq_true (show 0 ≤ cr ∧ cr < h by omega), decide_eq_true (show 0 ≤ cl ∧ cl < w by omega), Bool.true_and, Bool.true_and, Bool.true_and, Bool.true_and] at hfin
  clear hf
  refine ⟨ShI w r, Grm r.length, ⟨0, rfl, by omega, rfl⟩, ?_⟩
  rintro xs _ ⟨k, rfl, hk, he⟩
  by_cases hkl : k < r.length
  · have e1 : IntKind.wrap .i64 ((k : Int) + 1) = ((k + 1 : Nat) : Int) := by rw [wrap_i64 (by omega) (by omega)]; omega
    rw [rws_drop hkl, List.all_cons] at he
    have q1 := rrow_pre (l := rw' r k) (hx _ (rw_mem hkl))
    obtain ⟨l, hl⟩ : ∃ l, rw' r k = l := ⟨_, rfl⟩
    have hg := rws_get hkl
    rw [hl] at he q1 hg
    have hb : rwB w l = false → R (.bool false) := fun q => hfin _ (by rw [he, q]; rfl)
    unfold rwB at hb he
    simp only [Tree.den, E.den, P1.den, P2.den, P3.den, qa, qb, qc, qd, qe, qf, qg, qh, zac, zab, zad, zaa, zae, TV.cell, zah, zai, zag, zaf, qi, qj, qk, ql, qm, qn, ne_eq, qo, qp, forall_eq, qs, qt, Int.reduceToNat, qu, exists_eq_left', zaj, zao, zaq, zan, zap, zam, zal, zar, qv, qq, qr, zak, List.cons_append, List.nil_append, Int.toNat_natCast, ht, qpo, List.length_map, hg, qpn, rrow_all, e1, grm_i]
    refine ⟨fun _ => ⟨by omega, by omega, fun a1 => hb (by rw [decide_eq_false a1]; rfl), fun a1 => ⟨by omega, by omega, q1, fun a2 => hb (by rw [decide_eq_false a2]; simp), fun a2 => ?_⟩⟩, fun hh => absurd hh (by omega)⟩
    rw [decide_eq_true a1, decide_eq_true a2, Bool.true_and, Bool.true_and] at hb he
    refine ⟨ShJ l, Grm l.length, ⟨0, rfl, by omega, rfl⟩, ?_⟩
    rintro xs _ ⟨m, rfl, hm, hme⟩
    by_cases hml : m < l.length
    · have e2 : IntKind.wrap .i64 ((m : Int) + 1) = ((m + 1 : Nat) : Int) := by
        have hz := rowLen a2
        rw [wrap_i64 (by omega) (by omega)]; omega
      rw [cls_drop hml, List.all_cons] at hme
      simp only [Tree.den, E.den, P1.den, P2.den, P3.den, qa, qb, qc, qd, qe, qf, qg, qh, zac, zab, zad, zaa, zae, TV.cell, zah, zai, zag, zaf, qi, qj, qk, ql, qm, qn, ne_eq, qo, qp, forall_eq, qs, qt, Int.reduceToNat, qu, exists_eq_left', zaj, zao, zaq, zan, zap, zam, zal, zar, qv, qq, qr, zak, List.cons_append, List.nil_append, Int.toNat_natCast, ht, qpo, List.length_map, hg, qpn, cls_get hml, clT, rgt_all, e1, e2, grm_i]
      refine ⟨by omega, by omega, fun _ => ⟨by omega, by omega, by omega, by omega, rgt_pre trivial, fun z => hb (by rw [hme, rgt0 z]; rfl), fun z => ⟨⟨m + 1, rfl, by omega, by rw [hme, rgt1 z, Bool.true_and]⟩, by omega⟩⟩, fun hh => absurd hh (by omega)⟩
    · obtain rfl : m = l.length := by omega
      simp only [Tree.den, E.den, P1.den, P2.den, P3.den, qa, qb, qc, qd, qe, qf, qg, qh, zac, zab, zad, zaa, zae, TV.cell, zah, zai, zag, zaf, qi, qj, qk, ql, qm, qn, ne_eq, qo, qp, forall_eq, qs, qt, Int.reduceToNat, qu, exists_eq_left', zaj, zao, zaq, zan, zap, zam, zal, zar, qv, qq, qr, zak, List.cons_append, List.nil_append, Int.toNat_natCast, ht, qpo, List.length_map, hg, qpn, e1, grm_i]
      rw [List.drop_length] at hme
      exact ⟨by omega, by omega, fun hh => absurd hh (by omega), fun _ => ⟨⟨k + 1, rfl, by omega, he.trans (by rw [hme]; rfl)⟩, by omega⟩⟩
  · obtain rfl : k = r.length := by omega
    rw [List.drop_length] at he
    simp only [Tree.den, E.den, P1.den, P2.den, P3.den, qa, qb, qc, qd, qe, qf, qg, qh, zac, zab, zad, zaa, zae, TV.cell, zah, zai, zag, zaf, qi, qj, qk, ql, qm, qn, ne_eq, qo, qp, forall_eq, qs, qt, Int.reduceToNat, qu, exists_eq_left', List.cons_append, List.nil_append, ht, rwsT_len]
    exact ⟨fun hh => absurd hh (by omega), fun _ => hfin _ (by rw [he]; rfl)⟩)) rfl
def pshoL : Law := ⟨fun ts => ∃ (t : TV), ts = [t] ∧ (TermOk t ∧ TxtOk (rowsQ t)), fun ts z₀ => ∀ (t : TV), ts = [t] → z₀ = .bool (showQ t)⟩
theorem psho_pre {t : TV} (h : TermOk t ∧ TxtOk (rowsQ t)) : pshoL.pre [t] := ⟨t, rfl, h⟩
theorem psho_fin {t : TV} {z₀ : TV} (h : z₀ = .bool (showQ t)) : pshoL.post [t] z₀ := fun t₁ e => by
  simp only [List.cons.injEq, TV.str.injEq, TV.int.injEq, TV.bool.injEq, TV.agg.injEq, TV.list.injEq, zat, and_true, true_and, and_assoc] at e; subst e
  exact h
theorem psho_all {t : TV} {Q : TV → Prop} : (∀ z₀, pshoL.post [t] z₀ → Q z₀) ↔ Q (.bool (showQ t)) := ⟨fun h => h _ (psho_fin rfl), fun h z₀ hr => by rw [hr _ rfl]; exact h⟩
theorem psho_c (k : Nat) : Contract Tryd.prog (mkEnv globT []) gtabU (qpf k) pshoL.pre pshoL.post := Contract.env (Γ := mkEnv globT [psizL, crowL, atcL]) (contract_view_showable (fun _ => rfl) (fun s hs => by
    simp only [cx_view_showable, List.mem_cons, List.not_mem_nil, or_false] at hs
    rcases hs with rfl | rfl | rfl
    · exact Contract.inEnv rfl (psiz_c 0) rfl
    · exact Contract.inEnv rfl (crow_c 1) rfl
    · exact Contract.inEnv rfl (atc_c 2) rfl) k (by
  rintro ts hl ⟨t, rfl, hp⟩
  have hfin : ∀ z₀ : TV, z₀ = .bool (showQ t) → pshoL.post [t] z₀ := fun z₀ hz₀ => psho_fin hz₀
  generalize pshoL.post [t] = R at hfin ⊢
  unfold tr_view_showable
  unfold showQ intQ at hfin
  obtain ⟨r, hr⟩ : ∃ r, rowsQ t = r := ⟨_, rfl⟩
  have ht : t.cells.getD 2 (.int 0) = rwsT r := by rw [← hr]; exact hp.1.r
  have hx := hp.2
  rw [hr] at hfin hx
  have hw := hp.1.w
  have hh := hp.1.h
  generalize (t.cells.getD 0 (.int 0)).asInt = w at hfin hw
  generalize (t.cells.getD 1 (.int 0)).asInt = h at hfin hh
  simp only [Tree.den, E.den, P1.den, P2.den, P3.den, qa, qb, qc, qd, qe, qf, qg, qh, zac, zab, zad, zaa, zae, TV.cell, zah, zai, zag, zaf, qi, qj, qk, ql, qm, qn, ne_eq, qo, qp, forall_eq, qs, qt, Int.reduceToNat, qu, exists_eq_left', ht, rwsT_len, hw, hh, psiz_all]
  generalize (t.cells.getD 6 (.int 0)).asInt = cr at hfin ⊢
  generalize (t.cells.getD 7 (.int 0)).asInt = cl at hfin ⊢
  have hf : showB w h r cr cl = false → R (.bool false) := fun k => hfin _ (by rw [k])
  unfold showB at hf hfin
  refine ⟨psiz_pre trivial, fun h1 => hf (by rw [h1]; rfl), fun h1 => ⟨fun h2 => hf (by rw [decide_eq_false h2]; simp), fun h2 => ⟨fun h3 => hf (by rw [decide_eq_false (show ¬ (0 ≤ cr ∧ cr < h) by omega)]; simp), fun h3 => ⟨fun h4 => hf (by rw [decide_eq_false (show ¬ (0 ≤ cr ∧ cr < h) by omega)]; simp), fun h4 => ⟨fun h5 => hf (by rw [decide_eq_false (show ¬ (0 ≤ cl ∧ cl < w) by omega)]; simp), fun h5 => ⟨fun h6 => hf (by rw [decide_eq_false (show ¬ (0 ≤ cl ∧ cl < w) by omega)]; simp), fun h6 => ?_⟩⟩⟩⟩⟩⟩
  have h60 : r.length ≤ 60 := by
    unfold szB at h1
    have := of_decide_eq_true h1
    omega
  rw [h1, decide_eq_true h2, decide_eq_true (show 0 ≤ cr ∧ cr < h by omega), decide_eq_true (show 0 ≤ cl ∧ cl < w by omega), Bool.true_and, Bool.true_and, Bool.true_and, Bool.true_and] at hfin
  clear hf
  refine ⟨ShI w r, Grm r.length, ⟨0, rfl, by omega, rfl⟩, ?_⟩
  rintro xs _ ⟨k, rfl, hk, he⟩
  by_cases hkl : k < r.length
  · have e1 : IntKind.wrap .i64 ((k : Int) + 1) = ((k + 1 : Nat) : Int) := by rw [wrap_i64 (by omega) (by omega)]; omega
    rw [rws_drop hkl, List.all_cons] at he
    have q1 := crow_pre (l := rw' r k) (hx _ (rw_mem hkl))
    obtain ⟨l, hl⟩ : ∃ l, rw' r k = l := ⟨_, rfl⟩
    have hg := rws_get hkl
    rw [hl] at he q1 hg
    have hb : rwB w l = false → R (.bool false) := fun q => hfin _ (by rw [he, q]; rfl)
    unfold rwB at hb he
    simp only [Tree.den, E.den, P1.den, P2.den, P3.den, qa, qb, qc, qd, qe, qf, qg, qh, zac, zab, zad, zaa, zae, TV.cell, zah, zai, zag, zaf, qi, qj, qk, ql, qm, qn, ne_eq, qo, qp, forall_eq, qs, qt, Int.reduceToNat, qu, exists_eq_left', zaj, zao, zaq, zan, zap, zam, zal, zar, qv, qq, qr, zak, List.cons_append, List.nil_append, Int.toNat_natCast, ht, qpo, List.length_map, hg, qpn, crow_all, e1, grm_i]
    refine ⟨fun _ => ⟨by omega, by omega, fun a1 => hb (by rw [decide_eq_false a1]; rfl), fun a1 => ⟨q1, fun a2 => hb (by rw [decide_eq_false a2]; simp), fun a2 => ?_⟩⟩, fun hh => absurd hh (by omega)⟩
    rw [decide_eq_true a1, decide_eq_true a2, Bool.true_and, Bool.true_and] at hb he
    refine ⟨ShJ l, Grm l.length, ⟨0, rfl, by omega, rfl⟩, ?_⟩
    rintro xs _ ⟨m, rfl, hm, hme⟩
    by_cases hml : m < l.length
    · have e2 : IntKind.wrap .i64 ((m : Int) + 1) = ((m + 1 : Nat) : Int) := by
        have hz := rowLen a2
        rw [wrap_i64 (by omega) (by omega)]; omega
      rw [cls_drop hml, List.all_cons] at hme
      simp only [Tree.den, E.den, P1.den, P2.den, P3.den, qa, qb, qc, qd, qe, qf, qg, qh, zac, zab, zad, zaa, zae, TV.cell, zah, zai, zag, zaf, qi, qj, qk, ql, qm, qn, ne_eq, qo, qp, forall_eq, qs, qt, Int.reduceToNat, qu, exists_eq_left', zaj, zao, zaq, zan, zap, zam, zal, zar, qv, qq, qr, zak, List.cons_append, List.nil_append, Int.toNat_natCast, ht, qpo, List.length_map, hg, qpn, cls_get hml, clT, atc_all, e1, e2, grm_i]
      refine ⟨fun _ => ⟨by omega, by omega, atc_pre trivial, fun z => ⟨fun _ => hb (by rw [hme, show atB (cc l m) = false from decide_eq_false z]; rfl), fun hh => absurd (show (0 : Int) ≤ m by omega) hh⟩, fun z => ⟨⟨m + 1, rfl, by omega, by rw [hme, show atB (cc l m) = true from decide_eq_true z, Bool.true_and]⟩, by omega⟩⟩, fun hh => absurd hh (by omega)⟩
    · obtain rfl : m = l.length := by omega
      simp only [Tree.den, E.den, P1.den, P2.den, P3.den, qa, qb, qc, qd, qe, qf, qg, qh, zac, zab, zad, zaa, zae, TV.cell, zah, zai, zag, zaf, qi, qj, qk, ql, qm, qn, ne_eq, qo, qp, forall_eq, qs, qt, Int.reduceToNat, qu, exists_eq_left', zaj, zao, zaq, zan, zap, zam, zal, zar, qv, qq, qr, zak, List.cons_append, List.nil_append, Int.toNat_natCast, ht, qpo, List.length_map, hg, qpn, e1, grm_i]
      rw [List.drop_length] at hme
      exact ⟨fun hh => absurd hh (by omega), fun _ => ⟨⟨k + 1, rfl, by omega, he.trans (by rw [hme]; rfl)⟩, by omega⟩⟩
  · obtain rfl : k = r.length := by omega
    rw [List.drop_length] at he
    simp only [Tree.den, E.den, P1.den, P2.den, P3.den, qa, qb, qc, qd, qe, qf, qg, qh, zac, zab, zad, zaa, zae, TV.cell, zah, zai, zag, zaf, qi, qj, qk, ql, qm, qn, ne_eq, qo, qp, forall_eq, qs, qt, Int.reduceToNat, qu, exists_eq_left', List.cons_append, List.nil_append, ht, rwsT_len]
    exact ⟨fun hh => absurd hh (by omega), fun _ => hfin _ (by rw [he]; rfl)⟩)) rfl
end Go.Proofs.YtlhagkbhojmjpaaDoor

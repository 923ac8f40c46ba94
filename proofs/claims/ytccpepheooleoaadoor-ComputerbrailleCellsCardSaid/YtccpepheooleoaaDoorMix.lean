/- A region that draws its order, walked once in one order: what yields its value in every world that has grown is taken first, the rest comes in its forced order, and a tail that waits for all the rest ends it. -/
import Derived.OrdersHeld
import Derived.StillTail
import Derived.Test.YtccpepheooleoaaDoorBase
namespace Go.Proofs.YtccpepheooleoaaDoor
set_option linter.unusedSimpArgs false
set_option linter.unusedVariables false
set_option linter.unusedSectionVars false
open Go.RowKit

section
variable {P : Program} {ops : Array Oper} {Q : Exit → Act → World → Prop} {md : Region.Mode} {S : World → Prop}

/-- In state 'a', in every world that meets S, 'o' yields v and leaves the world as it is: by itself, or by a call of a function that leaves the world as it is. -/
def YieldsP (P : Program) (ops : Array Oper) (S : World → Prop) (o : Oper) (v : Value) (a : Act) : Prop :=
  (Region.wanted o (yielded ops a.tmps) = true ∧ ∀ w, S w → (execOp a.eval o).run P w = .ok (.value v) w ∨
    ∃ f args, (execOp a.eval o).run P w = .ok (.enter f args) w ∧ Calls P f args w fun e w'' => e = .returned v ∧ w'' = w) ∨
  (Region.wanted o (yielded ops a.tmps) = false ∧ v = undef)
theorem YieldsP.wpOp {i : Nat} {o : Oper} {v : Value} {a : Act} (hi : ops[i]? = some o) (hy : YieldsP P ops S o v a)
    {K : Act → World → Prop} {w : World} (hS : S w) (h : K (a.put o.dst v) w) : wpOp P ops Q i K a w := by
  unfold Go.wpOp
  simp only [hi]
  rcases hy with ⟨hw, hv⟩ | ⟨hw, rfl⟩
  · simp only [hw, if_true, Oper.wp]
    rcases hv w hS with hr | ⟨f, args, hr, hc⟩
    · simp only [hr, Oper.upon]; exact .inl h
    · simp only [hr, Oper.upon]
      refine .inl (hc.mono fun e w'' he => ?_)
      obtain ⟨rfl, rfl⟩ := he
      exact h
  · simp only [hw, Bool.false_eq_true, if_false]; exact h
theorem YieldsP.of_same {o : Oper} {v : Value} {a a' : Act} (hy : YieldsP P ops S o v a) (he : execOp a'.eval o = execOp a.eval o)
    (hw : Region.wanted o (yielded ops a'.tmps) = Region.wanted o (yielded ops a.tmps)) : YieldsP P ops S o v a' := by
  unfold YieldsP at *
  rw [he, hw]
  exact hy
theorem wpOp_putP {j : Nat} {oi oj : Oper} {v : Value} (hj : ops[j]? = some oj) (hap : oi.apart ops oj = true)
    (hsi : ∀ cs b, oi.op ≠ .select cs b) (hsj : ∀ cs b, oj.op ≠ .select cs b)
    (hQ : ∀ c a w, Q (.panic c) (a.put oi.dst v) w → Q (.panic c) a w) {K : Act → World → Prop} {a : Act} {w : World}
    (hy : YieldsP P ops S oi v a) (h : wpOp P ops Q j K (a.put oi.dst v) w) :
    wpOp P ops Q j (fun a' w' => YieldsP P ops S oi v a' ∧ K (a'.put oi.dst v) w') a w := by
  obtain ⟨h1, h2, h3⟩ := Oper.apart_spec hap
  have keep : ∀ (a : Act), YieldsP P ops S oi v a → ∀ u, YieldsP P ops S oi v (a.put oj.dst u) := fun a hy u =>
    hy.of_same (execOp_put oi hsi a oj.dst u h3) (wanted_put oi a oj.dst u h3)
  have keepD : ∀ d, YieldsP P ops S oi v { a with defers := d :: a.defers } := fun d => hy.of_same rfl rfl
  unfold wpOp at *
  simp only [hj] at *
  rw [wanted_put oj a oi.dst v h1] at h
  split
  · rename_i hw
    simp only [hw, if_true] at h
    rcases h with h | ⟨hasks, hlets⟩
    case inr => exact .inr ⟨by unfold Oper.asks at *; rw [execOp_put oj hsj a oi.dst v h1] at hasks; exact hasks, hlets⟩
    refine .inl ?_
    unfold Oper.wp at *
    rw [execOp_put oj hsj a oi.dst v h1] at h
    generalize (execOp a.eval oj).run P w = r at *
    cases r with
    | ok n w' =>
      cases n <;> simp only [Oper.upon] at h ⊢
      case value u => exact ⟨keep a hy u, by rw [← Act.put_comm a v u h2]; exact h⟩
      case skip => exact ⟨keep a hy _, by rw [← Act.put_comm a v undef h2]; exact h⟩
      case defer d =>
        refine ⟨keep _ (keepD d) _, ?_⟩
        rw [← Act.put_comm _ v undef h2, ← Act.put_defers]
        exact h
      case enter f args =>
        refine Calls.mono h fun e w'' he => ?_
        cases e with
        | returned u => exact ⟨keep a hy u, by rw [← Act.put_comm a v u h2]; exact he⟩
        | panicked c => exact hQ _ _ _ he
        | outgrown => exact he
      case row row args => exact Rows.mono h fun u w'' he => ⟨keep a hy u, by rw [← Act.put_comm a v u h2]; exact he⟩
    | halt x w' =>
      cases x <;> simp only [Oper.upon] at h ⊢
      case panic u => exact hQ _ _ _ h
  · rename_i hw
    simp only [hw] at h
    exact ⟨keep a hy _, by rw [← Act.put_comm a v undef h2]; exact h⟩

/-- A pure operation may be taken first, in a region without a tail. -/
theorem wpAnyH_firstP {i : Nat} {oi : Oper} {v : Value} (hi : ops[i]? = some oi) (hsel : ∀ (j : Nat) (o : Oper) cs b, ops[j]? = some o → o.op ≠ .select cs b)
    (hQ : ∀ c a w, Q (.panic c) (a.put oi.dst v) w → Q (.panic c) a w) :
    ∀ (fuel : Nat) (listed : Array Bool) (a : Act) (w : World),
      (∀ j oj, ops[j]? = some oj → j ≠ i → listed.getD j true = false → (∀ e ∈ oj.after, Region.binds md e = true → e.on ≠ i) → oi.apart ops oj = true) →
      i ∈ Region.ready md ops listed → YieldsP P ops S oi v a → S w →
      wpAnyH P md ops Q S fuel (listed.setIfInBounds i true) (a.put oi.dst v) w → wpAnyH P md ops Q S (fuel + 1) listed a w := by
  intro fuel
  induction fuel with
  | zero =>
    intro listed a w _ hr hy hS H
    refine ⟨fun h => (by rw [h] at hr; cases hr), fun j hj => ?_⟩
    by_cases hji : j = i
    · subst hji; exact hy.wpOp hi hS ⟨hS, H⟩
    · have := ready_mono hj hji
      rw [H.1] at this
      cases this
  | succ fuel ih =>
    intro listed a w hfree hr hy hS H
    refine ⟨fun h => (by rw [h] at hr; cases hr), fun j hj => ?_⟩
    by_cases hji : j = i
    · subst hji; exact hy.wpOp hi hS ⟨hS, H⟩
    · have h1 := H.2 j (ready_mono hj hji)
      obtain ⟨hjun, oj, hoj, hall⟩ := mem_ready.1 hj
      have hnot : ∀ e ∈ oj.after, Region.binds md e = true → e.on ≠ i := fun e he hb heq => by
        have h1 := hall e he hb
        have h0 := (mem_ready.1 hr).1
        rw [heq] at h1
        rcases Nat.lt_or_ge i listed.size with h' | h'
        · simp [h'] at h0 h1; rw [h0] at h1; cases h1
        · simp [Array.getElem?_eq_none h'] at h1
      have h2 := wpOp_putP hoj (hfree j oj hoj hji hjun hnot) (fun cs b => hsel i oi cs b hi) (fun cs b => hsel j oj cs b hoj) hQ hy h1
      have hfree' : ∀ k ok, ops[k]? = some ok → k ≠ i → (listed.setIfInBounds j true).getD k true = false →
          (∀ e ∈ ok.after, Region.binds md e = true → e.on ≠ i) → oi.apart ops ok = true := fun k ok hk hki hun hno => by
        refine hfree k ok hk hki ?_ hno
        by_cases hjk : j = k
        · subst hjk; exact hjun
        · rw [getD_set_ne true hjk] at hun; exact hun
      refine wpOp_mono (fun a' w' h3 => ⟨h3.2.1, ih (listed.setIfInBounds j true) a' w' hfree' (ready_mono hr (Ne.symm hji)) h3.1 h3.2.1 ?_⟩) h2
      rw [Array.setIfInBounds_comm _ _ hji]
      exact h3.2.2

/-- Whatever order is picked from here on, all of the head's operations before the tail, S behind each; then L. -/
def wpHL (P : Program) (md : Region.Mode) (ops : Array Oper) (Q : Exit → Act → World → Prop) (S : World → Prop) (n : Nat) (L : Array Bool → Act → World → Prop) : Nat → Array Bool → Act → World → Prop
  | 0, listed, a, w => L listed a w
  | f + 1, listed, a, w =>
    Region.ready md ops listed ≠ [] ∧ ∀ i ∈ Region.ready md ops listed, i < n ∧ wpOp P ops Q i (fun a' w' => S w' ∧ wpHL P md ops Q S n L f (listed.setIfInBounds i true) a' w') a w

theorem wpAny_of_HL {n g : Nat} {L : Array Bool → Act → World → Prop} (hL : ∀ listed a w, L listed a w → wpAny P md ops Q g listed a w) :
    ∀ (f : Nat) (listed : Array Bool) (a : Act) (w : World), wpHL P md ops Q S n L f listed a w → wpAny P md ops Q (f + g) listed a w
  | 0, listed, a, w, h => by rw [Nat.zero_add]; exact hL _ _ _ h
  | f + 1, listed, a, w, h => by
    rw [show f + 1 + g = (f + g) + 1 by omega]
    exact ⟨fun h0 => absurd h0 h.1, fun i hi => wpOp_mono (fun a' w' h' => wpAny_of_HL hL f _ a' w' h'.2) (h.2 i hi).2⟩

theorem wpHL_first {n i : Nat} {oi : Oper} {v : Value} {L : Array Bool → Act → World → Prop} (hi : ops[i]? = some oi) (hsel : ∀ (j : Nat) (o : Oper) cs b, ops[j]? = some o → o.op ≠ .select cs b)
    (hQ : ∀ c a w, Q (.panic c) (a.put oi.dst v) w → Q (.panic c) a w)
    (hs : Region.sinkB md ops n = true) (hc : Region.chainB md ops n = true) (hn : n < ops.size) (hin : i < n)
    (hdone : ∀ listed a w, L listed a w → ∀ j ∈ Region.ready md ops listed, n ≤ j) :
    ∀ (f : Nat) (listed : Array Bool) (a : Act) (w : World), HeadInv md ops n listed →
      (∀ j oj, ops[j]? = some oj → j ≠ i → listed.getD j true = false → (∀ e ∈ oj.after, Region.binds md e = true → e.on ≠ i) → oi.apart ops oj = true) →
      i ∈ Region.ready md ops listed → YieldsP P ops S oi v a → S w →
      wpHL P md ops Q S n L f (listed.setIfInBounds i true) (a.put oi.dst v) w → wpHL P md ops Q S n L (f + 1) listed a w := by
  intro f
  induction f with
  | zero =>
    intro listed a w inv _ hr hy hS H
    have hun := (mem_ready.1 hr).1
    refine ⟨fun h => (by rw [h] at hr; cases hr), fun j hj => ?_⟩
    have hjn : j < n := by
      rcases Nat.lt_or_ge j n with h | h
      · exact h
      · exact absurd hj (tail_waits hs hc hn inv _ i rfl hin hun j h)
    refine ⟨hjn, ?_⟩
    by_cases hji : j = i
    · subst hji; exact hy.wpOp hi hS ⟨hS, H⟩
    · have := hdone _ _ _ H j (ready_mono hj hji)
      omega
  | succ f ih =>
    intro listed a w inv hfree hr hy hS H
    have hun := (mem_ready.1 hr).1
    refine ⟨fun h => (by rw [h] at hr; cases hr), fun j hj => ?_⟩
    have hjn : j < n := by
      rcases Nat.lt_or_ge j n with h | h
      · exact h
      · exact absurd hj (tail_waits hs hc hn inv _ i rfl hin hun j h)
    refine ⟨hjn, ?_⟩
    by_cases hji : j = i
    · subst hji; exact hy.wpOp hi hS ⟨hS, H⟩
    · have h1 := (H.2 j (ready_mono hj hji)).2
      obtain ⟨hjun, oj, hoj, hall⟩ := mem_ready.1 hj
      have hnot : ∀ e ∈ oj.after, Region.binds md e = true → e.on ≠ i := fun e he hb heq => by
        have h1 := hall e he hb
        rw [heq, getD_both hun] at h1
        cases h1
      have h2 := wpOp_putP hoj (hfree j oj hoj hji hjun hnot) (fun cs b => hsel i oi cs b hi) (fun cs b => hsel j oj cs b hoj) hQ hy h1
      have hfree' : ∀ k ok, ops[k]? = some ok → k ≠ i → (listed.setIfInBounds j true).getD k true = false →
          (∀ e ∈ ok.after, Region.binds md e = true → e.on ≠ i) → oi.apart ops ok = true := fun k ok hk hki hun hno => by
        refine hfree k ok hk hki ?_ hno
        by_cases hjk : j = k
        · subst hjk; exact hjun
        · rw [getD_set_ne true hjk] at hun; exact hun
      refine wpOp_mono (fun a' w' h3 => ⟨h3.2.1, ih (listed.setIfInBounds j true) a' w' (inv.set hj hjn) hfree' (ready_mono hr (Ne.symm hji)) h3.1 h3.2.1 ?_⟩) h2
      rw [Array.setIfInBounds_comm _ _ hji]
      exact h3.2.2

/-- One walk: 'true': the operation yields its value in every world that has grown from w0; 'false': it is carried out where it stands. Behind all: R. -/
def wpMix (P : Program) (ops : Array Oper) (w0 : World) (Q : Exit → Act → World → Prop) (R : Act → World → Prop) : List (Bool × Nat) → Act → World → Prop
  | [], a, w => R a w
  | (true, i) :: rest, a, w => ∃ oi v, ops[i]? = some oi ∧ (∀ c a w, Q (.panic c) (a.put oi.dst v) w → Q (.panic c) a w) ∧ YieldsP P ops (Gr w0) oi v a ∧ wpMix P ops w0 Q R rest (a.put oi.dst v) w
  | (false, i) :: rest, a, w => wpOp P ops Q i (fun a' w' => Gr w0 w' ∧ wpMix P ops w0 Q R rest a' w') a w

def mixB (md : Region.Mode) (ops : Array Oper) (n : Nat) : List (Bool × Nat) → Array Bool → Array Bool → Bool
  | [], listed, last => listed == last
  | (true, i) :: rest, listed, last => decide (i < n) && (Region.ready md ops listed).contains i && Region.free md ops listed i && mixB md ops n rest (listed.setIfInBounds i true) last
  | (false, i) :: rest, listed, last => decide (i < n) && decide (Region.ready md ops listed = [i]) && mixB md ops n rest (listed.setIfInBounds i true) last

theorem wpHL_of_mix {n : Nat} {w0 : World} {R : Act → World → Prop} {last : Array Bool} (hsel : Region.noSelect ops = true) (hs : Region.sinkB md ops n = true) (hc : Region.chainB md ops n = true) (hn : n < ops.size)
    (hlast : ∀ j ∈ Region.ready md ops last, n ≤ j) :
    ∀ (pl : List (Bool × Nat)) (listed : Array Bool) (a : Act) (w : World), HeadInv md ops n listed → Gr w0 w → mixB md ops n pl listed last = true → wpMix P ops w0 Q R pl a w →
      wpHL P md ops Q (Gr w0) n (fun l a w => l = last ∧ R a w) pl.length listed a w
  | [], listed, a, w, _, _, hB, h => ⟨by simpa [mixB] using hB, h⟩
  | (true, i) :: rest, listed, a, w, inv, hg, hB, h => by
    obtain ⟨oi, v, hi, hQ, hy, h⟩ := h
    simp only [mixB, Bool.and_eq_true, decide_eq_true_eq] at hB
    obtain ⟨⟨⟨hin, hr⟩, hf⟩, hB⟩ := hB
    have hr' : i ∈ Region.ready md ops listed := by simpa using hr
    exact wpHL_first (L := fun l a w => l = last ∧ R a w) hi (Region.noSelect_spec hsel) hQ hs hc hn hin (fun l a w hL => by rw [hL.1]; exact hlast) rest.length listed a w inv (Region.free_spec hi hf) hr' hy hg
      (wpHL_of_mix hsel hs hc hn hlast rest _ _ _ (inv.set hr' hin) hg hB h)
  | (false, i) :: rest, listed, a, w, inv, hg, hB, h => by
    simp only [mixB, Bool.and_eq_true, decide_eq_true_eq] at hB
    obtain ⟨⟨hin, hr⟩, hB⟩ := hB
    refine ⟨by rw [hr]; simp, fun j hj => ?_⟩
    have hji : j = i := by rw [hr] at hj; simpa using hj
    subst hji
    refine ⟨hin, wpOp_mono (fun a' w' h' => ⟨h'.1, ?_⟩) h⟩
    exact wpHL_of_mix hsel hs hc hn hlast rest _ _ _ (inv.set hj hin) h'.1 hB h'.2

theorem wpAnyH_of_mix {w0 : World} {n : Nat} {last : Array Bool} (hsel : Region.noSelect ops = true) (hlast : Region.ready md ops last = []) :
    ∀ (pl : List (Bool × Nat)) (listed : Array Bool) (a : Act) (w : World), Gr w0 w → mixB md ops n pl listed last = true → wpMix P ops w0 Q (Q .normal) pl a w →
      wpAnyH P md ops Q (Gr w0) pl.length listed a w
  | [], listed, a, w, _, hB, h => ⟨by rw [show listed = last by simpa [mixB] using hB]; exact hlast, h⟩
  | (true, i) :: rest, listed, a, w, hg, hB, h => by
    obtain ⟨oi, v, hi, hQ, hy, h⟩ := h
    simp only [mixB, Bool.and_eq_true, decide_eq_true_eq] at hB
    obtain ⟨⟨⟨hin, hr⟩, hf⟩, hB⟩ := hB
    exact wpAnyH_firstP hi (Region.noSelect_spec hsel) hQ rest.length listed a w (Region.free_spec hi hf) (by simpa using hr) hy hg (wpAnyH_of_mix hsel hlast rest _ _ _ hg hB h)
  | (false, i) :: rest, listed, a, w, hg, hB, h => by
    simp only [mixB, Bool.and_eq_true, decide_eq_true_eq] at hB
    obtain ⟨⟨hin, hr⟩, hB⟩ := hB
    refine wpAnyH_all hr (by simp) fun j hj => ?_
    have hji : j = i := by simpa using hj
    subst hji
    exact wpOp_mono (fun a' w' h' => ⟨h'.1, wpAnyH_of_mix hsel hlast rest _ _ _ h'.1 hB h'.2⟩) h

/-- What the kernel checks of a plan: with a tail from n on (n less than the number of operations), or without. -/
def planB (md : Region.Mode) (ops : Array Oper) (n : Nat) (pl : List (Bool × Nat)) : Bool :=
  Region.noSelect ops && decide (pl.length = n) &&
  if n < ops.size then Region.sinkB md ops n && Region.chainB md ops n && mixB md ops n pl (Array.replicate ops.size false) ((Array.range ops.size).map fun i => decide (i < n)) &&
      Region.seqB md ops (ops.size - n) n ((Array.range ops.size).map fun i => decide (i < n))
  else decide (n = ops.size) && mixB md ops n pl (Array.replicate ops.size false) (Array.replicate ops.size true)
end

section
variable {P : Program} {Q : Exit → Act → World → Prop}

theorem wp_region_mix_tail {id : Nat} {a : Act} {w : World} {l : List Oper} (n : Nat) (pl : List (Bool × Nat)) (hm : P.follows .mixedOrders = true) (hB : planB .any l.toArray n pl = true) (hlt : n < l.length)
    (h : wpMix P l.toArray w Q (wpList P l.toArray Q (l.drop n)) pl a w.drew) : (Code.region id l.toArray true).wp P Q a w := by
  unfold planB at hB
  rw [if_pos (by simpa using hlt)] at hB
  simp only [Bool.and_eq_true, decide_eq_true_eq] at hB
  obtain ⟨⟨hsel, hlen⟩, ⟨⟨hs, hc⟩, hmix⟩, hseq⟩ := hB
  have hn : n < l.toArray.size := by simpa using hlt
  have inv0 : HeadInv .any l.toArray n (Array.replicate l.toArray.size false) :=
    ⟨by simp, fun j oj _ hl => (by rw [getD_replicate_false] at hl; cases hl), fun t _ ht => getD_in (by simpa using ht) (getD_replicate_false _ _)⟩
  have H := wpHL_of_mix (P := P) (Q := Q) (R := wpList P l.toArray Q (l.drop n)) (w0 := w) hsel hs hc hn (seqB_ready hseq) pl _ a w.drew inv0 (Gr.refl w).drew hmix h
  refine wp_region_any hm ?_
  have := wpAny_of_HL (P := P) (g := l.toArray.size - n) (fun listed a' w' hL => by
    have := wpAny_of_seq (P := P) (md := .any) (Q' := Q) (l.drop n) n listed a' w' (fun j => by simp [List.getElem?_drop]) (by
      rw [hL.1, List.length_drop]; rw [List.size_toArray] at hseq ⊢; exact hseq) hL.2
    rwa [List.length_drop, ← List.size_toArray] at this) _ _ _ _ H
  rw [hlen, show n + (l.toArray.size - n) = l.toArray.size by omega] at this
  exact this

theorem wp_region_mix {id : Nat} {a : Act} {w : World} {l : List Oper} (pl : List (Bool × Nat)) (hm : P.follows .mixedOrders = true) (hB : planB .any l.toArray l.length pl = true)
    (h : wpMix P l.toArray w Q (Q .normal) pl a w.drew) : (Code.region id l.toArray true).wp P Q a w := by
  unfold planB at hB
  rw [if_neg (by simp)] at hB
  simp only [Bool.and_eq_true, decide_eq_true_eq] at hB
  obtain ⟨⟨hsel, hlen⟩, _, hmix⟩ := hB
  have hlast : Region.ready .any l.toArray (Array.replicate l.toArray.size true) = [] := by
    unfold Region.ready
    rw [List.filter_eq_nil_iff]
    intro i hi
    have : i < l.length := by simpa using hi
    simp [this]
  have H := wpAnyH_of_mix (P := P) (Q := Q) (w0 := w) hsel hlast pl _ a w.drew (Gr.refl w).drew hmix h
  refine wp_region_held (S := Gr w) hm ?_
  rw [hlen] at H
  simpa using H

/-! ### The steps -/
variable {ops : Array Oper} {w0 w : World} {R : Act → World → Prop} {a : Act} {rest : List (Bool × Nat)} {i : Nat} {o : Oper}
theorem wpMix_nil (h : R a w) : wpMix P ops w0 Q R [] a w := h
theorem wpMix_skip {b : Bool} (ho : ops[i]? = some o) (hw : Region.wanted o (yielded ops a.tmps) = false) (hQ : b = true → ∀ c a w, Q (.panic c) (a.put o.dst undef) w → Q (.panic c) a w)
    (hG : b = false → Gr w0 w) (h : wpMix P ops w0 Q R rest (a.put o.dst undef) w) : wpMix P ops w0 Q R ((b, i) :: rest) a w := by
  cases b with
  | true => exact ⟨o, undef, ho, hQ rfl, .inr ⟨hw, rfl⟩, h⟩
  | false =>
    unfold wpMix wpOp
    simp only [ho, hw]
    exact ⟨hG rfl, h⟩
theorem wpMix_val {v : Value} (ho : ops[i]? = some o) (hw : Region.wanted o (yielded ops a.tmps) = true) (hQ : ∀ c a w, Q (.panic c) (a.put o.dst v) w → Q (.panic c) a w)
    (hv : ∀ x : Ext w0, (execOp a.eval o).run P (grow w0 x) = .ok (.value v) (grow w0 x)) (h : wpMix P ops w0 Q R rest (a.put o.dst v) w) : wpMix P ops w0 Q R ((true, i) :: rest) a w :=
  ⟨o, v, ho, hQ, .inl ⟨hw, fun w ⟨x, hx⟩ => by subst hx; exact .inl (hv x)⟩, h⟩
theorem wpMix_move {y : Operand} (ho : ops[i]? = some o) (hw : Region.wanted o (yielded ops a.tmps) = true) (hm : o.op = .move y) (hQ : ∀ c a' w, Q (.panic c) (a'.put o.dst (a.eval y)) w → Q (.panic c) a' w)
    (h : wpMix P ops w0 Q R rest (a.put o.dst (a.eval y)) w) : wpMix P ops w0 Q R ((true, i) :: rest) a w :=
  wpMix_val ho hw hQ (fun x => by unfold execOp; rw [hm]; rfl) h
theorem wpMix_assign {y : Operand} (ho : ops[i]? = some o) (hw : Region.wanted o (yielded ops a.tmps) = true) (hm : o.op = .assign y) (hQ : ∀ c a' w, Q (.panic c) (a'.put o.dst (a.eval y)) w → Q (.panic c) a' w)
    (h : wpMix P ops w0 Q R rest (a.put o.dst (a.eval y)) w) : wpMix P ops w0 Q R ((true, i) :: rest) a w :=
  wpMix_val ho hw hQ (fun x => by unfold execOp; rw [hm]; rfl) h
theorem wpMix_run (ho : ops[i]? = some o) (hw : Region.wanted o (yielded ops a.tmps) = true)
    (h : ∀ K : Act → World → Prop, (∀ a w, Gr w0 w ∧ wpMix P ops w0 Q R rest a w → K a w) → o.wp P a w K Q) : wpMix P ops w0 Q R ((false, i) :: rest) a w := by
  unfold wpMix wpOp
  simp only [ho, hw, if_true]
  exact .inl (h _ fun _ _ h => h)

/-- Operations that yield a value and never enter a function. -/
def onlyV : Op → Bool
  | .move _ | .assign _ | .pick .. | .build .. | .load .. | .nilCheck _ | .binOp .. | .unOp .. | .convert .. | .slice .. | .fieldAddr .. | .field .. | .indexAddr .. | .index .. | .extract .. | .makeFunc .. | .buildSlice .. | .makeInterface .. => true
  | .call c => match c.callee with
    | .builtin .len | .builtin .cap | .builtin .min | .builtin .max => true
    | _ => false
  | _ => false

/-- What yields a value alone. -/
def VRun (s : Sem Next) : Prop := ∀ (P : Program) (w w' : World) (n : Next), s.run P w = .ok n w' → ∃ u, n = .value u

theorem vrun_bind {α : Type} (m : Sem α) (k : α → Sem Next) (h : ∀ x, VRun (k x)) : VRun (m >>= k) := by
  intro P w w' n hr
  rw [Sem.run_bind] at hr
  unfold Result.andThen at hr
  split at hr
  · exact h _ P _ w' n hr
  · cases hr
theorem vrun_pure (v : Value) : VRun (pure (.value v)) := by
  intro P w w' n h
  simp at h
  exact ⟨_, h.1.symm⟩
theorem vrun_v (m : Sem Value) : VRun (do pure (.value (← m))) := vrun_bind m _ fun x => vrun_pure x
theorem vrun_halt (s : Sem Next) (h : ∀ P w, ∃ x w', s.run P w = .halt x w') : VRun s := by
  intro P w w' n hr
  obtain ⟨x, w'', hx⟩ := h P w
  rw [hx] at hr
  cases hr
theorem vrun_of_onlyV (ρ : Operand → Value) (o : Oper) (h : onlyV o.op = true) : VRun (execOp ρ o) := by
  obtain ⟨dst, op, type, pos, after, guard⟩ := o
  cases op
  case move x => exact vrun_v (pure (ρ x))
  case assign x => exact vrun_v (pure (ρ x))
  case pick c a b => exact vrun_bind (asBool (ρ c)) _ fun x => vrun_pure _
  case build => exact vrun_v _
  case load => exact vrun_v _
  case binOp => exact vrun_v _
  case unOp => exact vrun_v _
  case convert => exact vrun_v _
  case slice => exact vrun_v _
  case fieldAddr => exact vrun_v _
  case field => exact vrun_v _
  case indexAddr => exact vrun_v _
  case index => exact vrun_v _
  case extract => exact vrun_v _
  case makeFunc => exact vrun_v _
  case buildSlice => exact vrun_v _
  case makeInterface => exact vrun_v _
  case nilCheck x =>
    unfold execOp
    dsimp only
    split
    · exact vrun_bind _ _ fun x => vrun_halt _ fun P w => ⟨_, _, rfl⟩
    · exact vrun_bind _ _ fun x => vrun_halt _ fun P w => ⟨_, _, rfl⟩
    · exact vrun_bind _ _ fun x => vrun_halt _ fun P w => ⟨_, _, rfl⟩
    · split
      · exact vrun_bind _ _ fun x => vrun_halt _ fun P w => ⟨_, _, rfl⟩
      · refine vrun_bind _ _ fun x => vrun_bind _ _ fun y => ?_
        split
        · exact vrun_bind _ _ fun x => vrun_pure _
        · exact vrun_pure _
      · exact vrun_pure _
    · exact vrun_pure _
  case call c =>
    obtain ⟨callee, args, ats⟩ := c
    cases callee with
    | builtin b =>
      cases b <;> first | (simp [onlyV] at h; done) | exact vrun_v _
    | value f => simp [onlyV] at h
    | invoke r m => simp [onlyV] at h
  all_goals (simp [onlyV] at h)

/-- A step that yields a value in every world that has grown, by the quiet walk's own step. -/
theorem wpMix_q (ho : ops[i]? = some o) (hw : Region.wanted o (yielded ops a.tmps) = true) (hV : onlyV o.op = true) (hQ : ∀ v c a w, Q (.panic c) (a.put o.dst v) w → Q (.panic c) a w)
    (h : ∀ K : Act → Prop, (∀ a, wpMix P ops w0 Q R rest a w → K a) → o.quiet P a (fun w' => ∃ x : Ext w0, w' = grow w0 x) K) : wpMix P ops w0 Q R ((true, i) :: rest) a w := by
  obtain ⟨v, h1, h2⟩ := h _ (fun _ h => h)
  refine wpMix_val ho hw (hQ v) (fun x => ?_) h2
  have h3 := h1 _ ⟨x, rfl⟩
  unfold Oper.quietAt at h3
  generalize hr : (execOp a.eval o).run P (grow w0 x) = r at h3
  cases r with
  | ok n w' =>
    obtain ⟨u, rfl⟩ := vrun_of_onlyV a.eval o hV P _ _ _ hr
    simp only [Oper.quietUpon] at h3
    rw [h3.1, h3.2]
  | halt y w' => simp only [Oper.quietUpon] at h3

/-! ### The steps over a region that is written out -/
def nth {α : Type} : List α → Nat → Option α
  | [], _ => none
  | x :: _, 0 => some x
  | _ :: xs, n + 1 => nth xs n
theorem nth_eq {α : Type} : ∀ (l : List α) (i : Nat), nth l i = l.toArray[i]?
  | [], i => by simp [nth]
  | x :: xs, 0 => by simp [nth]
  | x :: xs, i + 1 => by rw [nth, nth_eq xs i]; simp
variable {l : List Oper}
theorem mix_q (ho : nth l i = some o) (hw : Region.wanted o (yielded l.toArray a.tmps) = true) (hV : onlyV o.op = true) (hQ : ∀ v c a w, Q (.panic c) (a.put o.dst v) w → Q (.panic c) a w)
    (h : ∀ K : Act → Prop, (∀ a, wpMix P l.toArray w0 Q R rest a w → K a) → o.quiet P a (fun w' => ∃ x : Ext w0, w' = grow w0 x) K) : wpMix P l.toArray w0 Q R ((true, i) :: rest) a w :=
  wpMix_q (by rw [← nth_eq]; exact ho) hw hV hQ h
theorem mix_skip (ho : nth l i = some o) (hw : Region.wanted o (yielded l.toArray a.tmps) = false) (hQ : ∀ c a w, Q (.panic c) (a.put o.dst undef) w → Q (.panic c) a w)
    (h : wpMix P l.toArray w0 Q R rest (a.put o.dst undef) w) : wpMix P l.toArray w0 Q R ((true, i) :: rest) a w :=
  wpMix_skip (by rw [← nth_eq]; exact ho) hw (fun _ => hQ) (fun h => by cases h) h
theorem mix_skip_run (ho : nth l i = some o) (hw : Region.wanted o (yielded l.toArray a.tmps) = false) (hG : Gr w0 w)
    (h : wpMix P l.toArray w0 Q R rest (a.put o.dst undef) w) : wpMix P l.toArray w0 Q R ((false, i) :: rest) a w :=
  wpMix_skip (by rw [← nth_eq]; exact ho) hw (fun h => by cases h) (fun _ => hG) h
theorem mix_run (ho : nth l i = some o) (hw : Region.wanted o (yielded l.toArray a.tmps) = true)
    (h : ∀ K : Act → World → Prop, (∀ a w, Gr w0 w ∧ wpMix P l.toArray w0 Q R rest a w → K a w) → o.wp P a w K Q) : wpMix P l.toArray w0 Q R ((false, i) :: rest) a w :=
  wpMix_run (by rw [← nth_eq]; exact ho) hw h

/-- A call of a function that leaves the world as it is, taken first. -/
theorem mix_pure {v : Value} {f : FuncId} {args : Array Value} (ho : nth l i = some o) (hw : Region.wanted o (yielded l.toArray a.tmps) = true) (hQ : ∀ c a w, Q (.panic c) (a.put o.dst v) w → Q (.panic c) a w)
    (hr : ∀ w, (execOp a.eval o).run P w = .ok (.enter f args) w) (hc : ∀ x : Ext w0, Calls P f args (grow w0 x) fun e w'' => e = .returned v ∧ grow w0 x = w'')
    (h : wpMix P l.toArray w0 Q R rest (a.put o.dst v) w) : wpMix P l.toArray w0 Q R ((true, i) :: rest) a w :=
  ⟨o, v, by rw [← nth_eq]; exact ho, hQ, .inl ⟨hw, fun w ⟨x, hx⟩ => by subst hx; exact .inr ⟨f, args, hr _, (hc x).mono fun _ _ h => ⟨h.1, h.2.symm⟩⟩⟩, h⟩
end
end Go.Proofs.YtccpepheooleoaaDoor

/- Written by this repo's own program out of its texts. -/
import Derived.Test.YtlhagkbhojmjpaaGreatDoorPGe
set_option linter.unusedSimpArgs false
set_option linter.unusedVariables false
set_option linter.unusedSectionVars false
namespace Go.Proofs.YtlhagkbhojmjpaaGreatDoor
theorem prefZ_none {w : By} (hv : w ∉ vocabL) (t : List By) : ∀ k, prefZ (w :: t) k = none
 | 0 => rfl
 | k + 1 => by
  unfold prefZ
  rw [num_none (w := w) (by rw [List.take_succ_cons]; exact .head _) hv]
  exact prefZ_none hv t k
theorem chr_amount {w : By} {t : List By} (h : (chrP (w :: t)).2 ≠ 0) : qvc (w :: t) = none := by
 by_cases hv : w ∈ vocabL
 ·have hf := qu3 w hv
  exfalso
  apply h
  unfold chrP
  dsimp only
  rw [if_neg hf.2.2.2.2.2.2.2.1, hf.2.2.2.2.2.2.2.2.2.2.2]
  dsimp only
  rw [if_neg hf.2.2.2.2.2.2.2.2.1]
 ·exact prefZ_none hv t _
theorem styled_out {p q : Ps} (h : qum p = some q) : q.out = p.out := by
 unfold qum at h
 split at h
 ·cases h
 ·split at h
  ·cases h; rfl
  ·split at h
   ·cases h; rfl
   ·cases h
theorem word_y {p q : Ps} (h : wordP p = some q) : q.y = p.y := by
 unfold wordP at h
 simp only at h
 split at h
 ·cases h
 ·cases h; rfl
theorem figures_y {p q : Ps} (h : qux p = some q) : q.y = p.y := by
 unfold qux at h
 split at h
 ·cases h
 ·split at h
  ·split at h
   ·cases h
   ·cases h; rfl
  ·cases h
theorem amount_y {p q : Ps} (h : qvm p = some q) : q.y = p.y := by
 unfold qvm at h
 split at h
 ·cases h
 ·split at h
  ·cases h
  ·split at h
   ·cases h; rfl
   ·split at h
    ·cases h
    ·exact (addP_q h).2.2
theorem J19_den {R : TV → Prop} {A : TV} {w : By} {t : List By} {y : Int} {j : Bool} {out : List Gl} {L0 I : List TV → Prop} {q : Ps} (hl : (w :: t).length ≤ 400000) (hw : ∀ x ∈ w :: t, x.length ≤ 400000) (hok : OkO out) (hol : out.length ≤ 1000000)
  (hq : partP ⟨w :: t, out, y, j⟩ = some q) (hql : q.out.length ≤ 1000000) (h : I [.bool true, strs q.ws, .int q.y, .bool q.j, glsT q.out]) : Tree.den GE R qye [A, resT, strs (w :: t), .int y, .bool j, glsT out] [L0, I] := by
 unfold qye
 unfold partP at hq
 cases h1 : qum ⟨w :: t, out, y, j⟩ with
 | some q' =>
  rw [h1] at hq
  obtain rfl : q' = q := Option.some.inj hq
  refine ⟨fun xs => xs = [.bool true, strs q'.ws, .int q'.y, .bool q'.j], J0_den (out := out) (by omega) (by rw [h1]), ?_⟩
  rintro xs _ rfl
  refine dbr (fun _ => ⟨I, rfl, ?_⟩) fun k => Bool.noConfusion (show true = false from k)
  have := styled_out h1
  rw [this] at h
  exact h
 | none =>
  rw [h1, Option.none_or] at hq
  refine ⟨fun xs => xs = [.bool false, strs (w :: t), .int y, .bool j], J0_den (out := out) (by omega) (by rw [h1]), ?_⟩
  rintro xs _ rfl
  refine dbr (fun k => Bool.noConfusion (show false = true from k)) fun _ => dbr (fun k => ?_) fun _ => ?_
  ·simp [E.den, P1.den, P2.den, TV.asBool] at k
  cases h2 : wordP ⟨w :: t, out, y, j⟩ with
  | some q' =>
   rw [h2] at hq
   obtain rfl : q' = q := Option.some.inj hq
   refine ⟨fun xs => xs = [.bool true, strs q'.ws, .bool q'.j, glsT q'.out], J10_den hl hw (fun k => by rw [h2] at k; cases k) (fun q2 k => by rw [h2] at k; cases k; exact ⟨hql, rfl⟩), ?_⟩
   rintro xs _ rfl
   refine dbr (fun _ => ⟨I, rfl, ?_⟩) fun k => Bool.noConfusion (show true = false from k)
   have := word_y h2
   rw [this] at h
   exact h
  | none =>
   rw [h2, Option.none_or] at hq
   refine ⟨fun xs => xs = [.bool false, strs (w :: t), .bool j, glsT out], J10_den hl hw (fun _ => rfl) (fun q2 k => by rw [h2] at k; cases k), ?_⟩
   rintro xs _ rfl
   refine dbr (fun k => Bool.noConfusion (show false = true from k)) fun _ => dbr (fun k => ?_) fun _ => ?_
   ·simp [E.den, P1.den, P2.den, TV.asBool] at k
   cases h3 : qux ⟨w :: t, out, y, j⟩ with
   | some q' =>
    rw [h3] at hq
    obtain rfl : q' = q := Option.some.inj hq
    refine ⟨fun xs => xs = [.bool true, strs q'.ws, .bool q'.j, glsT q'.out], J13_den hl (fun k => by rw [h3] at k; cases k) (fun q2 k => by rw [h3] at k; cases k; exact ⟨hql, rfl⟩), ?_⟩
    rintro xs _ rfl
    refine dbr (fun _ => ⟨I, rfl, ?_⟩) fun k => Bool.noConfusion (show true = false from k)
    have := figures_y h3
    rw [this] at h
    exact h
   | none =>
    rw [h3, Option.none_or] at hq
    refine ⟨fun xs => xs = [.bool false, strs (w :: t), .bool j, glsT out], J13_den hl (fun _ => rfl) (fun q2 k => by rw [h3] at k; cases k), ?_⟩
    rintro xs _ rfl
    refine dbr (fun k => Bool.noConfusion (show false = true from k)) fun _ => dbr (fun k => ?_) fun _ => ?_
    ·simp [E.den, P1.den, P2.den, TV.asBool] at k
    cases h4 : signP ⟨w :: t, out, y, j⟩ with
    | some q' =>
     rw [h4] at hq
     obtain rfl : q' = q := Option.some.inj hq
     unfold signP at h4
     dsimp only at h4
     by_cases hc : (chrP (w :: t)).2 = 0
     ·rw [if_pos hc] at h4; cases h4
     rw [if_neg hc] at h4
     refine ⟨fun xs => xs = [.bool true, strs q'.ws, .bool q'.j, glsT q'.out], J15_den hl hok hol (fun k => absurd k hc) (fun _ => ⟨q', h4, hql, rfl⟩), ?_⟩
     rintro xs _ rfl
     refine dbr (fun _ => ⟨I, rfl, ?_⟩) fun k => Bool.noConfusion (show true = false from k)
     have := (addP_q h4).2.2
     rw [this] at h
     exact h
    | none =>
     rw [h4, Option.none_or] at hq
     have hc : (chrP (w :: t)).2 = 0 := Classical.byContradiction fun hc => by
      unfold qvm at hq
      dsimp only at hq
      rw [chr_amount hc] at hq
      cases hq
     refine ⟨fun xs => xs = [.bool false, strs (w :: t), .bool j, glsT out], J15_den hl hok hol (fun _ => rfl) (fun k => absurd hc k), ?_⟩
     rintro xs _ rfl
     refine dbr (fun k => Bool.noConfusion (show false = true from k)) fun _ => dbr (fun k => ?_) fun _ => ?_
     ·simp [E.den, P1.den, P2.den, TV.asBool] at k
     refine ⟨fun xs => xs = [.bool true, strs q.ws, .bool q.j, glsT q.out], J18_den hl hok hol hq hql rfl, ?_⟩
     rintro xs _ rfl
     refine dbr (fun _ => ⟨I, rfl, ?_⟩) fun k => Bool.noConfusion (show true = false from k)
     have := amount_y hq
     rw [this] at h
     exact h
end Go.Proofs.YtlhagkbhojmjpaaGreatDoor

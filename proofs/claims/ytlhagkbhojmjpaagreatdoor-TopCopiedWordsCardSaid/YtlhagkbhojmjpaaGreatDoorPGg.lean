/- Written by this repo's own program out of its texts. -/
import Derived.Test.YtlhagkbhojmjpaaGreatDoorPGf
set_option linter.unusedSimpArgs false
set_option linter.unusedVariables false
set_option linter.unusedSectionVars false
namespace Go.Proofs.YtlhagkbhojmjpaaGreatDoor
open Classical in
noncomputable def glyO (l : List By) : List Gl := if h : ∃ o, Parse ⟨l, [], 0, false⟩ o then Classical.choose h else []
theorem glyO_eq {l : List By} {o : List Gl} (h : Parse ⟨l, [], 0, false⟩ o) : glyO l = o := by
 have hx : ∃ o, Parse ⟨l, [], 0, false⟩ o := ⟨o, h⟩
 unfold glyO
 rw [dif_pos hx]
 exact parse_det (Classical.choose_spec hx) h
def sglL : Law := ⟨fun ts => ∃ (l : List By), ts = [strs l] ∧ (∃ o, Parse ⟨l, [], 0, false⟩ o ∧ o.length ≤ 1000000 ∧ l.length ≤ 400000 ∧ ∀ w ∈ l, w.length ≤ 400000), fun ts z₀ => ∀ (l : List By), ts = [strs l] → z₀ = .agg [glsT (glyO l), .int 0]⟩
theorem sgl_pre {l : List By} (h : ∃ o, Parse ⟨l, [], 0, false⟩ o ∧ o.length ≤ 1000000 ∧ l.length ≤ 400000 ∧ ∀ w ∈ l, w.length ≤ 400000) : sglL.pre [strs l] := ⟨l, rfl, h⟩
theorem sgl_fin {l : List By} {z₀ : TV} (h : z₀ = .agg [glsT (glyO l), .int 0]) : sglL.post [strs l] z₀ := fun l₁ e => by
 simp only [qy, qhv] at e; subst e
 exact h
theorem sgl_all {l : List By} {Q : TV → Prop} : (∀ z₀, sglL.post [strs l] z₀ → Q z₀) ↔ Q (.agg [glsT (glyO l), .int 0]) := ⟨fun h => h _ (sgl_fin rfl), fun h z₀ hr => by rw [hr _ rfl]; exact h⟩
def PrI (o : List Gl) (xs : List TV) : Prop := ∃ p : Ps, xs = [strs p.ws, .int p.y, .bool p.j, glsT p.out] ∧ Parse p o ∧ OkO p.out ∧ p.ws.length ≤ 400000 ∧ ∀ w ∈ p.ws, w.length ≤ 400000
def Prm (xs : List TV) : Nat := (xs.getD 0 (.int 0)).asList.length
theorem sgl_c (k : Nat) : Contract Tryz.prog (mkEnv globT []) gtabU (qsi k) sglL.pre sglL.post := Contract.env (Γ := mkEnv globT [nnumL, nprefL, attachL, widthL, encL, suppL, srsvL, splainL, sidxL, scharL]) (contract_Gy (fun _ => rfl) (fun s hs => by
  simp only [cx_Gy, qvu, List.mem_cons, List.not_mem_nil, or_false] at hs
  rcases hs with rfl | rfl | rfl | rfl | rfl | rfl | rfl | rfl | rfl | rfl
  ·exact Contract.inEnv rfl (nnum_c 0) rfl
  ·exact Contract.inEnv rfl (npref_c 1) rfl
  ·exact Contract.inEnv rfl (attach_c 2) rfl
  ·exact Contract.inEnv rfl (zv5 3) rfl
  ·exact Contract.inEnv rfl ((enc_c 4).gt za3) rfl
  ·exact Contract.inEnv rfl (supp_c 5) rfl
  ·exact Contract.inEnv rfl (srsv_c 6) rfl
  ·exact Contract.inEnv rfl (splain_c 7) rfl
  ·exact Contract.inEnv rfl (sidx_c 8) rfl
  ·exact Contract.inEnv rfl (schar_c 9) rfl) k (by
 rintro ts _ ⟨l, rfl, o, hP, hol, hl, hw⟩
 have hfin : ∀ z₀ : TV, z₀ = .agg [glsT o, .int 0] → sglL.post [strs l] z₀ := fun z₀ hz => sgl_fin (by rw [glyO_eq hP]; exact hz)
 generalize sglL.post [strs l] = R at hfin ⊢
 show Tree.den GE R tr_Gy [strs l] []
 unfold tr_Gy
 refine dcall srsv_pre fun v hv => ?_
 have hvv : v = resT := (srsv_all (Q := fun v => v = resT)).2 rfl v hv
 subst hvv
 refine ⟨PrI o, Prm, ⟨⟨l, [], 0, false⟩, rfl, hP, (fun g hg => by cases hg), hl, hw⟩, ?_⟩
 rintro xs _ ⟨p, rfl, hp, hok, hpl, hpw⟩
 have hpo := parse_out hp
 obtain ⟨ws, out, y, j⟩ := p
 dsimp only at *
 refine dbr (fun h => ?_) fun h => ?_
 ·simp only [Tree.den, E.den, P1.den, P2.den, P3.den, TV.cell, ne_eq, forall_eq, Int.reduceToNat, exists_eq_left', qz, List.cons_append, List.nil_append, zgq] at h
  obtain ⟨w, t, rfl⟩ : ∃ w t, ws = w :: t := by
   cases ws with
   | nil => simp at h
   | cons w t => exact ⟨w, t, rfl⟩
  cases hp with
  | done hd => cases hd
  | @step _ q _ hne hq hk =>
   have st := step_part hne hq
   have hqo := parse_out hk
   refine ⟨fun xs => xs = [.bool true, strs q.ws, .int q.y, .bool q.j, glsT q.out], J19_den hpl hpw hok (by omega) hq (by omega) rfl, ?_⟩
   rintro xs _ rfl
   refine dbr (fun k => Bool.noConfusion (show false = true from k)) fun _ => ⟨_, rfl, ⟨q, rfl, hk, st.ok hok, by have := st.ws; dsimp only at this; omega, fun x hx => hpw x (st.sub x hx)⟩, ?_⟩
   have := st.ws
   simp only [Prm, List.map_cons, List.cons_append, List.nil_append, E.den, List.getD_cons_zero, List.getD_cons_succ, zgq]
   exact this
 ·simp only [Tree.den, E.den, P1.den, P2.den, P3.den, TV.cell, ne_eq, forall_eq, Int.reduceToNat, exists_eq_left', qz, List.cons_append, List.nil_append, zgq] at h
  have h0 : ws = [] := List.length_eq_zero_iff.1 (by omega)
  subst h0
  cases hp with
  | done _ => exact hfin _ rfl
  | step hne _ _ => exact absurd rfl hne)) rfl
end Go.Proofs.YtlhagkbhojmjpaaGreatDoor

/- Written by this repo's own program out of its texts. -/
import Derived.Test.YtlhagkbhojmjpaaGreatDoorPWv
set_option linter.unusedSimpArgs false
set_option linter.unusedVariables false
set_option linter.unusedSectionVars false
namespace Go.Proofs.YtlhagkbhojmjpaaGreatDoor
def VtI (l : List Gl) (xs : List TV) : Prop := ∃ i : Nat, xs = [.int i, ints (bs (txG (l.take i)))] ∧ i ≤ l.length
def Vtm (l : List Gl) (xs : List TV) : Nat := l.length - (xs.getD 0 (.int 0)).asInt.toNat
def vtextL : Law := ⟨fun ts => ∃ (l : List Gl), ts = [glsT l] ∧ (l.length ≤ 1000000 ∧ (txG l).length ≤ 1000000000), fun ts z₀ => ∀ (l : List Gl), ts = [glsT l] → z₀ = .str (txG l)⟩
theorem vtext_pre {l : List Gl} (h : l.length ≤ 1000000 ∧ (txG l).length ≤ 1000000000) : vtextL.pre [glsT l] := ⟨l, rfl, h⟩
theorem vtext_fin {l : List Gl} {z₀ : TV} (h : z₀ = .str (txG l)) : vtextL.post [glsT l] z₀ := fun l₁ e => by
 simp only [qy, zzx] at e; subst e
 exact h
theorem vtext_all {l : List Gl} {Q : TV → Prop} : (∀ z₀, vtextL.post [glsT l] z₀ → Q z₀) ↔ Q (.str (txG l)) := ⟨fun h => h _ (vtext_fin rfl), fun h z₀ hr => by rw [hr _ rfl]; exact h⟩
theorem vtext_c (k : Nat) : Contract Tryz.prog (mkEnv globT []) gtabU (q5a k) vtextL.pre vtextL.post := Contract.env (Γ := mkEnv globT []) (contract_view_Text (fun _ => rfl) (fun s hs => by
  cases hs) k (by
 rintro ts hl ⟨l, rfl, hp⟩
 have hfin : ∀ z₀ : TV, z₀ = .str (txG l) → vtextL.post [glsT l] z₀ := fun z₀ hz₀ => vtext_fin hz₀
 generalize vtextL.post [glsT l] = R at hfin ⊢
 unfold tr_view_Text
 obtain ⟨hl, ht⟩ := hp
 simp only [Tree.den, E.den, P1.den, P2.den, P3.den, TV.cell, ne_eq, forall_eq, Int.reduceToNat, exists_eq_left', qz]
 refine ⟨VtI l, Vtm l, ⟨0, rfl, by omega⟩, ?_⟩
 rintro xs _ ⟨i, rfl, hi⟩
 have ew : IntKind.wrap .i64 ((i : Int) + 1) = ((i + 1 : Nat) : Int) := by rw [wrap_i64 (by omega) (by omega)]; omega
 simp only [Tree.den, E.den, P1.den, P2.den, P3.den, TV.cell, ne_eq, forall_eq, Int.reduceToNat, exists_eq_left', qz, zaj, zao, zaq, zan, zap, zam, zal, zar, qv, qq, qr, zak, ew, Int.toNat_natCast, zaw, List.length_map]
 refine ⟨fun hlt => ?_, fun hn => ?_⟩
 ·have hlt : i < l.length := by omega
  rw [zi7 hlt]
  simp only [glT, zae, List.getD_cons_zero, zad]
  have eb : List.map (fun b : UInt8 => TV.int (b.toNat : Int)) (gg l i).s = List.map TV.int (bs (gg l i).s) := by unfold bs; rw [List.map_map]; rfl
  have hsp := txG_split (i + 1) l
  rw [gtake hlt, txG_snoc, List.length_append] at hsp
  rw [eb, ← List.map_append, ← zhy, ← txG_snoc, ← gtake hlt]
  refine ⟨by omega, by omega, by omega, ⟨i + 1, rfl, by omega⟩, ?_⟩
  simp only [Vtm, List.getD_cons_zero, zac]; omega
 ·obtain rfl : i = l.length := by omega
  rw [List.take_length]
  refine hfin _ (congrArg TV.str ?_)
  rw [List.map_map]
  exact zlo _)) rfl
def segK (g : Gl) : Nat := if g.s = [] ∨ g.s = [32] then 0 else if 128 ≤ (g.s.getD 0 0).toNat ∨ (g.s.getD 0 0).toNat = 95 ∨ (48 ≤ (g.s.getD 0 0).toNat ∧ (g.s.getD 0 0).toNat ≤ 57) ∨ (65 ≤ (g.s.getD 0 0).toNat ∧ (g.s.getD 0 0).toNat ≤ 90) ∨ (97 ≤ (g.s.getD 0 0).toNat ∧ (g.s.getD 0 0).toNat ≤ 122) then 1 else 2
def segkL : Law := ⟨fun ts => ∃ (s : By) (w : Bool) (y : Int), ts = [.agg [.str s, .bool w, .int y]] ∧ (True), fun ts z₀ => ∀ (s : By) (w : Bool) (y : Int), ts = [.agg [.str s, .bool w, .int y]] → z₀ = .int (segK ⟨s, w, y⟩)⟩
theorem segk_pre {s : By} {w : Bool} {y : Int} (h : True) : segkL.pre [.agg [.str s, .bool w, .int y]] := ⟨s, w, y, rfl, h⟩
theorem segk_fin {s : By} {w : Bool} {y : Int} {z₀ : TV} (h : z₀ = .int (segK ⟨s, w, y⟩)) : segkL.post [.agg [.str s, .bool w, .int y]] z₀ := fun s₁ w₁ y₁ e => by
 simp only [qy] at e; obtain ⟨rfl, rfl, rfl⟩ := e
 exact h
theorem segk_c (k : Nat) : Contract Tryz.prog (mkEnv globT []) gtabU (q5r k) segkL.pre segkL.post := Contract.env (Γ := mkEnv globT []) (contract_segment_kind (fun _ => rfl) (fun s hs => by
  cases hs) k (by
 rintro ts hl ⟨s, w, y, rfl, hp⟩
 have hfin : ∀ z₀ : TV, z₀ = .int (segK ⟨s, w, y⟩) → segkL.post [.agg [.str s, .bool w, .int y]] z₀ := fun z₀ hz₀ => segk_fin hz₀
 generalize segkL.post [.agg [.str s, .bool w, .int y]] = R at hfin ⊢
 unfold tr_segment_kind
 unfold segK at hfin
 dsimp only at hfin
 have e0 : s = [] ∨ s = [32] → R (.int 0) := fun h => hfin _ (by rw [if_pos h]; rfl)
 have e1 : ¬ (s = [] ∨ s = [32]) → (128 ≤ (s.getD 0 0).toNat ∨ (s.getD 0 0).toNat = 95 ∨ (48 ≤ (s.getD 0 0).toNat ∧ (s.getD 0 0).toNat ≤ 57) ∨ (65 ≤ (s.getD 0 0).toNat ∧ (s.getD 0 0).toNat ≤ 90) ∨ (97 ≤ (s.getD 0 0).toNat ∧ (s.getD 0 0).toNat ≤ 122)) → R (.int 1) := fun h k => hfin _ (by rw [if_neg h, if_pos k]; rfl)
 have e2 : ¬ (s = [] ∨ s = [32]) → ¬ (128 ≤ (s.getD 0 0).toNat ∨ (s.getD 0 0).toNat = 95 ∨ (48 ≤ (s.getD 0 0).toNat ∧ (s.getD 0 0).toNat ≤ 57) ∨ (65 ≤ (s.getD 0 0).toNat ∧ (s.getD 0 0).toNat ≤ 90) ∨ (97 ≤ (s.getD 0 0).toNat ∧ (s.getD 0 0).toNat ≤ 122)) → R (.int 2) := fun h k => hfin _ (by rw [if_neg h, if_neg k]; rfl)
 simp only [Tree.den, E.den, P1.den, P2.den, P3.den, TV.cell, ne_eq, forall_eq, Int.reduceToNat, exists_eq_left', qz]
 refine ⟨fun h => e0 (.inl h), fun h1 => ⟨fun h => e0 (.inr h), fun h2 => ⟨?_, ?_⟩⟩⟩
 ·have := List.length_pos_iff.2 h1
  omega
 have hne : ¬ (s = [] ∨ s = [32]) := fun k => k.elim h1 h2
 have e1 := e1 hne
 have e2 := e2 hne
 generalize (s.getD 0 0).toNat = c at e1 e2 ⊢
 repeat' (first
  |(refine ⟨fun _ => ?_, fun _ => ?_⟩)
  | exact e1 (by omega)
  | exact e2 (by omega)))) rfl
def cposL : Law := ⟨fun ts => ∃ (w : Int) (h : Int) (rows : List (List Gl)) (r : Int) (c : Int) (vis : Bool) (row : Int) (col : Int), ts = [.agg [.int w, .int h, rowsT rows, .int r, .int c, .bool vis], .int row, .int col] ∧ (True), fun ts z₀ => ∀ (w : Int) (h : Int) (rows : List (List Gl)) (r : Int) (c : Int) (vis : Bool) (row : Int) (col : Int), ts = [.agg [.int w, .int h, rowsT rows, .int r, .int c, .bool vis], .int row, .int col] → z₀ = .bool (decide (0 ≤ row ∧ row < h ∧ 0 ≤ col ∧ col ≤ w))⟩
theorem cpos_pre {w : Int} {h : Int} {rows : List (List Gl)} {r : Int} {c : Int} {vis : Bool} {row : Int} {col : Int} (h₀ : True) : cposL.pre [.agg [.int w, .int h, rowsT rows, .int r, .int c, .bool vis], .int row, .int col] := ⟨w, h, rows, r, c, vis, row, col, rfl, h₀⟩
theorem cpos_fin {w : Int} {h : Int} {rows : List (List Gl)} {r : Int} {c : Int} {vis : Bool} {row : Int} {col : Int} {z₀ : TV} (h₀ : z₀ = .bool (decide (0 ≤ row ∧ row < h ∧ 0 ≤ col ∧ col ≤ w))) : cposL.post [.agg [.int w, .int h, rowsT rows, .int r, .int c, .bool vis], .int row, .int col] z₀ := fun w₁ h₁ rows₁ r₁ c₁ vis₁ row₁ col₁ e => by
 simp only [qy, rowsT_eq] at e; obtain ⟨rfl, rfl, rfl, rfl, rfl, rfl, rfl, rfl⟩ := e
 exact h₀
theorem cpos_all {w : Int} {h : Int} {rows : List (List Gl)} {r : Int} {c : Int} {vis : Bool} {row : Int} {col : Int} {Q : TV → Prop} : (∀ z₀, cposL.post [.agg [.int w, .int h, rowsT rows, .int r, .int c, .bool vis], .int row, .int col] z₀ → Q z₀) ↔ Q (.bool (decide (0 ≤ row ∧ row < h ∧ 0 ≤ col ∧ col ≤ w))) := ⟨fun h₀ => h₀ _ (cpos_fin rfl), fun h₀ z₀ hr => by rw [hr _ _ _ _ _ _ _ _ rfl]; exact h₀⟩
theorem cpos_c (k : Nat) : Contract Tryz.prog (mkEnv globT []) gtabU (q4w k) cposL.pre cposL.post := Contract.env (Γ := mkEnv globT []) (contract_clipping_position (fun _ => rfl) (fun s hs => by
  cases hs) k (by
 rintro ts hl ⟨w, h, rows, r, c, vis, row, col, rfl, hp⟩
 have hfin : ∀ z₀ : TV, z₀ = .bool (decide (0 ≤ row ∧ row < h ∧ 0 ≤ col ∧ col ≤ w)) → cposL.post [.agg [.int w, .int h, rowsT rows, .int r, .int c, .bool vis], .int row, .int col] z₀ := fun z₀ hz₀ => cpos_fin hz₀
 generalize cposL.post [.agg [.int w, .int h, rowsT rows, .int r, .int c, .bool vis], .int row, .int col] = R at hfin ⊢
 unfold tr_clipping_position
 simp only [Tree.den, E.den, P1.den, P2.den, P3.den, TV.cell, ne_eq, forall_eq, Int.reduceToNat, exists_eq_left', qz]
 refine ⟨fun h1 => ⟨fun h2 => ⟨fun h3 => hfin _ ?_, fun h3 => hfin _ ?_⟩, fun h2 => hfin _ ?_⟩, fun h1 => hfin _ ?_⟩
 ·exact congrArg TV.bool (decide_eq_decide.2 (by omega))
 ·rw [decide_eq_false (by omega)]
 ·rw [decide_eq_false (by omega)]
 ·rw [decide_eq_false (by omega)])) rfl
def cidxL : Law := ⟨fun ts => ∃ (l : List Gl) (col : Int), ts = [glsT l, .int col] ∧ (l.length ≤ 1000000 ∧ col ≤ 1000000000), fun ts z₀ => ∀ (l : List Gl) (col : Int), ts = [glsT l, .int col] → z₀ = .int (min (idxG l col) l.length)⟩
theorem cidx_pre {l : List Gl} {col : Int} (h : l.length ≤ 1000000 ∧ col ≤ 1000000000) : cidxL.pre [glsT l, .int col] := ⟨l, col, rfl, h⟩
theorem cidx_fin {l : List Gl} {col : Int} {z₀ : TV} (h : z₀ = .int (min (idxG l col) l.length)) : cidxL.post [glsT l, .int col] z₀ := fun l₁ col₁ e => by
 simp only [qy, zzx] at e; obtain ⟨rfl, rfl⟩ := e
 exact h
theorem cidx_all {l : List Gl} {col : Int} {Q : TV → Prop} : (∀ z₀, cidxL.post [glsT l, .int col] z₀ → Q z₀) ↔ Q (.int (min (idxG l col) l.length)) := ⟨fun h => h _ (cidx_fin rfl), fun h z₀ hr => by rw [hr _ _ rfl]; exact h⟩
theorem cidx_c (k : Nat) : Contract Tryz.prog (mkEnv globT []) gtabU (q45 k) cidxL.pre cidxL.post := Contract.env (Γ := mkEnv globT [pidxL]) (contract_clipping_index (fun _ => rfl) (fun s hs => by
  simp only [cx_clipping_index, List.mem_cons, List.not_mem_nil, or_false] at hs
  rcases hs with rfl
  ·exact Contract.inEnv rfl (pidx_c 0) rfl) k (by
 rintro ts hl ⟨l, col, rfl, hp⟩
 have hfin : ∀ z₀ : TV, z₀ = .int (min (idxG l col) l.length) → cidxL.post [glsT l, .int col] z₀ := fun z₀ hz₀ => cidx_fin hz₀
 generalize cidxL.post [glsT l, .int col] = R at hfin ⊢
 unfold tr_clipping_index
 simp only [Tree.den, E.den, P1.den, P2.den, P3.den, TV.cell, ne_eq, forall_eq, Int.reduceToNat, exists_eq_left', qz, pidx_all, zbo]
 exact ⟨pidx_pre hp, hfin _ rfl⟩)) rfl
end Go.Proofs.YtlhagkbhojmjpaaGreatDoor

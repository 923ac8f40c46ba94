/- Written by this repo's own program out of its texts. -/
import Derived.Test.YtlhagkbhojmjpaaGreatDoorPHe
set_option linter.unusedSimpArgs false
set_option linter.unusedVariables false
set_option linter.unusedSectionVars false
namespace Go.Proofs.YtlhagkbhojmjpaaGreatDoor
def gcharL : Law := ⟨fun ts => ∃ (n : Int), ts = [.int n] ∧ (True), fun ts z₀ => ∀ (n : Int), ts = [.int n] → z₀ = .bool (decide ((0 ≤ n ∧ n ≤ 55295) ∨ (57344 ≤ n ∧ n ≤ 1114111)))⟩
theorem gchar_pre {n : Int} (h : True) : gcharL.pre [.int n] := ⟨n, rfl, h⟩
theorem gchar_fin {n : Int} {z₀ : TV} (h : z₀ = .bool (decide ((0 ≤ n ∧ n ≤ 55295) ∨ (57344 ≤ n ∧ n ≤ 1114111)))) : gcharL.post [.int n] z₀ := fun n₁ e => by
 simp only [qy] at e; subst e
 exact h
theorem gchar_all {n : Int} {Q : TV → Prop} : (∀ z₀, gcharL.post [.int n] z₀ → Q z₀) ↔ Q (.bool (decide ((0 ≤ n ∧ n ≤ 55295) ∨ (57344 ≤ n ∧ n ≤ 1114111)))) := ⟨fun h => h _ (gchar_fin rfl), fun h z₀ hr => by rw [hr _ rfl]; exact h⟩
theorem gchar_c (k : Nat) : Contract Tryz.prog (mkEnv globT []) gtabU (qp7 k) gcharL.pre gcharL.post := Contract.env (Γ := mkEnv globT []) (qt8 (fun _ => rfl) (fun s hs => by
  cases hs) k (by
 rintro ts hl ⟨n, rfl, hp⟩
 have hfin : ∀ z₀ : TV, z₀ = .bool (decide ((0 ≤ n ∧ n ≤ 55295) ∨ (57344 ≤ n ∧ n ≤ 1114111))) → gcharL.post [.int n] z₀ := fun z₀ hz₀ => gchar_fin hz₀
 generalize gcharL.post [.int n] = R at hfin ⊢
 unfold tr_signnames_character
 simp only [Tree.den, E.den, P1.den, P2.den, P3.den, TV.cell, ne_eq, forall_eq, Int.reduceToNat, exists_eq_left', qz]
 refine ⟨fun h1 => ⟨fun h2 => hfin _ ?_, fun h2 => ⟨fun h3 => hfin _ ?_, fun h3 => hfin _ ?_⟩⟩, fun h1 => ⟨fun h3 => hfin _ ?_, fun h3 => hfin _ ?_⟩⟩
 ·rw [decide_eq_true (by omega)]
 ·exact congrArg TV.bool (decide_eq_decide.2 (by omega))
 ·rw [decide_eq_false (by omega)]
 ·exact congrArg TV.bool (decide_eq_decide.2 (by omega))
 ·rw [decide_eq_false (by omega)])) rfl
def gspellL : Law := ⟨fun ts => ∃ (r : Int), ts = [.int r] ∧ (okR r), fun ts z₀ => ∀ (r : Int), ts = [.int r] → z₀ = strs (qud r)⟩
theorem gspell_pre {r : Int} (h : okR r) : gspellL.pre [.int r] := ⟨r, rfl, h⟩
theorem gspell_fin {r : Int} {z₀ : TV} (h : z₀ = strs (qud r)) : gspellL.post [.int r] z₀ := fun r₁ e => by
 simp only [qy] at e; subst e
 exact h
theorem gspell_all {r : Int} {Q : TV → Prop} : (∀ z₀, gspellL.post [.int r] z₀ → Q z₀) ↔ Q (strs (qud r)) := ⟨fun h => h _ (gspell_fin rfl), fun h z₀ hr => by rw [hr _ rfl]; exact h⟩
theorem gspell_c (k : Nat) : Contract Tryz.prog (mkEnv globT []) gtabU (qq6 k) gspellL.pre gspellL.post := Contract.env (Γ := mkEnv globT [nwordsL, gnameL, gcharL]) (contract_signnames_Spell (fun _ => rfl) (fun s hs => by
  simp only [cx_signnames_Spell, List.mem_cons, List.not_mem_nil, or_false] at hs
  rcases hs with rfl | rfl | rfl
  ·exact Contract.inEnv rfl (nwords_c 0) rfl
  ·exact Contract.inEnv rfl (gname_c 1) rfl
  ·exact Contract.inEnv rfl (gchar_c 2) rfl) k (by
 rintro ts hl ⟨r, rfl, hp⟩
 have hfin : ∀ z₀ : TV, z₀ = strs (qud r) → gspellL.post [.int r] z₀ := fun z₀ hz₀ => gspell_fin hz₀
 generalize gspellL.post [.int r] = R at hfin ⊢
 unfold tr_signnames_Spell
 unfold okR at hp
 have q : IntKind.wrap .i64 r = r := wrap_i64 (by omega) (by omega)
 have e0 : [99, 104, 97, 114, 97, 99, 116, 101, 114] = cwd 0 := rfl
 simp only [Tree.den, E.den, P1.den, P2.den, P3.den, TV.cell, ne_eq, forall_eq, Int.reduceToNat, exists_eq_left', qz, gname_all, gchar_all, nwords_all, q, e0]
 unfold nameT
 unfold qud at hfin
 cases hs : sgnI r with
 | some i =>
  rw [hs] at hfin
  simp only [Tree.den, E.den, P1.den, P2.den, P3.den, TV.cell, ne_eq, forall_eq, Int.reduceToNat, exists_eq_left', qz]
  exact ⟨gname_pre trivial, fun _ => hfin _ rfl, fun h => (by cases h)⟩
 | none =>
  rw [hs] at hfin
  obtain ⟨k, rfl⟩ : ∃ k : Nat, r = k := ⟨r.toNat, by omega⟩
  have hl := wordsW_len k
  rw [nw_pos k (by omega)]
  simp only [Tree.den, E.den, P1.den, P2.den, P3.den, TV.cell, ne_eq, forall_eq, Int.reduceToNat, exists_eq_left', qz, zbc, qr, Int.toNat_natCast, List.cons_append, List.nil_append]
  simp only [Int.toNat_natCast] at hfin
  refine ⟨gname_pre trivial, fun h => (by cases h), fun _ => ⟨gchar_pre trivial, fun h => absurd hp h, fun _ => ⟨nwords_pre trivial, by omega, hfin _ rfl⟩⟩⟩)) rfl
def unsT (l : List By) : TV := match l with
 | [] => .agg [.int 0, .int 0, .int 17]
 | w :: ws => match nameL.findIdx? (· == w) with
  | some i => .agg [.int ((signL.getD i 0).toNat : Int), .int 1, .int 0]
  | none => if w = cwd 0 then (match qvc ws with
   | some (n, k) => if ((0 ≤ n ∧ n ≤ 55295) ∨ (57344 ≤ n ∧ n ≤ 1114111)) ∧ sgnI n = none then .agg [.int n, .int ((1 + k : Nat) : Int), .int 0] else .agg [.int 0, .int 0, .int 17]
   | none => .agg [.int 0, .int 0, .int 17]) else .agg [.int 0, .int 0, .int 17]
theorem sgnX_neg (r : Int) : 0 ≤ sgnX r ↔ sgnI r ≠ none := by
 unfold sgnX
 cases sgnI r with
 | none => simp
 | some i => simp
def gunsL : Law := ⟨fun ts => ∃ (l : List By), ts = [strs l] ∧ (l.length ≤ 1000000), fun ts z₀ => ∀ (l : List By), ts = [strs l] → z₀ = unsT l⟩
theorem guns_pre {l : List By} (h : l.length ≤ 1000000) : gunsL.pre [strs l] := ⟨l, rfl, h⟩
theorem guns_fin {l : List By} {z₀ : TV} (h : z₀ = unsT l) : gunsL.post [strs l] z₀ := fun l₁ e => by
 simp only [qy, qhv] at e; subst e
 exact h
theorem guns_all {l : List By} {Q : TV → Prop} : (∀ z₀, gunsL.post [strs l] z₀ → Q z₀) ↔ Q (unsT l) := ⟨fun h => h _ (guns_fin rfl), fun h z₀ hr => by rw [hr _ rfl]; exact h⟩
theorem guns_c (k : Nat) : Contract Tryz.prog (mkEnv globT []) gtabU (qqq k) gunsL.pre gunsL.post := Contract.env (Γ := mkEnv globT [nprefL, gixL, gsignL, gcharL]) (contract_signnames_Unspell (fun _ => rfl) (fun s hs => by
  simp only [cx_signnames_Unspell, List.mem_cons, List.not_mem_nil, or_false] at hs
  rcases hs with rfl | rfl | rfl | rfl
  ·exact Contract.inEnv rfl (npref_c 0) rfl
  ·exact Contract.inEnv rfl (gix_c 1) rfl
  ·exact Contract.inEnv rfl (gsign_c 2) rfl
  ·exact Contract.inEnv rfl (gchar_c 3) rfl) k (by
 rintro ts hl ⟨l, rfl, hp⟩
 have hfin : ∀ z₀ : TV, z₀ = unsT l → gunsL.post [strs l] z₀ := fun z₀ hz₀ => guns_fin hz₀
 generalize gunsL.post [strs l] = R at hfin ⊢
 unfold tr_signnames_Unspell
 have e0 : [99, 104, 97, 114, 97, 99, 116, 101, 114] = cwd 0 := rfl
 cases l with
 | nil =>
  simp only [Tree.den, E.den, P1.den, P2.den, P3.den, TV.cell, ne_eq, forall_eq, Int.reduceToNat, exists_eq_left', qz, zgq]
  exact ⟨fun _ => hfin _ rfl, fun h => absurd rfl h⟩
 | cons w t =>
  have hd : TV.list (((((w :: t).map TV.str)).drop 1).take (((w :: t).length : Nat) - 1)) = strs t := by
   unfold strs
   rw [List.map_cons, List.drop_succ_cons, List.drop_zero, List.take_of_length_le (by rw [List.length_map, List.length_cons]; omega)]
  have hl : (w :: t).length = t.length + 1 := rfl
  have ht : (((t.length + 1 : Nat) : Int)).toNat - 1 = t.length + 1 - 1 := by omega
  unfold unsT at hfin
  dsimp only at hfin
  simp only [Tree.den, E.den, P1.den, P2.den, P3.den, TV.cell, ne_eq, forall_eq, Int.reduceToNat, exists_eq_left', qz, zgq, zbc, gsign_all, e0, qr, List.map_cons, hl]
  have hdd : TV.list (List.take (((t.length + 1 : Nat) : Int).toNat - 1) (List.drop 1 (TV.str w :: List.map TV.str t))) = strs t := by
   rw [List.drop_succ_cons, List.drop_zero, List.take_of_length_le (by rw [List.length_map]; omega)]; rfl
  rw [hdd]
  refine ⟨fun h => absurd h (by omega), fun _ => ⟨by omega, gsign_pre trivial, ?_⟩⟩
  unfold signT
  cases hs : nameL.findIdx? (· == w) with
  | some i =>
   rw [hs] at hfin
   exact ⟨fun _ => hfin _ rfl, fun h => (by cases h)⟩
  | none =>
   rw [hs] at hfin
   simp only [Tree.den, E.den, P1.den, P2.den, P3.den, TV.cell, ne_eq, forall_eq, Int.reduceToNat, exists_eq_left', qz, npref_all, gchar_all, gix_all]
   refine ⟨fun h => (by cases h), fun _ => ⟨by omega, fun h => hfin _ (by rw [if_neg h]), fun h => ⟨by omega, npref_pre (by rw [hl] at hp; omega), ?_⟩⟩⟩
   rw [if_pos h] at hfin
   unfold prefT
   cases hz : qvc t with
   | none =>
    rw [hz] at hfin
    exact ⟨fun _ => hfin _ rfl, fun h => absurd h (by decide)⟩
   | some p =>
    obtain ⟨n, k⟩ := p
    have hb := prefixZ_bd hz
    rw [hz] at hfin
    dsimp only at hfin
    have q1 : IntKind.wrap .i32 n = n := zax (by omega) (by omega)
    have q2 : IntKind.wrap .i64 (1 + (k : Int)) = ((1 + k : Nat) : Int) := by rw [wrap_i64 (by omega) (by omega)]; omega
    simp only [Tree.den, E.den, P1.den, P2.den, P3.den, TV.cell, ne_eq, forall_eq, Int.reduceToNat, exists_eq_left', qz, q1, q2, gix_all, gchar_all]
    refine ⟨fun h => absurd trivial h, fun _ => ⟨gchar_pre trivial, fun h => hfin _ (by rw [if_neg (fun c => h c.1)]), fun h => ⟨gix_pre trivial, fun h2 => hfin _ (by rw [if_neg (fun c => (sgnX_neg n).1 h2 c.2)]), fun h2 => hfin _ (by rw [if_pos ⟨h, Classical.byContradiction fun c => h2 ((sgnX_neg n).2 c)⟩])⟩⟩⟩)) rfl
def stgE (r rp ce : Int) : Int := if r < 25 ∨ 400 < r ∨ (rp ≠ 0 ∧ (rp < 2 ∨ 132 < rp)) ∨ ce < 1 ∨ 80 < ce then 2 else 0
def scheckL : Law := ⟨fun ts => ∃ (r : Int) (dg : Bool) (sp : Bool) (rp : Int) (ct : Bool) (ce : Int), ts = [.agg [.int r, .bool dg, .bool sp, .int rp, .bool ct, .int ce]] ∧ (True), fun ts z₀ => ∀ (r : Int) (dg : Bool) (sp : Bool) (rp : Int) (ct : Bool) (ce : Int), ts = [.agg [.int r, .bool dg, .bool sp, .int rp, .bool ct, .int ce]] → z₀ = .int (stgE r rp ce)⟩
theorem scheck_pre {r : Int} {dg : Bool} {sp : Bool} {rp : Int} {ct : Bool} {ce : Int} (h : True) : scheckL.pre [.agg [.int r, .bool dg, .bool sp, .int rp, .bool ct, .int ce]] := ⟨r, dg, sp, rp, ct, ce, rfl, h⟩
theorem scheck_fin {r : Int} {dg : Bool} {sp : Bool} {rp : Int} {ct : Bool} {ce : Int} {z₀ : TV} (h : z₀ = .int (stgE r rp ce)) : scheckL.post [.agg [.int r, .bool dg, .bool sp, .int rp, .bool ct, .int ce]] z₀ := fun r₁ dg₁ sp₁ rp₁ ct₁ ce₁ e => by
 simp only [qy] at e; obtain ⟨rfl, rfl, rfl, rfl, rfl, rfl⟩ := e
 exact h
theorem scheck_all {r : Int} {dg : Bool} {sp : Bool} {rp : Int} {ct : Bool} {ce : Int} {Q : TV → Prop} : (∀ z₀, scheckL.post [.agg [.int r, .bool dg, .bool sp, .int rp, .bool ct, .int ce]] z₀ → Q z₀) ↔ Q (.int (stgE r rp ce)) := ⟨fun h => h _ (scheck_fin rfl), fun h z₀ hr => by rw [hr _ _ _ _ _ _ rfl]; exact h⟩
theorem scheck_c (k : Nat) : Contract Tryz.prog (mkEnv globT []) gtabU (qs8 k) scheckL.pre scheckL.post := Contract.env (Γ := mkEnv globT []) (contract_spokentext_Check (fun _ => rfl) (fun s hs => by
  cases hs) k (by
 rintro ts hl ⟨r, dg, sp, rp, ct, ce, rfl, hp⟩
 have hfin : ∀ z₀ : TV, z₀ = .int (stgE r rp ce) → scheckL.post [.agg [.int r, .bool dg, .bool sp, .int rp, .bool ct, .int ce]] z₀ := fun z₀ hz₀ => scheck_fin hz₀
 generalize scheckL.post [.agg [.int r, .bool dg, .bool sp, .int rp, .bool ct, .int ce]] = R at hfin ⊢
 unfold tr_spokentext_Check
 simp only [Tree.den, E.den, P1.den, P2.den, P3.den, TV.cell, ne_eq, forall_eq, Int.reduceToNat, exists_eq_left', qz]
 repeat' (first
  |(refine ⟨fun _ => ?_, fun _ => ?_⟩)
  | exact hfin _ (by unfold stgE; rw [if_pos (by omega)])
  | exact hfin _ (by unfold stgE; rw [if_neg (by omega)])))) rfl
def skindL : Law := ⟨fun ts => ∃ (s : By) (w : Bool) (y : Int), ts = [.agg [.str s, .bool w, .int y]] ∧ (True), fun ts z₀ => ∀ (s : By) (w : Bool) (y : Int), ts = [.agg [.str s, .bool w, .int y]] → z₀ = .int (kindG ⟨s, w, y⟩)⟩
theorem skind_pre {s : By} {w : Bool} {y : Int} (h : True) : skindL.pre [.agg [.str s, .bool w, .int y]] := ⟨s, w, y, rfl, h⟩
theorem skind_fin {s : By} {w : Bool} {y : Int} {z₀ : TV} (h : z₀ = .int (kindG ⟨s, w, y⟩)) : skindL.post [.agg [.str s, .bool w, .int y]] z₀ := fun s₁ w₁ y₁ e => by
 simp only [qy] at e; obtain ⟨rfl, rfl, rfl⟩ := e
 exact h
theorem skind_all {s : By} {w : Bool} {y : Int} {Q : TV → Prop} : (∀ z₀, skindL.post [.agg [.str s, .bool w, .int y]] z₀ → Q z₀) ↔ Q (.int (kindG ⟨s, w, y⟩)) := ⟨fun h => h _ (skind_fin rfl), fun h z₀ hr => by rw [hr _ _ _ rfl]; exact h⟩
theorem skind_c (k : Nat) : Contract Tryz.prog (mkEnv globT []) gtabU (qp4 k) skindL.pre skindL.post := Contract.env (Γ := mkEnv globT []) (contract_spokentext_kind (fun _ => rfl) (fun s hs => by
  cases hs) k (by
 rintro ts hl ⟨s, w, y, rfl, hp⟩
 have hfin : ∀ z₀ : TV, z₀ = .int (kindG ⟨s, w, y⟩) → skindL.post [.agg [.str s, .bool w, .int y]] z₀ := fun z₀ hz₀ => skind_fin hz₀
 generalize skindL.post [.agg [.str s, .bool w, .int y]] = R at hfin ⊢
 unfold tr_spokentext_kind
 match s, hfin with
 | [], hfin =>
  simp only [Tree.den, E.den, P1.den, P2.den, P3.den, TV.cell, ne_eq, forall_eq, Int.reduceToNat, exists_eq_left', qz]
  exact ⟨fun _ => hfin _ rfl, fun h => absurd h (by decide)⟩
 | _ :: _ :: _, hfin =>
  simp only [Tree.den, E.den, P1.den, P2.den, P3.den, TV.cell, ne_eq, forall_eq, Int.reduceToNat, exists_eq_left', qz]
  exact ⟨fun _ => hfin _ rfl, fun h => absurd h (by omega)⟩
 | [c], hfin =>
  have hk : kindG ⟨[c], w, y⟩ = if 97 ≤ c.toNat ∧ c.toNat ≤ 122 then 1 else if 65 ≤ c.toNat ∧ c.toNat ≤ 90 then 2 else if 48 ≤ c.toNat ∧ c.toNat ≤ 57 then 3 else 0 := by
   rw [kind_one]
   simp only [UInt8.le_iff_toNat_le]
   rfl
  rw [hk] at hfin
  simp only [Tree.den, E.den, P1.den, P2.den, P3.den, TV.cell, ne_eq, forall_eq, Int.reduceToNat, exists_eq_left', qz]
  refine ⟨fun h => absurd rfl h, fun _ => ⟨by omega, ?_⟩⟩
  repeat' (first
   |(refine ⟨fun _ => ?_, fun _ => ?_⟩)
   | exact hfin _ (congrArg TV.int (by (repeat' split) <;> omega))))) rfl
theorem cntG_cons (k : Nat) (y : Int) (g : Gl) (l : List Gl) : cntG k y (g :: l) = if kindG g = k ∧ g.y = y then cntG k y l + 1 else 0 := rfl
def CtI (l : List Gl) (k y : Int) (xs : List TV) : Prop := ∃ i : Nat, xs = [.int i] ∧ i ≤ l.length ∧ cntG k.toNat y l = i + cntG k.toNat y (l.drop i)
def Ctm (n : Nat) (xs : List TV) : Nat := n - (xs.getD 0 (.int 0)).asInt.toNat
def scountL : Law := ⟨fun ts => ∃ (l : List Gl) (k : Int) (y : Int), ts = [glsT l, .int k, .int y] ∧ (l.length ≤ 1000000 ∧ 0 ≤ k), fun ts z₀ => ∀ (l : List Gl) (k : Int) (y : Int), ts = [glsT l, .int k, .int y] → z₀ = .int (cntG k.toNat y l)⟩
theorem scount_pre {l : List Gl} {k : Int} {y : Int} (h : l.length ≤ 1000000 ∧ 0 ≤ k) : scountL.pre [glsT l, .int k, .int y] := ⟨l, k, y, rfl, h⟩
theorem scount_fin {l : List Gl} {k : Int} {y : Int} {z₀ : TV} (h : z₀ = .int (cntG k.toNat y l)) : scountL.post [glsT l, .int k, .int y] z₀ := fun l₁ k₁ y₁ e => by
 simp only [qy, zzx] at e; obtain ⟨rfl, rfl, rfl⟩ := e
 exact h
theorem scount_all {l : List Gl} {k : Int} {y : Int} {Q : TV → Prop} : (∀ z₀, scountL.post [glsT l, .int k, .int y] z₀ → Q z₀) ↔ Q (.int (cntG k.toNat y l)) := ⟨fun h => h _ (scount_fin rfl), fun h z₀ hr => by rw [hr _ _ _ rfl]; exact h⟩
theorem scount_c (k : Nat) : Contract Tryz.prog (mkEnv globT []) gtabU (qqu k) scountL.pre scountL.post := Contract.env (Γ := mkEnv globT [skindL]) (contract_spokentext_count (fun _ => rfl) (fun s hs => by
  simp only [cx_spokentext_count, List.mem_cons, List.not_mem_nil, or_false] at hs
  rcases hs with rfl
  ·exact Contract.inEnv rfl (skind_c 0) rfl) k (by
 rintro ts hl ⟨l, k, y, rfl, hp⟩
 have hfin : ∀ z₀ : TV, z₀ = .int (cntG k.toNat y l) → scountL.post [glsT l, .int k, .int y] z₀ := fun z₀ hz₀ => scount_fin hz₀
 generalize scountL.post [glsT l, .int k, .int y] = R at hfin ⊢
 unfold tr_spokentext_count
 obtain ⟨hl, hk⟩ := hp
 simp only [Tree.den, E.den, P1.den, P2.den, P3.den, TV.cell, ne_eq, forall_eq, Int.reduceToNat, exists_eq_left', qz, zbo]
 refine ⟨CtI l k y, Ctm l.length, ⟨0, rfl, by omega, by simp⟩, ?_⟩
 rintro xs _ ⟨i, rfl, hi, he⟩
 by_cases hlt : i < l.length
 ·have e1 : IntKind.wrap .i64 ((i : Int) + 1) = ((i + 1 : Nat) : Int) := by rw [wrap_i64 (by omega) (by omega)]; omega
  rw [zkt hlt, cntG_cons] at he
  simp only [Tree.den, E.den, P1.den, P2.den, P3.den, TV.cell, ne_eq, forall_eq, Int.reduceToNat, exists_eq_left', qz, zaw, zbo, qr, qv, zi7 hlt, glT, e1, List.cons_append, List.nil_append, skind_all]
  generalize gg l i = g at he ⊢
  refine ⟨fun _ => ⟨by omega, by omega, skind_pre trivial, fun h => ⟨by omega, by omega, fun h2 => ⟨⟨i + 1, rfl, by omega, ?_⟩, ?_⟩, fun h2 => hfin _ ?_⟩, fun h => hfin _ ?_⟩, fun h => absurd h (by omega)⟩
  ·rw [if_pos ⟨by have h : ((kindG g : Nat) : Int) = k := h; omega, h2⟩] at he
   omega
  ·simp only [Ctm, List.getD_cons_zero, zac]; omega
  ·rw [if_neg (fun c => h2 c.2)] at he
   rw [he]; rfl
  ·rw [if_neg (fun c => h (by show ((kindG g : Nat) : Int) = k; have := c.1; omega))] at he
   rw [he]; rfl
 ·obtain rfl : i = l.length := by omega
  simp only [Tree.den, E.den, P1.den, P2.den, P3.den, TV.cell, ne_eq, forall_eq, Int.reduceToNat, exists_eq_left', qz, zaw, zbo, qr, qv, List.cons_append, List.nil_append]
  rw [List.drop_length] at he
  exact ⟨fun h => absurd h (by omega), fun _ => hfin _ (by rw [he]; rfl)⟩)) rfl
def scharsL : Law := ⟨fun ts => ∃ (s : By), ts = [.str s] ∧ (zbf s = 0 ∧ s.length ≤ 1000000), fun ts z₀ => ∀ (s : By), ts = [.str s] → z₀ = ints (zbj s)⟩
theorem schars_pre {s : By} (h : zbf s = 0 ∧ s.length ≤ 1000000) : scharsL.pre [.str s] := ⟨s, rfl, h⟩
theorem schars_fin {s : By} {z₀ : TV} (h : z₀ = ints (zbj s)) : scharsL.post [.str s] z₀ := fun s₁ e => by
 simp only [qy] at e; subst e
 exact h
theorem schars_all {s : By} {Q : TV → Prop} : (∀ z₀, scharsL.post [.str s] z₀ → Q z₀) ↔ Q (ints (zbj s)) := ⟨fun h => h _ (schars_fin rfl), fun h z₀ hr => by rw [hr _ rfl]; exact h⟩
theorem schars_c (k : Nat) : Contract Tryz.prog (mkEnv globT []) gtabU (qp5 k) scharsL.pre scharsL.post := Contract.env (Γ := mkEnv globT [decodeL, finishL]) (qt3 (fun _ => rfl) (fun s hs => by
  simp only [cx_spokentext_characters, List.mem_cons, List.not_mem_nil, or_false] at hs
  rcases hs with rfl | rfl
  ·exact Contract.inEnv rfl ((zo6 0).gt za3) rfl
  ·exact Contract.inEnv rfl ((zm5 1).gt za3) rfl) k (by
 rintro ts hl ⟨s, rfl, hp⟩
 have hfin : ∀ z₀ : TV, z₀ = ints (zbj s) → scharsL.post [.str s] z₀ := fun z₀ hz₀ => schars_fin hz₀
 generalize scharsL.post [.str s] = R at hfin ⊢
 unfold tr_spokentext_characters
 obtain ⟨h0, hl⟩ := hp
 obtain ⟨hv, _⟩ := check_iff.1 h0
 have h2 := (zej hv).2.1
 have hdl := zfq (bs s)
 have hsl := zak s
 simp only [Tree.den, E.den, P1.den, P2.den, P3.den, TV.cell, ne_eq, forall_eq, Int.reduceToNat, exists_eq_left', qz, zch, zb1, decT]
 simp only [Tree.den, E.den, P1.den, P2.den, P3.den, TV.cell, ne_eq, forall_eq, Int.reduceToNat, exists_eq_left', qz, zaj, zao, zaq, zan, zap, zam, zal, zar, qv, qq, qr, zak, zb1, List.nil_append, h2]
 have hf : fin (bs []) = [] := rfl
 refine ⟨zck (by rw [List.length_nil]; omega), ?_⟩
 have hf : fin (bs (unbs [])) = [] := rfl
 rw [hf]
 exact ⟨zdy (by show 0 ≤ _; omega), by rw [List.length_nil]; omega, hfin _ (by rw [List.append_nil]; rfl)⟩)) rfl
def snumbL : Law := ⟨fun ts => ∃ (n : Int), ts = [.int n] ∧ (0 ≤ n ∧ n ≤ 999999999), fun ts z₀ => ∀ (n : Int), ts = [.int n] → z₀ = strs (qub n.toNat)⟩
theorem snumb_pre {n : Int} (h : 0 ≤ n ∧ n ≤ 999999999) : snumbL.pre [.int n] := ⟨n, rfl, h⟩
theorem snumb_fin {n : Int} {z₀ : TV} (h : z₀ = strs (qub n.toNat)) : snumbL.post [.int n] z₀ := fun n₁ e => by
 simp only [qy] at e; subst e
 exact h
theorem snumb_all {n : Int} {Q : TV → Prop} : (∀ z₀, snumbL.post [.int n] z₀ → Q z₀) ↔ Q (strs (qub n.toNat)) := ⟨fun h => h _ (snumb_fin rfl), fun h z₀ hr => by rw [hr _ rfl]; exact h⟩
theorem snumb_c (k : Nat) : Contract Tryz.prog (mkEnv globT []) gtabU (qqr k) snumbL.pre snumbL.post := Contract.env (Γ := mkEnv globT [nwordsL]) (contract_spokentext_number (fun _ => rfl) (fun s hs => by
  simp only [cx_spokentext_number, List.mem_cons, List.not_mem_nil, or_false] at hs
  rcases hs with rfl
  ·exact Contract.inEnv rfl (nwords_c 0) rfl) k (by
 rintro ts hl ⟨n, rfl, hp⟩
 have hfin : ∀ z₀ : TV, z₀ = strs (qub n.toNat) → snumbL.post [.int n] z₀ := fun z₀ hz₀ => snumb_fin hz₀
 generalize snumbL.post [.int n] = R at hfin ⊢
 unfold tr_spokentext_number
 obtain ⟨k, rfl⟩ : ∃ k : Nat, n = k := ⟨n.toNat, by omega⟩
 simp only [Tree.den, E.den, P1.den, P2.den, P3.den, TV.cell, ne_eq, forall_eq, Int.reduceToNat, exists_eq_left', qz, nwords_all]
 rw [nw_pos k (by omega)]
 exact ⟨nwords_pre trivial, hfin _ rfl⟩)) rfl
def sresvL : Law := ⟨fun ts => ∃ (s : By), ts = [.str s] ∧ (True), fun ts z₀ => ∀ (s : By), ts = [.str s] → z₀ = .bool (resB s)⟩
theorem sresv_pre {s : By} (h : True) : sresvL.pre [.str s] := ⟨s, rfl, h⟩
theorem sresv_fin {s : By} {z₀ : TV} (h : z₀ = .bool (resB s)) : sresvL.post [.str s] z₀ := fun s₁ e => by
 simp only [qy] at e; subst e
 exact h
theorem sresv_all {s : By} {Q : TV → Prop} : (∀ z₀, sresvL.post [.str s] z₀ → Q z₀) ↔ Q (.bool (resB s)) := ⟨fun h => h _ (sresv_fin rfl), fun h z₀ hr => by rw [hr _ rfl]; exact h⟩
theorem sresv_c (k : Nat) : Contract Tryz.prog (mkEnv globT []) gtabU (qqg k) sresvL.pre sresvL.post := Contract.env (Γ := mkEnv globT [srsvL]) (qt9 (fun _ => rfl) (fun s hs => by
  simp only [cx_spokentext_Reserved, List.mem_cons, List.not_mem_nil, or_false] at hs
  rcases hs with rfl
  ·exact Contract.inEnv rfl (srsv_c 0) rfl) k (by
 rintro ts hl ⟨s, rfl, hp⟩
 have hfin : ∀ z₀ : TV, z₀ = .bool (resB s) → sresvL.post [.str s] z₀ := fun z₀ hz₀ => sresv_fin hz₀
 generalize sresvL.post [.str s] = R at hfin ⊢
 unfold tr_spokentext_Reserved
 simp only [Tree.den, E.den, P1.den, P2.den, P3.den, TV.cell, ne_eq, forall_eq, Int.reduceToNat, exists_eq_left', qz, srsv_all, mget_res]
 exact ⟨srsv_pre, hfin _ rfl⟩)) rfl
end Go.Proofs.YtlhagkbhojmjpaaGreatDoor

/- Rows copied and trimmed. -/
import Derived.Test.YtlhagkbhojmjpaaDoorKb
import Derived.Lib.SliceRun
import Derived.Lib.Walk
namespace Go.Proofs.YtlhagkbhojmjpaaDoor
set_option linter.unusedSimpArgs false
set_option linter.unusedVariables false
set_option linter.unusedSectionVars false
section
open Go.RowKit Go.Shelf Go.Lib
theorem glI : ∃ i, Tryd.prog.info? 107 = some i ∧ i.zero = some (.agg #[.string ⟨#[]⟩, .bool false, .int .i64 0]) ∧ i.size = 3 ∧ i.bytes = 32 := info_parts (by kernel_rfl)
set_option maxRecDepth 100000 in
set_option maxHeartbeats 2000000 in
theorem clone_in (w : World) (ad : Addr) (n c : Nat) (news : List Value) (hl : news.length = n * 3) (hn : n ≤ 1000000) (hc : ∀ j u, news[j]? = some u → w.cell? (ad.add j) = some u) (h1 : ∀ u ∈ news, u.oneCell' = true) :
    Calls Tryd.prog 77 #[.slice (some ad) n c] w fun e w' => ∃ v', e = .returned v' ∧ w'.ownsRow w.heap.size 107 3 v' n news ∧ Below w.heap.size w w' := by
  obtain ⟨i0, hi, hz0, hz1, hz2⟩ := glI
  have q22 : ∀ (w : World) (a : Option Addr) (n c n' c' : Nat), (binOp .eql 23 (.slice a n c) (.slice none n' c')).run Tryd.prog w = .ok (.bool a.isNone) w := fun w a n c n' c' => Lib.run_eql_slice_nil w _ _ a n c n' c' Tryd.underlying23
  have A : Aside (∀ j u, news[j]? = some u → w.cell? (ad.add j) = some u) := hc
  clear hc
  refine (callsIn_wide (n := 8)).1 ?_
  refine callsIn_of_wp Tryd.func77 rfl trivial ?_ rfl
  simp only [Tryd.ntmps77, List.size_toArray, List.length_cons, List.length_nil, Nat.reduceAdd, Nat.reduceSub, Array.replicate_succ, Array.replicate_zero, List.push_toArray, List.append_toArray, List.nil_append, List.cons_append]
  gi_wp2_with (gi_at_builtin; refine wpListIn_append_own _ rfl _ _ 23 rfl w.heap.size 107 i0 _ 3 32 Tryd.underlying23 hi hz0 hz1 hz2 rfl (by decide) _ _ _ rfl (World.ownsRow_made w #[] 0 (Nat.le_refl _) (Nat.zero_le _) (by simp)) ad n c news rfl ?qc1 ?qc2 ?qc3 ?qc4 ?qc5 ?qc6 ?_)
  case qc1 => exact hl
  case qc2 =>
    intro j u hj
    exact Lib.cell?_alloc_some _ (A.out j u hj)
  case qc3 => exact h1
  case qc4 => rw [Nat.zero_add]; have : (1000000 : Nat) ≤ maxLen := by decide
              omega
  case qc5 => rw [Nat.zero_add]; omega
  case qc6 => simp
  intro v' w1 hown hgrow hnil
  gi_wp2
  go_ret
  exact ⟨v', rfl, by simpa using hown, ((Below.refl _ w).alloc (Nat.le_refl _) _).grown hgrow (by simp) (by intro k hk; simp [Value.ownBlock] at hk; omega)⟩
set_option maxRecDepth 100000 in
theorem clone_nil (w : World) (n c : Nat) : Calls Tryd.prog 77 #[.slice none n c] w fun e w' => e = .returned (.slice none 0 0) ∧ w' = w := by
  have q22 : ∀ (w : World) (a : Option Addr) (n c n' c' : Nat), (binOp .eql 23 (.slice a n c) (.slice none n' c')).run Tryd.prog w = .ok (.bool a.isNone) w := fun w a n c n' c' => Lib.run_eql_slice_nil w _ _ a n c n' c' Tryd.underlying23
  refine (callsIn_wide (n := 8)).1 ?_
  refine callsIn_of_wp Tryd.func77 rfl trivial ?_ rfl
  simp only [Tryd.ntmps77, List.size_toArray, List.length_cons, List.length_nil, Nat.reduceAdd, Nat.reduceSub, Array.replicate_succ, Array.replicate_zero, List.push_toArray, List.append_toArray, List.nil_append, List.cons_append]
  gi_wp2
  go_ret
  exact ⟨rfl, rfl⟩

def glsC (l : List Gl) : List Value := l.flatMap fun g => [.string ⟨g.s.toArray⟩, .bool g.w, .int .i64 g.y]
theorem glsC_len (l : List Gl) : (glsC l).length = l.length * 3 := by
  induction l with
  | nil => rfl
  | cons g l ih => unfold glsC at ih ⊢; rw [List.flatMap_cons, List.length_append, ih, List.length_cons]; simp; omega
theorem glsC_idx : ∀ {l : List Gl} {i j : Nat}, i < l.length → j < 3 → (glsC l)[i * 3 + j]? = some (glC (gg l i) j)
  | [], i, j, h, _ => by simp at h
  | g :: l, 0, j, _, hj => by
    match j, hj with
    | 0, _ => rfl
    | 1, _ => rfl
    | 2, _ => rfl
  | g :: l, i + 1, j, h, hj => by
    have ih := glsC_idx (l := l) (i := i) (j := j) (by simpa using h) hj
    have e : glsC (g :: l) = [.string ⟨g.s.toArray⟩, .bool g.w, .int .i64 g.y] ++ glsC l := rfl
    rw [e, List.getElem?_append_right (by simp; omega), show (i + 1) * 3 + j - [Value.string ⟨g.s.toArray⟩, .bool g.w, .int .i64 g.y].length = i * 3 + j by simp; omega, ih]
    rfl
theorem glsC_get {l : List Gl} {k : Nat} {u : Value} (h : (glsC l)[k]? = some u) : k / 3 < l.length ∧ u = glC (gg l (k / 3)) (k % 3) := by
  have hk : k < (glsC l).length := (List.getElem?_eq_some_iff.1 h).1
  rw [glsC_len] at hk
  have h1 : k / 3 < l.length := by omega
  have := glsC_idx h1 (Nat.mod_lt k (by decide : 3 > 0))
  rw [show k / 3 * 3 + k % 3 = k by omega, h] at this
  exact ⟨h1, Option.some.inj this⟩
theorem glsC_one (l : List Gl) : ∀ u ∈ glsC l, u.oneCell' = true := by
  intro u hu
  unfold glsC at hu
  obtain ⟨g, _, hg⟩ := List.mem_flatMap.1 hu
  simp only [List.mem_cons, List.not_mem_nil, or_false] at hg
  rcases hg with rfl | rfl | rfl <;> rfl
theorem rowT_gls (M : Mem) (l : List Gl) : RowT M true [.str, .bool, .int .i64] (glsT l).asList (glsC l) := by
  refine ⟨by rw [glsC_len, zbo]; rfl, fun i hi c hc => ?_⟩
  rw [zbo] at hi
  have hc3 : c < 3 := hc
  have e : (glsT l).asList[i]'(by rw [zbo]; exact hi) = glT (gg l i) := by
    have := zi7 hi
    rw [List.getD_eq_getElem?_getD, List.getElem?_eq_getElem (by simpa using hi)] at this
    exact this
  refine ⟨_, glsC_idx hi hc3, ?_⟩
  rw [e]
  match c, hc3 with
  | 0, _ => exact RepT.str (.str (gg l i).s)
  | 1, _ => exact RepT.bool (.bool (gg l i).w)
  | 2, _ => exact RepT.int .i64 (.int (gg l i).y)
theorem res_row {B : Nat} {w : World} {e : TypeId} {l : List Gl} {v : Value} {xs : List Value} (h : w.ownsRow B e 3 v l.length (glsC l)) : ResRep B w (fun g => gOf v = some g) [(false, [((.slice true [.str, .bool, (.int .i64)]), some e)])] (glsT l) v := by
  refine ⟨[v], by simp, rfl, fun i x u hx hu => ?_, rfl, fun i x u hx hu => ?_, ?_⟩
  · cases i with
    | zero => simp at hx; subst hx; rfl
    | succ i => simp at hx
  · cases i with
    | zero =>
      have hx : (((CT.slice true [.str, .bool, .int .i64]), some e), glsT l) = x := by simpa [zx6, zlm, zbk] using hx
      have hu : v = u := by simpa [zdc, flatV] using hu
      subst hx hu
      exact ⟨glsC l, by rw [zbo]; exact h, rowT_gls _ l, fun g hg => hg⟩
    | succ i => simp [zx6, zlm] at hx
  · have : (zb0 (zfx [(false, [((CT.slice true [.str, .bool, .int .i64]), some e)])]) (zdc [(false, [((CT.slice true [.str, .bool, .int .i64]), some e)])] [v])).length ≤ 1 := by
      simp only [zb0, zfx, zdc, flatV, List.append_nil, Bool.false_eq_true, if_false]
      exact List.length_filterMap_le _ _
    generalize zb0 _ _ = z at this ⊢
    match z, this with
    | [], _ => exact List.nodup_nil
    | [a], _ => simp
theorem gOf_own {w : World} {B : Nat} {e : TypeId} {size n : Nat} {v : Value} {xs : List Value} (h : w.ownsRow B e size v n xs) : ∀ g, gOf v = some g → B ≤ g ∧ g < w.heap.size := by
  intro g hg
  rcases h.2 with ⟨rfl, _⟩ | ⟨b, cap, cur, rfl, hb, hh, _⟩
  · cases hg
  · have : b = g := by simpa [gOf] using hg
    subst this
    exact ⟨hb, (Array.getElem?_eq_some_iff.1 hh).1⟩
end
open Go.RowKit
def cloL : Law := ⟨fun ts => ∃ (l : List Gl), ts = [glsT l] ∧ (l.length ≤ 1000000), fun ts z₀ => ∀ (l : List Gl), ts = [glsT l] → z₀ = glsT l⟩
theorem clo_pre {l : List Gl} (h : l.length ≤ 1000000) : cloL.pre [glsT l] := ⟨l, rfl, h⟩
theorem clo_fin {l : List Gl} {z₀ : TV} (h : z₀ = glsT l) : cloL.post [glsT l] z₀ := fun l₁ e => by
  simp only [List.cons.injEq, TV.str.injEq, TV.int.injEq, TV.bool.injEq, TV.agg.injEq, TV.list.injEq, zat, and_true, true_and, and_assoc, zzx] at e; subst e
  exact h
theorem clo_all {l : List Gl} {Q : TV → Prop} : (∀ z₀, cloL.post [glsT l] z₀ → Q z₀) ↔ Q (glsT l) := ⟨fun h => h _ (clo_fin rfl), fun h z₀ hr => by rw [hr _ rfl]; exact h⟩
theorem clo_c (k : Nat) : Contract Tryd.prog (mkEnv globT []) gtabU (qpp k) cloL.pre cloL.post := ⟨⟨Tryd.f77, Tryd.f77.body.getD .skip, Tryd.func77, by kernel_rfl, by kernel_rfl⟩, by
  intro w ts vs hG ha hp
  obtain ⟨l, rfl, hl⟩ := hp
  obtain ⟨v, rfl, ct, e, hr⟩ := args1 ha
  cases e
  have hg := grow_of hr hl
  rcases hg.2 with ⟨h0, a, cap, rfl⟩ | ⟨b, off, cap, rfl, hb, hc⟩
  · have hnil : l = [] := List.eq_nil_of_length_eq_zero h0
    subst hnil
    cases a with
    | none =>
      refine (clone_nil w 0 cap).mono ?_
      rintro e w' ⟨rfl, rfl⟩
      exact ⟨_, _, _, rfl, clo_fin rfl, Below.refl _ _, fun g hg => (by cases hg), res_row (xs := []) ⟨by simp [glsC], .inl ⟨rfl, rfl⟩⟩⟩
    | some a =>
      refine (clone_in w a 0 cap [] rfl (by omega) (fun j u h => by simp at h) (fun u h => by cases h)).mono ?_
      rintro e w' ⟨v', rfl, ho, hb⟩
      exact ⟨_, _, _, rfl, clo_fin rfl, hb, gOf_own ho, res_row (xs := []) ho⟩
  · refine (clone_in w ⟨b, off, none⟩ l.length cap (glsC l) (glsC_len l) hl (fun j u h => ?_) (glsC_one l)).mono ?_
    · obtain ⟨h1, rfl⟩ := glsC_get h
      have := hc (j / 3) h1 (j % 3) (Nat.mod_lt j (by decide))
      rw [show off + j / 3 * 3 + j % 3 = off + j by omega] at this
      rw [Addr.add_lit]
      exact this
    · rintro e w' ⟨v', rfl, ho, hb⟩
      exact ⟨_, _, _, rfl, clo_fin rfl, hb, gOf_own ho, res_row (xs := []) ho⟩⟩

def blkG (g : Gl) : TV := if g.s = [32] then if g.w = false then if g.y = 0 then TV.bool true else TV.bool false else TV.bool false else TV.bool false
def trimN (l : List Gl) : Nat → Nat
  | 0 => 0
  | n + 1 => if (blkG (gg l n)).asBool = true then trimN l n else n + 1
def trimZ (l : List Gl) : List Gl := l.take (trimN l l.length)
theorem trimN_le (l : List Gl) : ∀ n, trimN l n ≤ n
  | 0 => Nat.le_refl _
  | n + 1 => by
    unfold trimN
    split
    · have := trimN_le l n; omega
    · omega
theorem gls_take (l : List Gl) (n : Nat) : TV.list (((l.map glT).drop 0).take (n - 0)) = glsT (l.take n) := by
  rw [List.drop_zero, Nat.sub_zero, ← List.map_take]
  rfl
def blkL : Law := ⟨fun ts => ts = [], fun ts z₀ => ts = [] → z₀ = .agg [.str [32], .bool false, .int 0]⟩
theorem blk_pre : blkL.pre [] := rfl
theorem blk_fin {z₀ : TV} (h : z₀ = .agg [.str [32], .bool false, .int 0]) : blkL.post [] z₀ := fun _ => h
theorem blk_all {Q : TV → Prop} : (∀ z₀, blkL.post [] z₀ → Q z₀) ↔ Q (.agg [.str [32], .bool false, .int 0]) := ⟨fun h => h _ fun _ => rfl, fun h z₀ hr => by rw [hr rfl]; exact h⟩
theorem blk_c (k : Nat) : Contract Tryd.prog (mkEnv globT []) gtabU (qcz k) blkL.pre blkL.post := Contract.env (Γ := mkEnv globT []) (qeh (fun _ => rfl) (fun s hs => by
    cases hs) k (by
  rintro ts hl rfl
  have hfin : ∀ z₀ : TV, z₀ = .agg [.str [32], .bool false, .int 0] → blkL.post [] z₀ := fun z₀ hz₀ => blk_fin hz₀
  generalize blkL.post [] = R at hfin ⊢
  unfold tr_view_blank
  simp only [Tree.den, E.den, P1.den, P2.den, P3.den, qa, qb, qc, qd, qe, qf, qg, qh, zac, zab, zad, zaa, zae, TV.cell, zah, zai, zag, zaf, qi, qj, qk, ql, qm, qn, ne_eq, qo, qp, forall_eq, qs, qt, Int.reduceToNat, qu, exists_eq_left']
  exact hfin _ rfl)) rfl
def TrI (l : List Gl) (xs : List TV) : Prop := ∃ n : Nat, xs = [.int n] ∧ n ≤ l.length ∧ trimN l l.length = trimN l n
def Trm (xs : List TV) : Nat := (xs.getD 0 (.int 0)).asInt.toNat
def trimL : Law := ⟨fun ts => ∃ (l : List Gl), ts = [glsT l] ∧ (l.length ≤ 1000000), fun ts z₀ => ∀ (l : List Gl), ts = [glsT l] → z₀ = glsT (trimZ l)⟩
theorem trim_pre {l : List Gl} (h : l.length ≤ 1000000) : trimL.pre [glsT l] := ⟨l, rfl, h⟩
theorem trim_fin {l : List Gl} {z₀ : TV} (h : z₀ = glsT (trimZ l)) : trimL.post [glsT l] z₀ := fun l₁ e => by
  simp only [List.cons.injEq, TV.str.injEq, TV.int.injEq, TV.bool.injEq, TV.agg.injEq, TV.list.injEq, zat, and_true, true_and, and_assoc, zzx] at e; subst e
  exact h
theorem trim_all {l : List Gl} {Q : TV → Prop} : (∀ z₀, trimL.post [glsT l] z₀ → Q z₀) ↔ Q (glsT (trimZ l)) := ⟨fun h => h _ (trim_fin rfl), fun h z₀ hr => by rw [hr _ rfl]; exact h⟩
theorem trim_c (k : Nat) : Contract Tryd.prog (mkEnv globT []) gtabU (sn_view_Trim k) trimL.pre trimL.post := Contract.env (Γ := mkEnv globT [blkL, cloL]) (contract_view_Trim (fun _ => rfl) (fun s hs => by
    simp only [cx_view_Trim, List.mem_cons, List.not_mem_nil, or_false] at hs
    rcases hs with rfl | rfl
    · exact Contract.inEnv rfl (blk_c 0) rfl
    · exact Contract.inEnv rfl (clo_c 1) rfl) k (by
  rintro ts hl ⟨l, rfl, hp⟩
  have hfin : ∀ z₀ : TV, z₀ = glsT (trimZ l) → trimL.post [glsT l] z₀ := fun z₀ hz₀ => trim_fin hz₀
  generalize trimL.post [glsT l] = R at hfin ⊢
  unfold tr_view_Trim
  simp only [Tree.den, E.den, P1.den, P2.den, P3.den, qa, qb, qc, qd, qe, qf, qg, qh, zac, zab, zad, zaa, zae, TV.cell, zah, zai, zag, zaf, qi, qj, qk, ql, qm, qn, ne_eq, qo, qp, forall_eq, qs, qt, Int.reduceToNat, qu, exists_eq_left', zbo]
  refine ⟨TrI l, Trm, ⟨l.length, rfl, by omega, rfl⟩, ?_⟩
  rintro xs _ ⟨n, rfl, hn, he⟩
  cases n with
  | zero =>
    simp only [Tree.den, E.den, P1.den, P2.den, P3.den, qa, qb, qc, qd, qe, qf, qg, qh, zac, zab, zad, zaa, zae, TV.cell, zah, zai, zag, zaf, qi, qj, qk, ql, qm, qn, ne_eq, qo, qp, forall_eq, qs, qt, Int.reduceToNat, qu, exists_eq_left', zaj, zao, zaq, zan, zap, zam, zal, zar, qv, qq, qr, zak, List.cons_append, List.nil_append, Int.toNat_natCast, zbo, zaw, gls_take, clo_all]
    refine ⟨fun hh => absurd hh (by omega), fun _ => ⟨by omega, by omega, clo_pre (by rw [List.length_take]; omega), hfin _ ?_⟩⟩
    unfold trimZ
    rw [he]
    rfl
  | succ n =>
    have e1 : IntKind.wrap .i64 (((n + 1 : Nat) : Int) - 1) = (n : Int) := by rw [wrap_i64 (by omega) (by omega)]; omega
    have hnl : n < l.length := by omega
    simp only [Tree.den, E.den, P1.den, P2.den, P3.den, qa, qb, qc, qd, qe, qf, qg, qh, zac, zab, zad, zaa, zae, TV.cell, zah, zai, zag, zaf, qi, qj, qk, ql, qm, qn, ne_eq, qo, qp, forall_eq, qs, qt, Int.reduceToNat, qu, exists_eq_left', zaj, zao, zaq, zan, zap, zam, zal, zar, qv, qq, qr, zak, List.cons_append, List.nil_append, Int.toNat_natCast, zaw, List.length_map, e1, zi7 hnl, glT, blk_all, gls_take, clo_all]
    have he' : trimN l (n + 1) = if (blkG (gg l n)).asBool = true then trimN l n else n + 1 := rfl
    rw [he'] at he
    refine ⟨fun _ => ⟨by omega, by omega, blk_pre, fun h => ⟨⟨n, rfl, by omega, by rw [he, if_pos (show (blkG (gg l n)).asBool = true from h)]⟩, by show (n : Int).toNat < ((n + 1 : Nat) : Int).toNat; omega⟩, fun h => ⟨by omega, by omega, clo_pre (by rw [List.length_take]; omega), hfin _ ?_⟩⟩, fun hh => absurd hh (by omega)⟩
    unfold trimZ
    rw [he, if_neg (by rw [show (blkG (gg l n)).asBool = false from h]; decide)])) rfl
end Go.Proofs.YtlhagkbhojmjpaaDoor

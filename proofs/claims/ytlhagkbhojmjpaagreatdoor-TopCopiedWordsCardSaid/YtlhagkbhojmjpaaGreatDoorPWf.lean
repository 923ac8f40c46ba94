/- Written by this repo's own program out of its texts. -/
import Derived.Test.YtlhagkbhojmjpaaGreatDoorPWy
import Derived.Lib.LaidCaseMet
set_option linter.unusedSimpArgs false
set_option linter.unusedVariables false
set_option linter.unusedSectionVars false
namespace Go.Proofs.YtlhagkbhojmjpaaGreatDoor
open Go Go.Lib Go.RowKit
def glOf (us : List TV) : Gl := ⟨(us.getD 0 (.int 0)).asStr, (us.getD 1 (.int 0)).asBool, (us.getD 2 (.int 0)).asInt⟩
theorem OkA.gls {t : TV} (h : OkA false [.slice true [.str, .bool, .int .i64]] t) : ∃ l : List Gl, t = glsT l := by
 obtain ⟨ct, e, h⟩ := h
 simp only [List.cons.injEq, and_true] at e
 subst e
 cases h with
 | rows _ ls h h1 h2 =>
  have key : ∀ us ∈ ls, TV.agg us = glT (glOf us) := fun us hu => by
   have hl := h1 us hu
   have hc := h2 us hu
   match us, hl with
   | [a, b, c], _ =>
    have k0 := hc 0 _ a rfl rfl
    have k1 := hc 1 _ b rfl rfl
    have k2 := hc 2 _ c rfl rfl
    cases k0 with
    | str s hs =>
     cases k1 with
     | bool w =>
      cases k2 with
      | int _ z hz hz' =>
       unfold glT glOf
       simp only [List.getD_cons_zero, List.getD_cons_succ, zab]
       rfl
  refine ⟨ls.map glOf, ?_⟩
  unfold glsT
  rw [List.map_map]
  congr 1
  exact List.map_congr_left key
theorem OkT.rowsT {t : TV} (h : OkT (.slice false [.slice true [.str, .bool, .int .i64]]) t) : ∃ rows, t = Proofs.YtlhagkbhojmjpaaGreatDoor.rowsT rows := by
 cases h with
 | row _ l _ h' =>
  have key : ∀ x ∈ l, ∃ g, x = glsT g := fun x hx => by
   obtain ⟨g, rfl⟩ := OkA.gls (t := x) ⟨_, rfl, h' x hx⟩
   exact ⟨g, rfl⟩
  have : ∀ l : List TV, (∀ x ∈ l, ∃ g, x = glsT g) → ∃ rows : List (List Gl), l = rows.map glsT := by
   intro l
   induction l with
   | nil => intro _; exact ⟨[], rfl⟩
   | cons x l ih =>
    intro h
    obtain ⟨g, rfl⟩ := h x List.mem_cons_self
    obtain ⟨rows, rfl⟩ := ih fun y hy => h y (List.mem_cons_of_mem _ hy)
    exact ⟨g :: rows, rfl⟩
  obtain ⟨rows, rfl⟩ := this l key
  exact ⟨rows, rfl⟩
theorem OkA.view {t : TV} (h : OkA true [.int .i64, .int .i64, .slice false [.slice true [.str, .bool, .int .i64]], .int .i64, .int .i64, .bool] t) : ∃ (w h : Int) (rows : List (List Gl)) (r c : Int) (vis : Bool), t = .agg [.int w, .int h, rowsT rows, .int r, .int c, .bool vis] := by
 obtain ⟨us, rfl, hl, h⟩ := h
 match us, hl with
 | [a, b, rs, c, d, e], _ =>
  have k0 : OkA false [.int .i64] a := ⟨_, rfl, h 0 _ a rfl rfl⟩
  have k1 : OkA false [.int .i64] b := ⟨_, rfl, h 1 _ b rfl rfl⟩
  have k2 : OkT (.slice false [.slice true [.str, .bool, .int .i64]]) rs := h 2 _ rs rfl rfl
  have k3 : OkA false [.int .i64] c := ⟨_, rfl, h 3 _ c rfl rfl⟩
  have k4 : OkA false [.int .i64] d := ⟨_, rfl, h 4 _ d rfl rfl⟩
  have k5 : OkA false [.bool] e := ⟨_, rfl, h 5 _ e rfl rfl⟩
  obtain ⟨a, rfl, _⟩ := k0.int
  obtain ⟨b, rfl, _⟩ := k1.int
  obtain ⟨rs, rfl⟩ := k2.rowsT
  obtain ⟨c, rfl, _⟩ := k3.int
  obtain ⟨d, rfl, _⟩ := k4.int
  obtain ⟨e, rfl⟩ := k5.bool
  exact ⟨a, b, rs, c, d, e, rfl⟩
theorem OkA.stg {t : TV} (h : OkA true [.int .i64, .bool, .bool, .int .i64, .bool, .int .i64] t) : ∃ (rt : Int) (dg sp : Bool) (rp : Int) (ct : Bool) (ce : Int), t = .agg [.int rt, .bool dg, .bool sp, .int rp, .bool ct, .int ce] := by
 obtain ⟨us, rfl, hl, h⟩ := h
 match us, hl with
 | [a, b, c, d, e, f], _ =>
  have k0 : OkA false [.int .i64] a := ⟨_, rfl, h 0 _ a rfl rfl⟩
  have k1 : OkA false [.bool] b := ⟨_, rfl, h 1 _ b rfl rfl⟩
  have k2 : OkA false [.bool] c := ⟨_, rfl, h 2 _ c rfl rfl⟩
  have k3 : OkA false [.int .i64] d := ⟨_, rfl, h 3 _ d rfl rfl⟩
  have k4 : OkA false [.bool] e := ⟨_, rfl, h 4 _ e rfl rfl⟩
  have k5 : OkA false [.int .i64] f := ⟨_, rfl, h 5 _ f rfl rfl⟩
  obtain ⟨a, rfl, _⟩ := k0.int
  obtain ⟨b, rfl⟩ := k1.bool
  obtain ⟨c, rfl⟩ := k2.bool
  obtain ⟨d, rfl, _⟩ := k3.int
  obtain ⟨e, rfl⟩ := k4.bool
  obtain ⟨f, rfl, _⟩ := k5.int
  exact ⟨a, b, c, d, e, f, rfl⟩
theorem tcwP_of {t0 t1 t2 t3 : TV} (h0 : OkA true [.int .i64, .int .i64, .slice false [.slice true [.str, .bool, .int .i64]], .int .i64, .int .i64, .bool] t0) (h1 : OkA true [.int .i64, .bool, .bool, .int .i64, .bool, .int .i64] t1) (h2 : OkA false [.int .u8] t2) (h3 : OkA false [.int .u8] t3) : tcwP [t0, t1, t2, t3] := by
 obtain ⟨w, h, rows, r, c, vis, rfl⟩ := h0.view
 obtain ⟨rt, dg, sp, rp, ct, ce, rfl⟩ := h1.stg
 obtain ⟨a, rfl, p, q⟩ := h2.int
 obtain ⟨b, rfl, p', q'⟩ := h3.int
 exact ⟨w, h, rows, r, c, vis, rt, dg, sp, rp, ct, ce, a, b, rfl, ⟨p, q⟩, ⟨p', q'⟩⟩
def stylesD : DataW Unit := .agg [.lit (.string [112, 108, 97, 105, 110]), .lit (.string [115, 116, 114, 111, 110, 103]), .lit (.string [105, 110, 118, 101, 114, 115, 101]), .lit (.string [104, 105, 100, 100, 101, 110])]
theorem q5t {P : Program} {w : World} {x y : String × DataW Unit} : ∀ {l : List (String × DataW Unit)} {ps : List MemPlace}, DataW.LaidVars P w (l ++ [x, y]) ps → ∃ qs, DataW.LaidVars P w (l ++ [y, x]) qs ∧ List.Perm qs ps
 | [], ps, h => by
  obtain ⟨nx, dx⟩ := x
  obtain ⟨ny, dy⟩ := y
  obtain ⟨g, t, cs, fuel, p, q, h1, h2, h3, h4, ⟨g', t', cs', fuel', p', q', k1, k2, k3, k4, rfl, rfl⟩, rfl⟩ := h
  refine ⟨_, ⟨g', t', cs', fuel', p', _, k1, k2, k3, k4, ⟨g, t, cs, fuel, p, [], h1, h2, h3, h4, rfl, rfl⟩, rfl⟩, ?_⟩
  simp only [List.append_nil]
  exact List.perm_append_comm
 |(n, d) :: l, ps, h => by
  obtain ⟨g, t, cs, fuel, p, q, h1, h2, h3, h4, h5, rfl⟩ := h
  obtain ⟨qs, k1, k2⟩ := q5t h5
  exact ⟨_, ⟨g, t, cs, fuel, p, qs, h1, h2, h3, h4, k1, rfl⟩, k2.append_left _⟩
theorem laidMet_swap {P : Program} {w : World} {x y : String × DataW Unit} {l : List (String × DataW Unit)} (h : laidMet P (l ++ [x, y]) w) : laidMet P (l ++ [y, x]) w := by
 obtain ⟨ps, h1, h2, h3⟩ := h
 obtain ⟨qs, k1, k2⟩ := q5t h1
 exact ⟨qs, k1, k2.nodup_iff.2 h2, fun b off hm => h3 b off (k2.mem_iff.1 hm)⟩
def stB : List (List UInt8) := [[112, 108, 97, 105, 110], [115, 116, 114, 111, 110, 103], [105, 110, 118, 101, 114, 115, 101], [104, 105, 100, 100, 101, 110]]
theorem rep_styles {W : World} (h : VarReads Tryz.prog W "narrator/spokentext.styles" stylesD) : RepT (full W) (.slice false [.str]) stylesT (.slice (some ⟨3, 0, none⟩) stylesT.asList.length stylesT.asList.length) ∧ 0 < stylesT.asList.length := by
 obtain ⟨g', t', cs, fuel, p, hg', hty', hvar, hd⟩ := h
 obtain rfl := Option.some.inj ((show Tryz.prog.globalNamed "narrator/spokentext.styles" = some 3 by kernel_rfl).symm.trans hg')
 obtain rfl := Option.some.inj ((show (Tryz.prog.globals[3]?).map (·.type) = some 189 by kernel_rfl).symm.trans hty')
 have c1 : Tryz.prog.cellsOf 9 = 1 := by kernel_rfl
 have key : ∀ i, i < 4 → cs.toList[i]? = some (strV (stB.getD i [])) := fun i hi => by
  obtain ⟨f, d, q, hdi, he⟩ := array_elem Tryz.underlying189 hd i hi
  rw [c1, Nat.mul_one] at he
  obtain ⟨s, hs, hx, _⟩ := DataW.trod_string Tryz.underlying9 he
  have h0 : cs.toList[i]? = some (.string s) := by
   have := congrArg (·[0]?) hs
   simpa [List.getElem?_take, List.getElem?_drop] using this
  rw [h0]
  have hd2 : d = .lit (.string s.data.toList) := congrArg Prod.fst hx
  subst hd2
  have e : s.data.toList = stB.getD i [] := by
   match i, hi, hdi with
   | 0, _, hdi => simp at hdi; exact hdi.symm
   | 1, _, hdi => simp at hdi; exact hdi.symm
   | 2, _, hdi => simp at hdi; exact hdi.symm
   | 3, _, hdi => simp at hdi; exact hdi.symm
  unfold strV
  rw [← e]
 have hcell : ∀ c : Nat, W.cell? ⟨3, c, none⟩ = cs.toList[c]? := fun c => by rw [World.var?_cell hg' hvar c, ← Array.getElem?_toList]
 have hpos : 0 < cs.toList.length := by
  have := (List.getElem?_eq_some_iff.1 (key 0 (by decide))).1
  exact this
 obtain ⟨cur, el, fr, hM, hc⟩ := zul hpos hcell
 refine ⟨.slice false [.str] stylesT _ 0 stylesT.asList.length cur el fr (fun i c => strV (stB.getD i [])) hM (Nat.le_refl _) (by decide) (fun i hi c hc' => ?_) (fun i hi c hc' => ?_), by decide⟩
 ·have : c = 0 := by simp at hc'; exact hc'
  subst this
  have hi : i < 4 := hi
  rw [show 0 + i * [CT.str].length + 0 = i by simp, hc]
  exact key i hi
 ·have : c = 0 := by simp at hc'; exact hc'
  subst this
  have hi : i < 4 := hi
  match i, hi with
  | 0, _ => exact .str (.str _)
  | 1, _ => exact .str (.str _)
  | 2, _ => exact .str (.str _)
  | 3, _ => exact .str (.str _)
theorem asciiZ_len : asciiZ.length = 256 := by simp [asciiZ]
theorem zme {l : List (String × DataW Unit)} {W : World} (h : laidMet Tryz.prog l W) (h0 : ("strings.asciiSpace", (tabData .u8 asciiZ : DataW Unit)) ∈ l) (hs : ("narrator/spokentext.styles", stylesD) ∈ l)
  (h1 : ("unicode/utf8.first", Lib.firstData) ∈ l) (h2 : ("unicode/utf8.acceptRanges", Lib.acceptData) ∈ l) : GlobOk (mkEnv globT []) gtabU W := by
 have hT := tabs_of h h1 h2
 intro g ag cs hg
 simp only [gtabU, List.mem_cons, List.not_mem_nil, or_false, Prod.mk.injEq] at hg
 rcases hg with ⟨rfl, rfl, rfl⟩ | ⟨rfl, rfl, rfl⟩ | ⟨rfl, rfl, rfl⟩ | ⟨rfl, rfl, rfl⟩
 ·exact z8f (t := 138) (laidMet.reads h h0) (by kernel_rfl) (by kernel_rfl) Tryz.underlying138 Tryz.underlying5 (by kernel_rfl) (by kernel_rfl) (by rw [asciiZ_len]; decide) (by rw [asciiZ_len]; decide)
 ·exact rep_styles (laidMet.reads h hs)
 ·exact z0l hT
 ·exact zxe hT
end Go.Proofs.YtlhagkbhojmjpaaGreatDoor

/- The contract of strings.IndexByte. -/
import Derived.Shelf.Small.Strs
import Derived.Test.YtbeelajedknohaaDoorLai
import Derived.Test.YtbeelajedknohaaDoorEnt
import Derived.Test.YtbeelajedknohaaDoorD1
namespace Go.Proofs.YtbeelajedknohaaDoor
set_option linter.unusedSimpArgs false
set_option linter.unusedVariables false
set_option linter.unusedSectionVars false
open Go.RowKit

def sibL : Law := ⟨fun ts => ∃ (s : List UInt8) (c : Int), ts = [.str s, .int c] ∧ (s.length ≤ 1000000), fun ts z₀ => ∀ (s : List UInt8) (c : Int), ts = [.str s, .int c] → z₀ = .int (Lib.indexByte s c.toNat.toUInt8)⟩
theorem sib_pre {s : List UInt8} {c : Int} (h : s.length ≤ 1000000) : sibL.pre [.str s, .int c] := ⟨s, c, rfl, h⟩
theorem sib_fin {s : List UInt8} {c : Int} {z₀ : TV} (h : z₀ = .int (Lib.indexByte s c.toNat.toUInt8)) : sibL.post [.str s, .int c] z₀ := fun s₁ c₁ e => by
  simp only [List.cons.injEq, TV.str.injEq, TV.int.injEq, TV.bool.injEq, TV.agg.injEq, TV.list.injEq, ints_eq, and_true, true_and, and_assoc] at e; obtain ⟨rfl, rfl⟩ := e
  exact h
theorem sib_all {s : List UInt8} {c : Int} {Q : TV → Prop} : (∀ z₀, sibL.post [.str s, .int c] z₀ → Q z₀) ↔ Q (.int (Lib.indexByte s c.toNat.toUInt8)) := ⟨fun h => h _ (sib_fin rfl), fun h z₀ hr => by rw [hr _ _ rfl]; exact h⟩
theorem sib_c (k : Nat) : Contract Tryd.prog (mkEnv globT []) gtab (sn_strings_IndexByte k) sibL.pre sibL.post :=
  Contract.leaf ⟨_, Tryd.f94.body.getD .skip, Tryd.func94, by kernel_rfl, by kernel_rfl⟩ fun w ts vs hg ha hp => by
    obtain ⟨s, c, rfl, hp⟩ := hp
    obtain ⟨v0, vs0, e0, h0, ha⟩ := argsRep_cons_inv ha
    obtain ⟨v1, vs1, e1, h1, ha⟩ := argsRep_cons_inv ha
    obtain ⟨_, e2⟩ := argsRep_nil_inv ha
    have h0 := argRep_str h0
    have h1 := argRep_int h1
    subst h0 h1 e2 e1
    have ev : vs = #[.string ⟨s.toArray⟩, .int .u8 c] := by apply Array.toList_inj.1; rw [e0]
    subst ev
    refine ⟨.int (Lib.indexByte s c.toNat.toUInt8), .int .i64 (Lib.indexByte s c.toNat.toUInt8), fun M => .int _ (.int _), sib_fin rfl, ?_⟩
    exact (Any.strings_IndexByte lays_indexByte ⟨s.toArray⟩ c w).mono fun e w' ⟨he, hw⟩ => ⟨by rw [he], by rw [hw]; exact Below.refl _ _⟩
theorem indexByte_lt : ∀ (l : List UInt8) (c : UInt8), Lib.indexByte l c < l.length
  | [], _ => by simp [Lib.indexByte]
  | b :: l, c => by
    have := indexByte_lt l c
    unfold Lib.indexByte
    simp only [List.length_cons]
    split
    · omega
    · split <;> omega

end Go.Proofs.YtbeelajedknohaaDoor

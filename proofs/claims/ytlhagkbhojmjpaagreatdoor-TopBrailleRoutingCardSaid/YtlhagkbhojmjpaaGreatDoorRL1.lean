/- Written by this repo's own program out of its texts. -/
import Derived.Test.YtlhagkbhojmjpaaGreatDoorRE1
import Derived.Test.YtlhagkbhojmjpaaGreatDoorRB1
namespace Go.Proofs.YtlhagkbhojmjpaaGreatDoor
set_option linter.unusedVariables false
set_option linter.unusedSimpArgs false
def sg_ref15_Glyph : Sig := ⟨63, 0, [(true, [.str, .bool, (.int .i64)])], [(false, [((.int .i64), none)])]⟩
def zpw (k : Nat) : Sig := ⟨sg_ref15_Glyph.f, k, sg_ref15_Glyph.args, sg_ref15_Glyph.res⟩
def hd_ref15_Glyph : List (FuncId × Nat × Head) := []
def pl_ref15_Glyph : List (FuncId × Nat × Nat × Plan) := [(63, 3, 27, (.op true 0 (.op true 1 (.op true 2 (.op true 3 (.op false 4 (.op false 5 (.op false 6 (.op false 7 (.op true 8 (.op true 9 (.op true 10 (.op false 11 (.op false 12 (.op true 13 (.op true 14 (.op true 15 (.op false 16 (.op false 17 (.op true 18 (.op true 19 (.op true 20 (.op true 21 (.op true 22 (.op true 23 (.op true 24 (.op true 25 (.op false 26 .nil))))))))))))))))))))))))))))]
noncomputable def cx_ref15_Glyph : Cx := ⟨Tryz.prog, gtabU, [zhl 0, zhj 1], [], hd_ref15_Glyph, pl_ref15_Glyph, []⟩
def tr_ref15_Glyph : Tree := (.call 0 [(.o1 (.proj 0) (.v 0))]
  (.br (.o1 .no (.o2 .eqi (.v 1) (.int 0)))
    (.ret (.int 3))
    (.call 1 [(.o1 (.proj 0) (.v 0))]
      (.br (.o1 .no (.o2 .eqb (.o1 (.proj 1) (.v 0)) (.o2 .eqi (.v 2) (.int 2))))
        (.ret (.int 9))
        (.br (.o2 .lti (.o1 (.proj 2) (.v 0)) (.int 0))
          (.ret (.int 9))
          (.br (.o2 .lti (.int 3) (.o1 (.proj 2) (.v 0)))
            (.ret (.int 9))
            (.br (.o2 .eqi (.o1 (.proj 2) (.v 0)) (.int 3))
              (.br (.o1 .no (.o2 .eqs (.o1 (.proj 0) (.v 0)) (.str [42])))
                (.ret (.int 9))
                (.ret (.int 0)))
              (.ret (.int 0)))))))))
set_option maxRecDepth 100000 in
theorem z5x : za4 cx_ref15_Glyph 4 sg_ref15_Glyph Tryz.f63 (Tryz.f63.body.getD .skip) = tr_ref15_Glyph := by kernel_rfl
theorem z6i {Γ : CEnv} (hg : ∀ n, Γ.glob n = globT n) (hs : ∀ s ∈ cx_ref15_Glyph.sigs, Contract Tryz.prog Γ gtabU s (Γ.pre s.no) (Γ.post s.no)) : CxOk cx_ref15_Glyph Γ := ⟨by kernel_rfl, hs, (fun x hx => by cases hx), (fun x hx => by cases hx)⟩
theorem zxp {Γ : CEnv} (hg : ∀ n, Γ.glob n = globT n) (hs : ∀ s ∈ cx_ref15_Glyph.sigs, Contract Tryz.prog Γ gtabU s (Γ.pre s.no) (Γ.post s.no)) (k : Nat) {pre : List TV → Prop} {post : List TV → TV → Prop} (h : ∀ ts, ts.length = 1 → pre ts → tr_ref15_Glyph.den Γ (post ts) ts []) : Contract Tryz.prog Γ gtabU (zpw k) pre post :=
  Contract.renum (zas (z6i hg hs) 4 sg_ref15_Glyph Tryz.func63 (by kernel_rfl) (by kernel_rfl) fun ts hl hp => by rw [z5x]; exact h ts hl hp) k
end Go.Proofs.YtlhagkbhojmjpaaGreatDoor


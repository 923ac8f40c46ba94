/- Written by a program of ours (Gen): the trees of the symbolic runs of functions, and their contracts' frames. -/
import Derived.Test.YtmepjceepakdlaaDoorU1
namespace Go.Proofs.YtmepjceepakdlaaDoor
set_option linter.unusedVariables false
set_option linter.unusedSimpArgs false

/-! narrator/utf8stream.Valid -/
def sg_utf8stream_Valid : Sig := ⟨10, 0, [(false, [.str])], [(false, [(.bool, none)])]⟩
def sn_utf8stream_Valid (k : Nat) : Sig := ⟨sg_utf8stream_Valid.f, k, sg_utf8stream_Valid.args, sg_utf8stream_Valid.res⟩
def hd_utf8stream_Valid : List (FuncId × Nat × Head) := []
def pl_utf8stream_Valid : List (FuncId × Nat × Nat × List (Bool × Nat)) := []
noncomputable def cx_utf8stream_Valid : Cx := ⟨Tryd.prog, gtabU, [sn_unicode_utf8_ValidString 0], [], hd_utf8stream_Valid, pl_utf8stream_Valid⟩
def tr_utf8stream_Valid : Tree := (.call 0 [(.v 0)]
  (.ret (.v 1)))
set_option maxRecDepth 100000 in
theorem tree_utf8stream_Valid : fnTree cx_utf8stream_Valid 4 sg_utf8stream_Valid Tryd.f10 (Tryd.f10.body.getD .skip) = tr_utf8stream_Valid := by kernel_rfl
theorem cxok_utf8stream_Valid {Γ : CEnv} (hg : ∀ n, Γ.glob n = globT n) (hs : ∀ s ∈ cx_utf8stream_Valid.sigs, Contract Tryd.prog Γ gtabU s (Γ.pre s.no) (Γ.post s.no)) : CxOk cx_utf8stream_Valid Γ := ⟨by kernel_rfl, hs, fun x hx => by cases hx⟩
theorem contract_utf8stream_Valid {Γ : CEnv} (hg : ∀ n, Γ.glob n = globT n) (hs : ∀ s ∈ cx_utf8stream_Valid.sigs, Contract Tryd.prog Γ gtabU s (Γ.pre s.no) (Γ.post s.no)) (k : Nat) {pre : List TV → Prop} {post : List TV → TV → Prop} (h : ∀ ts, ts.length = 1 → pre ts → tr_utf8stream_Valid.den Γ (post ts) ts []) : Contract Tryd.prog Γ gtabU (sn_utf8stream_Valid k) pre post :=
  Contract.renum (contract_of (cxok_utf8stream_Valid hg hs) 4 sg_utf8stream_Valid Tryd.func10 (by kernel_rfl) (by kernel_rfl) fun ts hl hp => by rw [tree_utf8stream_Valid]; exact h ts hl hp) k

/-! narrator/narratorlaw01.Utf8streamEncode -/
def sg_law01_Utf8streamEncode : Sig := ⟨3, 0, [(false, [(.slice false [(.int .i32)])]), (false, [.str])], [(false, [(.bool, none)])]⟩
def sn_law01_Utf8streamEncode (k : Nat) : Sig := ⟨sg_law01_Utf8streamEncode.f, k, sg_law01_Utf8streamEncode.args, sg_law01_Utf8streamEncode.res⟩
def hd_law01_Utf8streamEncode : List (FuncId × Nat × Head) := []
def pl_law01_Utf8streamEncode : List (FuncId × Nat × Nat × List (Bool × Nat)) := []
noncomputable def cx_law01_Utf8streamEncode : Cx := ⟨Tryd.prog, gtabU, [sn_utf8stream_Encode 0, sn_ref01_Encode 1, sn_ref01_Valid 2, sn_law01_awake 3, sn_utf8stream_Valid 4], [], hd_law01_Utf8streamEncode, pl_law01_Utf8streamEncode⟩
def tr_law01_Utf8streamEncode : Tree := (.br (.o2 .lti (.int 100) (.o1 .len (.v 0)))
  (.call 3 []
    (.ret (.v 2)))
  (.br (.o2 .lti (.int 300) (.o1 .slen (.v 1)))
    (.call 3 []
      (.ret (.v 2)))
    (.call 0 [(.v 0)]
      (.call 1 [(.v 0)]
        (.br (.o2 .eqs (.v 2) (.v 3))
          (.call 4 [(.v 1)]
            (.call 2 [(.v 1)]
              (.br (.o2 .eqb (.v 4) (.v 5))
                (.call 3 []
                  (.ret (.v 6)))
                (.ret (.bool false)))))
          (.ret (.bool false)))))))
set_option maxRecDepth 100000 in
theorem tree_law01_Utf8streamEncode : fnTree cx_law01_Utf8streamEncode 4 sg_law01_Utf8streamEncode Tryd.f3 (Tryd.f3.body.getD .skip) = tr_law01_Utf8streamEncode := by kernel_rfl
theorem cxok_law01_Utf8streamEncode {Γ : CEnv} (hg : ∀ n, Γ.glob n = globT n) (hs : ∀ s ∈ cx_law01_Utf8streamEncode.sigs, Contract Tryd.prog Γ gtabU s (Γ.pre s.no) (Γ.post s.no)) : CxOk cx_law01_Utf8streamEncode Γ := ⟨by kernel_rfl, hs, fun x hx => by cases hx⟩
theorem contract_law01_Utf8streamEncode {Γ : CEnv} (hg : ∀ n, Γ.glob n = globT n) (hs : ∀ s ∈ cx_law01_Utf8streamEncode.sigs, Contract Tryd.prog Γ gtabU s (Γ.pre s.no) (Γ.post s.no)) (k : Nat) {pre : List TV → Prop} {post : List TV → TV → Prop} (h : ∀ ts, ts.length = 2 → pre ts → tr_law01_Utf8streamEncode.den Γ (post ts) ts []) : Contract Tryd.prog Γ gtabU (sn_law01_Utf8streamEncode k) pre post :=
  Contract.renum (contract_of (cxok_law01_Utf8streamEncode hg hs) 4 sg_law01_Utf8streamEncode Tryd.func3 (by kernel_rfl) (by kernel_rfl) fun ts hl hp => by rw [tree_law01_Utf8streamEncode]; exact h ts hl hp) k

/-! narrator/narratorlaw01.Utf8streamRoundTrip -/
def sg_law01_Utf8streamRoundTrip : Sig := ⟨4, 0, [(false, [(.slice false [(.int .i32)])])], [(false, [(.bool, none)])]⟩
def sn_law01_Utf8streamRoundTrip (k : Nat) : Sig := ⟨sg_law01_Utf8streamRoundTrip.f, k, sg_law01_Utf8streamRoundTrip.args, sg_law01_Utf8streamRoundTrip.res⟩
def hd_law01_Utf8streamRoundTrip : List (FuncId × Nat × Head) := [(4, 5, ⟨[0, 3, 14, 15, 16], [.slot 3 true 21 false [(.int .i32)]], [16], [0], []⟩)]
def pl_law01_Utf8streamRoundTrip : List (FuncId × Nat × Nat × List (Bool × Nat)) := []
noncomputable def cx_law01_Utf8streamRoundTrip : Cx := ⟨Tryd.prog, gtabU, [sn_utf8stream_Decode 0, sn_utf8stream_Encode 1, sn_ref01_Same 2, sn_law01_awake 3, sn_utf8stream_Valid 4], [], hd_law01_Utf8streamRoundTrip, pl_law01_Utf8streamRoundTrip⟩
def tr_law01_Utf8streamRoundTrip : Tree := (.br (.o2 .lti (.int 100) (.o1 .len (.v 0)))
  (.call 3 []
    (.ret (.v 1)))
  (.loop [(.int 0), .nil]
    (.br (.o2 .lti (.v 1) (.o1 .len (.v 0)))
      (.req (.o2 .lei (.int 0) (.v 1)) (.req (.o2 .lti (.v 1) (.o1 .len (.v 0))) (.br (.o2 .lti (.o2 .idx (.v 0) (.v 1)) (.int 0))
        (.req (.o2 .lei (.o1 .len (.o2 .app (.v 2) (.cons (.int 65533) .nil))) (.int 1099511627776)) (.back 0 [(.o2 (.add .i64) (.v 1) (.int 1)), (.o2 .app (.v 2) (.cons (.int 65533) .nil))]))
        (.br (.o2 .lti (.int 1114111) (.o2 .idx (.v 0) (.v 1)))
          (.req (.o2 .lei (.o1 .len (.o2 .app (.v 2) (.cons (.int 65533) .nil))) (.int 1099511627776)) (.back 0 [(.o2 (.add .i64) (.v 1) (.int 1)), (.o2 .app (.v 2) (.cons (.int 65533) .nil))]))
          (.br (.o2 .lei (.int 55296) (.o2 .idx (.v 0) (.v 1)))
            (.br (.o2 .lei (.o2 .idx (.v 0) (.v 1)) (.int 57343))
              (.req (.o2 .lei (.o1 .len (.o2 .app (.v 2) (.cons (.int 65533) .nil))) (.int 1099511627776)) (.back 0 [(.o2 (.add .i64) (.v 1) (.int 1)), (.o2 .app (.v 2) (.cons (.int 65533) .nil))]))
              (.req (.o2 .lei (.o1 .len (.o2 .app (.v 2) (.cons (.o2 .idx (.v 0) (.v 1)) .nil))) (.int 1099511627776)) (.back 0 [(.o2 (.add .i64) (.v 1) (.int 1)), (.o2 .app (.v 2) (.cons (.o2 .idx (.v 0) (.v 1)) .nil))])))
            (.req (.o2 .lei (.o1 .len (.o2 .app (.v 2) (.cons (.o2 .idx (.v 0) (.v 1)) .nil))) (.int 1099511627776)) (.back 0 [(.o2 (.add .i64) (.v 1) (.int 1)), (.o2 .app (.v 2) (.cons (.o2 .idx (.v 0) (.v 1)) .nil))])))))))
      (.call 1 [(.v 0)]
        (.call 0 [(.str []), (.v 3)]
          (.call 2 [(.o1 (.proj 0) (.v 4)), (.v 2)]
            (.br (.v 5)
              (.br (.o2 .eqs (.o1 (.proj 1) (.v 4)) (.str []))
                (.call 4 [(.v 3)]
                  (.br (.v 6)
                    (.call 3 []
                      (.ret (.v 7)))
                    (.ret (.bool false))))
                (.ret (.bool false)))
              (.ret (.bool false)))))))))
set_option maxRecDepth 100000 in
theorem tree_law01_Utf8streamRoundTrip : fnTree cx_law01_Utf8streamRoundTrip 4 sg_law01_Utf8streamRoundTrip Tryd.f4 (Tryd.f4.body.getD .skip) = tr_law01_Utf8streamRoundTrip := by kernel_rfl
theorem cxok_law01_Utf8streamRoundTrip {Γ : CEnv} (hg : ∀ n, Γ.glob n = globT n) (hs : ∀ s ∈ cx_law01_Utf8streamRoundTrip.sigs, Contract Tryd.prog Γ gtabU s (Γ.pre s.no) (Γ.post s.no)) : CxOk cx_law01_Utf8streamRoundTrip Γ := ⟨by kernel_rfl, hs, fun x hx => by cases hx⟩
theorem contract_law01_Utf8streamRoundTrip {Γ : CEnv} (hg : ∀ n, Γ.glob n = globT n) (hs : ∀ s ∈ cx_law01_Utf8streamRoundTrip.sigs, Contract Tryd.prog Γ gtabU s (Γ.pre s.no) (Γ.post s.no)) (k : Nat) {pre : List TV → Prop} {post : List TV → TV → Prop} (h : ∀ ts, ts.length = 1 → pre ts → tr_law01_Utf8streamRoundTrip.den Γ (post ts) ts []) : Contract Tryd.prog Γ gtabU (sn_law01_Utf8streamRoundTrip k) pre post :=
  Contract.renum (contract_of (cxok_law01_Utf8streamRoundTrip hg hs) 4 sg_law01_Utf8streamRoundTrip Tryd.func4 (by kernel_rfl) (by kernel_rfl) fun ts hl hp => by rw [tree_law01_Utf8streamRoundTrip]; exact h ts hl hp) k

/-! narrator/narratorlaw01.Utf8streamCanonical -/
def sg_law01_Utf8streamCanonical : Sig := ⟨5, 0, [(false, [.str])], [(false, [(.bool, none)])]⟩
def sn_law01_Utf8streamCanonical (k : Nat) : Sig := ⟨sg_law01_Utf8streamCanonical.f, k, sg_law01_Utf8streamCanonical.args, sg_law01_Utf8streamCanonical.res⟩
def hd_law01_Utf8streamCanonical : List (FuncId × Nat × Head) := []
def pl_law01_Utf8streamCanonical : List (FuncId × Nat × Nat × List (Bool × Nat)) := []
noncomputable def cx_law01_Utf8streamCanonical : Cx := ⟨Tryd.prog, gtabU, [sn_utf8stream_Decode 0, sn_utf8stream_Encode 1, sn_law01_awake 2, sn_utf8stream_Valid 3], [], hd_law01_Utf8streamCanonical, pl_law01_Utf8streamCanonical⟩
def tr_law01_Utf8streamCanonical : Tree := (.br (.o2 .lti (.int 300) (.o1 .slen (.v 0)))
  (.call 2 []
    (.ret (.v 1)))
  (.call 0 [(.str []), (.v 0)]
    (.call 3 [(.v 0)]
      (.br (.o2 .eqs (.o1 (.proj 1) (.v 1)) (.str []))
        (.call 1 [(.o1 (.proj 0) (.v 1))]
          (.br (.o2 .eqb (.v 2) (.o2 .eqs (.v 3) (.v 0)))
            (.call 2 []
              (.ret (.v 4)))
            (.ret (.bool false))))
        (.br (.o2 .eqb (.v 2) (.bool false))
          (.call 2 []
            (.ret (.v 3)))
          (.ret (.bool false)))))))
set_option maxRecDepth 100000 in
theorem tree_law01_Utf8streamCanonical : fnTree cx_law01_Utf8streamCanonical 4 sg_law01_Utf8streamCanonical Tryd.f5 (Tryd.f5.body.getD .skip) = tr_law01_Utf8streamCanonical := by kernel_rfl
theorem cxok_law01_Utf8streamCanonical {Γ : CEnv} (hg : ∀ n, Γ.glob n = globT n) (hs : ∀ s ∈ cx_law01_Utf8streamCanonical.sigs, Contract Tryd.prog Γ gtabU s (Γ.pre s.no) (Γ.post s.no)) : CxOk cx_law01_Utf8streamCanonical Γ := ⟨by kernel_rfl, hs, fun x hx => by cases hx⟩
theorem contract_law01_Utf8streamCanonical {Γ : CEnv} (hg : ∀ n, Γ.glob n = globT n) (hs : ∀ s ∈ cx_law01_Utf8streamCanonical.sigs, Contract Tryd.prog Γ gtabU s (Γ.pre s.no) (Γ.post s.no)) (k : Nat) {pre : List TV → Prop} {post : List TV → TV → Prop} (h : ∀ ts, ts.length = 1 → pre ts → tr_law01_Utf8streamCanonical.den Γ (post ts) ts []) : Contract Tryd.prog Γ gtabU (sn_law01_Utf8streamCanonical k) pre post :=
  Contract.renum (contract_of (cxok_law01_Utf8streamCanonical hg hs) 4 sg_law01_Utf8streamCanonical Tryd.func5 (by kernel_rfl) (by kernel_rfl) fun ts hl hp => by rw [tree_law01_Utf8streamCanonical]; exact h ts hl hp) k

/-! narrator/narratorlaw01.Utf8streamGo -/
def sg_law01_Utf8streamGo : Sig := ⟨6, 0, [(false, [.str])], [(false, [(.bool, none)])]⟩
def sn_law01_Utf8streamGo (k : Nat) : Sig := ⟨sg_law01_Utf8streamGo.f, k, sg_law01_Utf8streamGo.args, sg_law01_Utf8streamGo.res⟩
def hd_law01_Utf8streamGo : List (FuncId × Nat × Head) := []
def pl_law01_Utf8streamGo : List (FuncId × Nat × Nat × List (Bool × Nat)) := []
noncomputable def cx_law01_Utf8streamGo : Cx := ⟨Tryd.prog, gtabU, [sn_utf8stream_Decode 0, sn_utf8stream_Encode 1, sn_ref01_Same 2, sn_law01_awake 3, sn_utf8stream_Valid 4], [], hd_law01_Utf8streamGo, pl_law01_Utf8streamGo⟩
def tr_law01_Utf8streamGo : Tree := (.br (.o2 .lti (.int 300) (.o1 .slen (.v 0)))
  (.call 3 []
    (.ret (.v 1)))
  (.call 4 [(.v 0)]
    (.br (.o1 .no (.v 1))
      (.call 3 []
        (.ret (.v 2)))
      (.call 0 [(.str []), (.v 0)]
        (.req (.o2 .lei (.o1 .slen (.v 0)) (.int 1099511627776)) (.call 2 [(.o1 (.proj 0) (.v 2)), (.o1 .runesOf (.v 0))]
          (.br (.v 3)
            (.br (.o2 .eqs (.o1 (.proj 1) (.v 2)) (.str []))
              (.req (.o2 .lei (.o1 .slen (.v 0)) (.int 1099511627776)) (.call 1 [(.o1 .runesOf (.v 0))]
                (.br (.o2 .eqs (.v 4) (.v 0))
                  (.call 3 []
                    (.ret (.v 5)))
                  (.ret (.bool false)))))
              (.ret (.bool false)))
            (.ret (.bool false)))))))))
set_option maxRecDepth 100000 in
theorem tree_law01_Utf8streamGo : fnTree cx_law01_Utf8streamGo 4 sg_law01_Utf8streamGo Tryd.f6 (Tryd.f6.body.getD .skip) = tr_law01_Utf8streamGo := by kernel_rfl
theorem cxok_law01_Utf8streamGo {Γ : CEnv} (hg : ∀ n, Γ.glob n = globT n) (hs : ∀ s ∈ cx_law01_Utf8streamGo.sigs, Contract Tryd.prog Γ gtabU s (Γ.pre s.no) (Γ.post s.no)) : CxOk cx_law01_Utf8streamGo Γ := ⟨by kernel_rfl, hs, fun x hx => by cases hx⟩
theorem contract_law01_Utf8streamGo {Γ : CEnv} (hg : ∀ n, Γ.glob n = globT n) (hs : ∀ s ∈ cx_law01_Utf8streamGo.sigs, Contract Tryd.prog Γ gtabU s (Γ.pre s.no) (Γ.post s.no)) (k : Nat) {pre : List TV → Prop} {post : List TV → TV → Prop} (h : ∀ ts, ts.length = 1 → pre ts → tr_law01_Utf8streamGo.den Γ (post ts) ts []) : Contract Tryd.prog Γ gtabU (sn_law01_Utf8streamGo k) pre post :=
  Contract.renum (contract_of (cxok_law01_Utf8streamGo hg hs) 4 sg_law01_Utf8streamGo Tryd.func6 (by kernel_rfl) (by kernel_rfl) fun ts hl hp => by rw [tree_law01_Utf8streamGo]; exact h ts hl hp) k
end Go.Proofs.YtmepjceepakdlaaDoor

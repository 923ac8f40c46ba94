/- Written by this repo's own program out of its texts. -/
import Derived.Test.YtlhagkbhojmjpaaGreatDoorRK1
namespace Go.Proofs.YtlhagkbhojmjpaaGreatDoor
set_option linter.unusedVariables false
set_option linter.unusedSimpArgs false
def sg_cmp_Lessint : Sig := ⟨109, 0, [(false, [(.int .i64)]), (false, [(.int .i64)])], [(false, [(.bool, none)])]⟩
def zkp (k : Nat) : Sig := ⟨sg_cmp_Lessint.f, k, sg_cmp_Lessint.args, sg_cmp_Lessint.res⟩
def hd_cmp_Lessint : List (FuncId × Nat × Head) := []
def pl_cmp_Lessint : List (FuncId × Nat × Nat × Plan) := []
noncomputable def cx_cmp_Lessint : Cx := ⟨Tryz.prog, gtab, [], [(137, Tryz.f137)], hd_cmp_Lessint, pl_cmp_Lessint, []⟩
def tr_cmp_Lessint : Tree := (.br (.o1 .no (.o2 .eqi (.v 0) (.v 0)))
  (.br (.o1 .no (.o1 .no (.o2 .eqi (.v 1) (.v 1))))
    (.ret (.bool true))
    (.ret (.o2 .lti (.v 0) (.v 1))))
  (.ret (.o2 .lti (.v 0) (.v 1))))
set_option maxRecDepth 100000 in
theorem z6t : za4 cx_cmp_Lessint 4 sg_cmp_Lessint Tryz.f109 (Tryz.f109.body.getD .skip) = tr_cmp_Lessint := by kernel_rfl
theorem z59 {Γ : CEnv} (hg : ∀ n, Γ.glob n = globT n) (hs : ∀ s ∈ cx_cmp_Lessint.sigs, Contract Tryz.prog Γ gtab s (Γ.pre s.no) (Γ.post s.no)) : CxOk cx_cmp_Lessint Γ := ⟨by kernel_rfl, hs, (fun x hx => by
  simp only [cx_cmp_Lessint, List.mem_cons, List.not_mem_nil, or_false] at hx
  rcases hx with rfl
  · exact ⟨Tryz.func137, by kernel_rfl⟩), (fun x hx => by cases hx)⟩
theorem zl8 {Γ : CEnv} (hg : ∀ n, Γ.glob n = globT n) (hs : ∀ s ∈ cx_cmp_Lessint.sigs, Contract Tryz.prog Γ gtab s (Γ.pre s.no) (Γ.post s.no)) (k : Nat) {pre : List TV → Prop} {post : List TV → TV → Prop} (h : ∀ ts, ts.length = 2 → pre ts → tr_cmp_Lessint.den Γ (post ts) ts []) : Contract Tryz.prog Γ gtab (zkp k) pre post :=
  Contract.renum (zas (z59 hg hs) 4 sg_cmp_Lessint Tryz.func109 (by kernel_rfl) (by kernel_rfl) fun ts hl hp => by rw [z6t]; exact h ts hl hp) k
def sg_brailleline_Of : Sig := ⟨14, 0, [(false, [(.slice true [.str, .bool, (.int .i64)])]), (true, [(.int .i64), .bool, .bool, (.int .i64), .bool, (.int .i64)])], [(true, [((.slice false [(.int .u8)]), some 5), ((.slice false [(.int .i64)]), some 3)])]⟩
def zbs (k : Nat) : Sig := ⟨sg_brailleline_Of.f, k, sg_brailleline_Of.args, sg_brailleline_Of.res⟩
def z3p : List (FuncId × Nat × Head) := [(14, 27, ⟨[0, 4, 5, 11, 15, 87, 88, 89], [.slot 4 true 54 false [], .slot 5 true 54 false [], .slot 11 true 3 false [(.int .i64)], .slot 15 true 3 false [(.int .i64)], .slot 87 true 5 false [(.int .u8)], .cell 5 0 true 5 false [(.int .u8)], .cell 5 1 true 3 false [(.int .i64)]], [89], [6, 5], [], []⟩), (14, 17, ⟨[0, 4, 5, 10, 11, 59, 60, 61], [.slot 4 true 54 false [], .slot 5 true 54 false [], .slot 11 true 3 false [(.int .i64)]], [61, 10], [2], [], []⟩), (14, 21, ⟨[0, 4, 5, 10, 11, 12, 59, 60, 61, 73, 74], [.slot 4 true 54 false [], .slot 5 true 54 false [], .slot 11 true 3 false [(.int .i64)]], [74], [2], [], []⟩), (14, 4, ⟨[0, 4, 5, 22, 23, 24], [.slot 4 true 54 false [], .slot 5 true 54 false [], .cell 5 0 true 5 false [(.int .u8)], .cell 5 1 true 3 false [(.int .i64)]], [24], [3, 2], [], []⟩), (14, 7, ⟨[0, 4, 5, 6, 22, 23, 24, 31, 32, 33], [.slot 4 true 54 false [], .slot 5 true 54 false [], .cell 5 0 true 5 false [(.int .u8)], .cell 5 1 true 3 false [(.int .i64)], .slot 31 true 5 false [(.int .u8)]], [33], [3, 2], [], []⟩)]
def z3f : List (FuncId × Nat × Nat × Plan) := [(14, 9, 9999, .nil), (14, 32, 9999, .nil)]
noncomputable def cx_brailleline_Of : Cx := ⟨Tryz.prog, gtab, [zbz 0, zb7 1, zc8 2], [], z3p, z3f, []⟩
def tr_brailleline_Of : Tree := (.br (.o1 .no (.o1 (.proj 4) (.v 1)))
  (.loop [(.int 0), .nil, .nil]
    (.br (.o2 .lti (.v 2) (.o1 .len (.v 0)))
      (.req (.o2 .lei (.int 0) (.v 2)) (.req (.o2 .lti (.v 2) (.o1 .len (.v 0))) (.call 1 [(.o1 (.proj 0) (.o2 .idx (.v 0) (.v 2)))]
        (.loop [(.int 0), (.v 3), (.v 4)]
          (.br (.o2 .lti (.v 6) (.o1 .len (.v 5)))
            (.req (.o2 .lei (.int 0) (.v 6)) (.req (.o2 .lti (.v 6) (.o1 .len (.v 5))) (.req (.o2 .lei (.o1 .len (.o2 .app (.v 7) (.cons (.o2 .idx (.v 5) (.v 6)) .nil))) (.int 1099511627776)) (.req (.o2 .lei (.o1 .len (.o2 .app (.v 8) (.cons (.v 2) .nil))) (.int 1099511627776)) (.back 1 [(.o2 (.add .i64) (.v 6) (.int 1)), (.o2 .app (.v 7) (.cons (.o2 .idx (.v 5) (.v 6)) .nil)), (.o2 .app (.v 8) (.cons (.v 2) .nil))])))))
            (.back 0 [(.o2 (.add .i64) (.v 2) (.int 1)), (.v 7), (.v 8)]))))))
      (.req (.o2 .lei (.o1 .len (.o2 .app (.v 4) (.cons (.o1 .len (.v 0)) .nil))) (.int 1099511627776)) (.ret (.o1 .agg (.cons (.v 3) (.cons (.o2 .app (.v 4) (.cons (.o1 .len (.v 0)) .nil)) .nil)))))))
  (.loop [(.str []), (.int 0), .nil]
    (.br (.o2 .lti (.v 3) (.o1 .len (.v 0)))
      (.req (.o2 .lei (.int 0) (.v 3)) (.req (.o2 .lti (.v 3) (.o1 .len (.v 0))) (.req (.o2 .lei (.o1 .slen (.o2 .cat (.v 2) (.o1 (.proj 0) (.o2 .idx (.v 0) (.v 3))))) (.int 9223372036854775807)) (.call 0 [(.o1 (.proj 0) (.o2 .idx (.v 0) (.v 3)))]
        (.loop [(.int 0), (.v 4)]
          (.br (.o2 .lti (.v 6) (.o1 .len (.v 5)))
            (.req (.o2 .lei (.o1 .len (.o2 .app (.v 7) (.cons (.v 3) .nil))) (.int 1099511627776)) (.back 1 [(.o2 (.add .i64) (.v 6) (.int 1)), (.o2 .app (.v 7) (.cons (.v 3) .nil))]))
            (.back 0 [(.o2 .cat (.v 2) (.o1 (.proj 0) (.o2 .idx (.v 0) (.v 3)))), (.o2 (.add .i64) (.v 3) (.int 1)), (.v 7)])))))))
      (.call 2 [(.v 2)]
        (.loop [(.int 0), .nil, .nil]
          (.br (.o2 .lti (.v 6) (.o1 .len (.o1 (.proj 0) (.v 5))))
            (.req (.o2 .lei (.int 0) (.v 6)) (.req (.o2 .lti (.v 6) (.o1 .len (.o1 (.proj 0) (.v 5)))) (.br (.o2 .lti (.v 6) (.o1 .len (.o1 (.proj 1) (.v 5))))
              (.req (.o2 .lei (.int 0) (.v 6)) (.req (.o2 .lti (.v 6) (.o1 .len (.o1 (.proj 1) (.v 5)))) (.br (.o2 .lei (.int 0) (.o2 .idx (.o1 (.proj 1) (.v 5)) (.v 6)))
                (.req (.o2 .lei (.int 0) (.v 6)) (.req (.o2 .lti (.v 6) (.o1 .len (.o1 (.proj 1) (.v 5)))) (.br (.o2 .lti (.o2 .idx (.o1 (.proj 1) (.v 5)) (.v 6)) (.o1 .len (.v 4)))
                  (.req (.o2 .lei (.int 0) (.v 6)) (.req (.o2 .lti (.v 6) (.o1 .len (.o1 (.proj 1) (.v 5)))) (.req (.o2 .lei (.int 0) (.o2 .idx (.o1 (.proj 1) (.v 5)) (.v 6))) (.req (.o2 .lti (.o2 .idx (.o1 (.proj 1) (.v 5)) (.v 6)) (.o1 .len (.v 4))) (.req (.o2 .lei (.o1 .len (.o2 .app (.v 7) (.cons (.o2 .idx (.o1 (.proj 0) (.v 5)) (.v 6)) .nil))) (.int 1099511627776)) (.req (.o2 .lei (.o1 .len (.o2 .app (.v 8) (.cons (.o2 .idx (.v 4) (.o2 .idx (.o1 (.proj 1) (.v 5)) (.v 6))) .nil))) (.int 1099511627776)) (.back 1 [(.o2 (.add .i64) (.v 6) (.int 1)), (.o2 .app (.v 7) (.cons (.o2 .idx (.o1 (.proj 0) (.v 5)) (.v 6)) .nil)), (.o2 .app (.v 8) (.cons (.o2 .idx (.v 4) (.o2 .idx (.o1 (.proj 1) (.v 5)) (.v 6))) .nil))])))))))
                  (.req (.o2 .lei (.o1 .len (.o2 .app (.v 7) (.cons (.o2 .idx (.o1 (.proj 0) (.v 5)) (.v 6)) .nil))) (.int 1099511627776)) (.req (.o2 .lei (.o1 .len (.o2 .app (.v 8) (.cons (.int 0) .nil))) (.int 1099511627776)) (.back 1 [(.o2 (.add .i64) (.v 6) (.int 1)), (.o2 .app (.v 7) (.cons (.o2 .idx (.o1 (.proj 0) (.v 5)) (.v 6)) .nil)), (.o2 .app (.v 8) (.cons (.int 0) .nil))]))))))
                (.req (.o2 .lei (.o1 .len (.o2 .app (.v 7) (.cons (.o2 .idx (.o1 (.proj 0) (.v 5)) (.v 6)) .nil))) (.int 1099511627776)) (.req (.o2 .lei (.o1 .len (.o2 .app (.v 8) (.cons (.int 0) .nil))) (.int 1099511627776)) (.back 1 [(.o2 (.add .i64) (.v 6) (.int 1)), (.o2 .app (.v 7) (.cons (.o2 .idx (.o1 (.proj 0) (.v 5)) (.v 6)) .nil)), (.o2 .app (.v 8) (.cons (.int 0) .nil))]))))))
              (.req (.o2 .lei (.o1 .len (.o2 .app (.v 7) (.cons (.o2 .idx (.o1 (.proj 0) (.v 5)) (.v 6)) .nil))) (.int 1099511627776)) (.req (.o2 .lei (.o1 .len (.o2 .app (.v 8) (.cons (.int 0) .nil))) (.int 1099511627776)) (.back 1 [(.o2 (.add .i64) (.v 6) (.int 1)), (.o2 .app (.v 7) (.cons (.o2 .idx (.o1 (.proj 0) (.v 5)) (.v 6)) .nil)), (.o2 .app (.v 8) (.cons (.int 0) .nil))]))))))
            (.req (.o2 .lei (.o1 .len (.o2 .app (.v 8) (.cons (.o1 .len (.v 0)) .nil))) (.int 1099511627776)) (.ret (.o1 .agg (.cons (.v 7) (.cons (.o2 .app (.v 8) (.cons (.o1 .len (.v 0)) .nil)) .nil)))))))))))
set_option maxRecDepth 100000 in
theorem zyo : za4 cx_brailleline_Of 4 sg_brailleline_Of Tryz.f14 (Tryz.f14.body.getD .skip) = tr_brailleline_Of := by kernel_rfl
theorem zzo {Γ : CEnv} (hg : ∀ n, Γ.glob n = globT n) (hs : ∀ s ∈ cx_brailleline_Of.sigs, Contract Tryz.prog Γ gtab s (Γ.pre s.no) (Γ.post s.no)) : CxOk cx_brailleline_Of Γ := ⟨by kernel_rfl, hs, (fun x hx => by cases hx), (fun x hx => by cases hx)⟩
theorem ziv {Γ : CEnv} (hg : ∀ n, Γ.glob n = globT n) (hs : ∀ s ∈ cx_brailleline_Of.sigs, Contract Tryz.prog Γ gtab s (Γ.pre s.no) (Γ.post s.no)) (k : Nat) {pre : List TV → Prop} {post : List TV → TV → Prop} (h : ∀ ts, ts.length = 2 → pre ts → tr_brailleline_Of.den Γ (post ts) ts []) : Contract Tryz.prog Γ gtab (zbs k) pre post :=
  Contract.renum (zas (zzo hg hs) 4 sg_brailleline_Of Tryz.func14 (by kernel_rfl) (by kernel_rfl) fun ts hl hp => by rw [zyo]; exact h ts hl hp) k
def sg_brailleline_size : Sig := ⟨49, 0, [(true, [(.slice false [(.int .u8)]), (.slice false [(.int .i64)])])], [(false, [((.int .i64), none)]), (false, [(.bool, none)])]⟩
def zdp (k : Nat) : Sig := ⟨sg_brailleline_size.f, k, sg_brailleline_size.args, sg_brailleline_size.res⟩
def zyu : List (FuncId × Nat × Head) := [(85, 2, ⟨[0, 3], [.blk 0], [3], [], [], []⟩)]
def zzd : List (FuncId × Nat × Nat × Plan) := [(85, 4, 10, (.op true 0 (.op true 1 (.op true 2 (.op true 3 (.op true 4 (.op true 5 (.op true 6 (.op true 7 (.op true 8 (.op false 9 .nil)))))))))))]
noncomputable def cx_brailleline_size : Cx := ⟨Tryz.prog, gtab, [zkp 0], [(85, Tryz.f85)], zyu, zzd, []⟩
def tr_brailleline_size : Tree := (.br (.o1 .no (.o2 .eqi (.o1 .len (.o1 (.proj 1) (.v 0))) (.o2 (.add .i64) (.o1 .len (.o1 (.proj 0) (.v 0))) (.int 1))))
  (.ret (.o1 .agg (.cons (.int 0) (.cons (.bool false) .nil))))
  (.req (.o2 .lti (.int 0) (.o1 .len (.o1 (.proj 1) (.v 0)))) (.br (.o2 .lti (.o2 .idx (.o1 (.proj 1) (.v 0)) (.int 0)) (.int 0))
    (.ret (.o1 .agg (.cons (.int 0) (.cons (.bool false) .nil))))
    (.loop [(.o2 (.sub .i64) (.o1 .len (.o1 (.proj 1) (.v 0))) (.int 1))]
      (.br (.o2 .lti (.int 0) (.v 1))
        (.req (.o2 .lei (.int 0) (.v 1)) (.req (.o2 .lti (.v 1) (.o1 .len (.o1 (.proj 1) (.v 0)))) (.req (.o2 .lei (.int 0) (.o2 (.sub .i64) (.v 1) (.int 1))) (.req (.o2 .lti (.o2 (.sub .i64) (.v 1) (.int 1)) (.o1 .len (.o1 (.proj 1) (.v 0)))) (.call 0 [(.o2 .idx (.o1 (.proj 1) (.v 0)) (.v 1)), (.o2 .idx (.o1 (.proj 1) (.v 0)) (.o2 (.sub .i64) (.v 1) (.int 1)))]
          (.br (.v 2)
            (.ret (.o1 .agg (.cons (.int 0) (.cons (.bool false) .nil))))
            (.back 0 [(.o2 (.sub .i64) (.v 1) (.int 1))])))))))
        (.req (.o2 .lei (.int 0) (.o1 .len (.o1 (.proj 0) (.v 0)))) (.req (.o2 .lti (.o1 .len (.o1 (.proj 0) (.v 0))) (.o1 .len (.o1 (.proj 1) (.v 0)))) (.ret (.o1 .agg (.cons (.o2 .idx (.o1 (.proj 1) (.v 0)) (.o1 .len (.o1 (.proj 0) (.v 0)))) (.cons (.bool true) .nil)))))))))))
set_option maxRecDepth 100000 in
theorem zwe : za4 cx_brailleline_size 4 sg_brailleline_size Tryz.f49 (Tryz.f49.body.getD .skip) = tr_brailleline_size := by kernel_rfl
theorem zwz {Γ : CEnv} (hg : ∀ n, Γ.glob n = globT n) (hs : ∀ s ∈ cx_brailleline_size.sigs, Contract Tryz.prog Γ gtab s (Γ.pre s.no) (Γ.post s.no)) : CxOk cx_brailleline_size Γ := ⟨by kernel_rfl, hs, (fun x hx => by
  simp only [cx_brailleline_size, List.mem_cons, List.not_mem_nil, or_false] at hx
  rcases hx with rfl
  · exact ⟨Tryz.func85, by kernel_rfl⟩), (fun x hx => by cases hx)⟩
theorem zhi {Γ : CEnv} (hg : ∀ n, Γ.glob n = globT n) (hs : ∀ s ∈ cx_brailleline_size.sigs, Contract Tryz.prog Γ gtab s (Γ.pre s.no) (Γ.post s.no)) (k : Nat) {pre : List TV → Prop} {post : List TV → TV → Prop} (h : ∀ ts, ts.length = 1 → pre ts → tr_brailleline_size.den Γ (post ts) ts []) : Contract Tryz.prog Γ gtab (zdp k) pre post :=
  Contract.renum (zas (zwz hg hs) 4 sg_brailleline_size Tryz.func49 (by kernel_rfl) (by kernel_rfl) fun ts hl hp => by rw [zwe]; exact h ts hl hp) k
def sg_brailleline_Cell : Sig := ⟨67, 0, [(true, [(.slice false [(.int .u8)]), (.slice false [(.int .i64)])]), (false, [(.int .i64)])], [(false, [((.int .i64), none)])]⟩
def zb5 (k : Nat) : Sig := ⟨sg_brailleline_Cell.f, k, sg_brailleline_Cell.args, sg_brailleline_Cell.res⟩
def zze : List (FuncId × Nat × Head) := [(67, 8, ⟨[1, 2, 7, 42, 43, 44], [.slot 2 true 54 false []], [7, 44], [], [], []⟩)]
def zzp : List (FuncId × Nat × Nat × Plan) := []
noncomputable def cx_brailleline_Cell : Cx := ⟨Tryz.prog, gtab, [zdp 0], [], zze, zzp, []⟩
def tr_brailleline_Cell : Tree := (.call 0 [(.o1 .agg (.cons (.o1 (.proj 0) (.v 0)) (.cons (.o1 (.proj 1) (.v 0)) .nil)))]
  (.br (.o1 .no (.o1 (.proj 1) (.v 2)))
    (.ret (.int (-1)))
    (.br (.o2 .lti (.v 1) (.int 0))
      (.ret (.int (-1)))
      (.br (.o2 .lti (.int 1000000) (.v 1))
        (.ret (.int (-1)))
        (.br (.o2 .lei (.o1 (.proj 0) (.v 2)) (.v 1))
          (.ret (.o2 (.sub .i64) (.o2 (.add .i64) (.o1 .len (.o1 (.proj 0) (.v 0))) (.v 1)) (.o1 (.proj 0) (.v 2))))
          (.req (.o2 .lei (.int 0) (.o1 .len (.o1 (.proj 0) (.v 0)))) (.req (.o2 .lei (.o1 .len (.o1 (.proj 0) (.v 0))) (.o1 .len (.o1 (.proj 1) (.v 0)))) (.loop [(.int 0), (.int 0)]
            (.br (.o2 .lti (.v 4) (.o1 .len (.o3 .sub (.o1 (.proj 1) (.v 0)) (.int 0) (.o1 .len (.o1 (.proj 0) (.v 0))))))
              (.req (.o2 .lei (.int 0) (.v 4)) (.req (.o2 .lti (.v 4) (.o1 .len (.o3 .sub (.o1 (.proj 1) (.v 0)) (.int 0) (.o1 .len (.o1 (.proj 0) (.v 0)))))) (.br (.o2 .lti (.v 1) (.o2 .idx (.o3 .sub (.o1 (.proj 1) (.v 0)) (.int 0) (.o1 .len (.o1 (.proj 0) (.v 0)))) (.v 4)))
                (.ret (.v 3))
                (.br (.o2 .eqi (.v 4) (.int 0))
                  (.back 0 [(.v 4), (.o2 (.add .i64) (.v 4) (.int 1))])
                  (.req (.o2 .lei (.int 0) (.o2 (.sub .i64) (.v 4) (.int 1))) (.req (.o2 .lti (.o2 (.sub .i64) (.v 4) (.int 1)) (.o1 .len (.o1 (.proj 1) (.v 0)))) (.br (.o1 .no (.o2 .eqi (.o2 .idx (.o1 (.proj 1) (.v 0)) (.o2 (.sub .i64) (.v 4) (.int 1))) (.o2 .idx (.o3 .sub (.o1 (.proj 1) (.v 0)) (.int 0) (.o1 .len (.o1 (.proj 0) (.v 0)))) (.v 4))))
                    (.back 0 [(.v 4), (.o2 (.add .i64) (.v 4) (.int 1))])
                    (.back 0 [(.v 3), (.o2 (.add .i64) (.v 4) (.int 1))]))))))))
              (.ret (.v 3)))))))))))
set_option maxRecDepth 100000 in
theorem zvg : za4 cx_brailleline_Cell 4 sg_brailleline_Cell Tryz.f67 (Tryz.f67.body.getD .skip) = tr_brailleline_Cell := by kernel_rfl
theorem zws {Γ : CEnv} (hg : ∀ n, Γ.glob n = globT n) (hs : ∀ s ∈ cx_brailleline_Cell.sigs, Contract Tryz.prog Γ gtab s (Γ.pre s.no) (Γ.post s.no)) : CxOk cx_brailleline_Cell Γ := ⟨by kernel_rfl, hs, (fun x hx => by cases hx), (fun x hx => by cases hx)⟩
theorem zhr {Γ : CEnv} (hg : ∀ n, Γ.glob n = globT n) (hs : ∀ s ∈ cx_brailleline_Cell.sigs, Contract Tryz.prog Γ gtab s (Γ.pre s.no) (Γ.post s.no)) (k : Nat) {pre : List TV → Prop} {post : List TV → TV → Prop} (h : ∀ ts, ts.length = 2 → pre ts → tr_brailleline_Cell.den Γ (post ts) ts []) : Contract Tryz.prog Γ gtab (zb5 k) pre post :=
  Contract.renum (zas (zws hg hs) 4 sg_brailleline_Cell Tryz.func67 (by kernel_rfl) (by kernel_rfl) fun ts hl hp => by rw [zvg]; exact h ts hl hp) k
def sg_brailleline_Glyph : Sig := ⟨16, 0, [(true, [(.slice false [(.int .u8)]), (.slice false [(.int .i64)])]), (false, [(.int .i64)])], [(false, [((.int .i64), none)])]⟩
def zby (k : Nat) : Sig := ⟨sg_brailleline_Glyph.f, k, sg_brailleline_Glyph.args, sg_brailleline_Glyph.res⟩
def zxn : List (FuncId × Nat × Head) := []
def zxt : List (FuncId × Nat × Nat × Plan) := []
noncomputable def cx_brailleline_Glyph : Cx := ⟨Tryz.prog, gtab, [zdp 0], [], zxn, zxt, []⟩
def tr_brailleline_Glyph : Tree := (.call 0 [(.o1 .agg (.cons (.o1 (.proj 0) (.v 0)) (.cons (.o1 (.proj 1) (.v 0)) .nil)))]
  (.br (.o1 .no (.o1 (.proj 1) (.v 2)))
    (.ret (.int (-1)))
    (.br (.o2 .lti (.v 1) (.int 0))
      (.ret (.int (-1)))
      (.br (.o2 .lti (.int 1000000) (.v 1))
        (.ret (.int (-1)))
        (.br (.o2 .lei (.o1 .len (.o1 (.proj 0) (.v 0))) (.v 1))
          (.ret (.o2 (.sub .i64) (.o2 (.add .i64) (.o1 (.proj 0) (.v 2)) (.v 1)) (.o1 .len (.o1 (.proj 0) (.v 0)))))
          (.req (.o2 .lei (.int 0) (.v 1)) (.req (.o2 .lti (.v 1) (.o1 .len (.o1 (.proj 1) (.v 0)))) (.ret (.o2 .idx (.o1 (.proj 1) (.v 0)) (.v 1))))))))))
set_option maxRecDepth 100000 in
theorem ztt : za4 cx_brailleline_Glyph 4 sg_brailleline_Glyph Tryz.f16 (Tryz.f16.body.getD .skip) = tr_brailleline_Glyph := by kernel_rfl
theorem zt1 {Γ : CEnv} (hg : ∀ n, Γ.glob n = globT n) (hs : ∀ s ∈ cx_brailleline_Glyph.sigs, Contract Tryz.prog Γ gtab s (Γ.pre s.no) (Γ.post s.no)) : CxOk cx_brailleline_Glyph Γ := ⟨by kernel_rfl, hs, (fun x hx => by cases hx), (fun x hx => by cases hx)⟩
theorem zhe {Γ : CEnv} (hg : ∀ n, Γ.glob n = globT n) (hs : ∀ s ∈ cx_brailleline_Glyph.sigs, Contract Tryz.prog Γ gtab s (Γ.pre s.no) (Γ.post s.no)) (k : Nat) {pre : List TV → Prop} {post : List TV → TV → Prop} (h : ∀ ts, ts.length = 2 → pre ts → tr_brailleline_Glyph.den Γ (post ts) ts []) : Contract Tryz.prog Γ gtab (zby k) pre post :=
  Contract.renum (zas (zt1 hg hs) 4 sg_brailleline_Glyph Tryz.func16 (by kernel_rfl) (by kernel_rfl) fun ts hl hp => by rw [ztt]; exact h ts hl hp) k
end Go.Proofs.YtlhagkbhojmjpaaGreatDoor


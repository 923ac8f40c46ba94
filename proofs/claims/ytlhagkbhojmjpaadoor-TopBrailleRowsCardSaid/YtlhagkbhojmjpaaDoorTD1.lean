/- Written by this repo's own program out of its texts. -/
import Derived.Test.YtlhagkbhojmjpaaDoorTC1
namespace Go.Proofs.YtlhagkbhojmjpaaDoor
set_option linter.unusedVariables false
set_option linter.unusedSimpArgs false
def sg_strings_IndexByte : Sig := ⟨123, 0, [(false, [.str]), (false, [(.int .u8)])], [(false, [((.int .i64), none)])]⟩
def zhg (k : Nat) : Sig := ⟨sg_strings_IndexByte.f, k, sg_strings_IndexByte.args, sg_strings_IndexByte.res⟩
def sg_computerbraille_number : Sig := ⟨93, 0, [(false, [(.slice false [(.int .u8)])])], [(false, [((.int .i32), none)])]⟩
def zcy (k : Nat) : Sig := ⟨sg_computerbraille_number.f, k, sg_computerbraille_number.args, sg_computerbraille_number.res⟩
def zpl : List (FuncId × Nat × Head) := [(93, 3, ⟨[3, 8, 9, 10], [], [10, 3], [], [], []⟩)]
def zpq : List (FuncId × Nat × Nat × Plan) := []
noncomputable def cx_computerbraille_number : Cx := ⟨Tryd.prog, gtab, [zcg 0, zhg 1], [], zpl, zpq, []⟩
def tr_computerbraille_number : Tree := (.loop [(.int 0), (.int 0)]
  (.br (.o2 .lti (.v 2) (.o1 .len (.v 0)))
    (.req (.o2 .lei (.int 0) (.v 2)) (.req (.o2 .lti (.v 2) (.o1 .len (.v 0))) (.call 0 [(.o2 .idx (.v 0) (.v 2))]
      (.br (.o2 .lti (.v 3) (.int 128))
        (.call 1 [(.str [48, 49, 50, 51, 52, 53, 54, 55, 56, 57, 97, 98, 99, 100, 101, 102]), (.o1 (.wrap .u8) (.v 3))]
          (.br (.o2 .lti (.v 4) (.int 0))
            (.ret (.int (-1)))
            (.back 0 [(.o2 (.or .i32) (.o2 (.shl .i32) (.v 1) (.int 4)) (.o1 (.wrap .i32) (.v 4))), (.o2 (.add .i64) (.v 2) (.int 1))])))
        (.ret (.int (-1)))))))
    (.br (.o2 .lei (.int 32) (.v 1))
      (.br (.o2 .lei (.v 1) (.int 126))
        (.ret (.int (-1)))
        (.br (.o2 .lti (.int 1114111) (.v 1))
          (.ret (.int (-1)))
          (.br (.o2 .lei (.int 55296) (.v 1))
            (.br (.o2 .lei (.v 1) (.int 57343))
              (.ret (.int (-1)))
              (.ret (.v 1)))
            (.ret (.v 1)))))
      (.br (.o2 .lti (.int 1114111) (.v 1))
        (.ret (.int (-1)))
        (.br (.o2 .lei (.int 55296) (.v 1))
          (.br (.o2 .lei (.v 1) (.int 57343))
            (.ret (.int (-1)))
            (.ret (.v 1)))
          (.ret (.v 1)))))))
set_option maxRecDepth 100000 in
theorem znx : za4 cx_computerbraille_number 4 sg_computerbraille_number Tryd.f93 (Tryd.f93.body.getD .skip) = tr_computerbraille_number := by kernel_rfl
theorem znz {Γ : CEnv} (hg : ∀ n, Γ.glob n = globT n) (hs : ∀ s ∈ cx_computerbraille_number.sigs, Contract Tryd.prog Γ gtab s (Γ.pre s.no) (Γ.post s.no)) : CxOk cx_computerbraille_number Γ := ⟨by kernel_rfl, hs, (fun x hx => by cases hx), (fun x hx => by cases hx)⟩
theorem zem {Γ : CEnv} (hg : ∀ n, Γ.glob n = globT n) (hs : ∀ s ∈ cx_computerbraille_number.sigs, Contract Tryd.prog Γ gtab s (Γ.pre s.no) (Γ.post s.no)) (k : Nat) {pre : List TV → Prop} {post : List TV → TV → Prop} (h : ∀ ts, ts.length = 1 → pre ts → tr_computerbraille_number.den Γ (post ts) ts []) : Contract Tryd.prog Γ gtab (zcy k) pre post :=
  Contract.renum (zas (znz hg hs) 4 sg_computerbraille_number Tryd.func93 (by kernel_rfl) (by kernel_rfl) fun ts hl hp => by rw [znx]; exact h ts hl hp) k
def sg_computerbraille_Text : Sig := ⟨51, 0, [(false, [(.slice false [(.int .u8)])])], [(false, [(.str, none)]), (false, [((.int .i64), none)])]⟩
def zce (k : Nat) : Sig := ⟨sg_computerbraille_Text.f, k, sg_computerbraille_Text.args, sg_computerbraille_Text.res⟩
def zth : List (FuncId × Nat × Head) := [(51, 2, ⟨[0, 4], [.slot 4 true 21 false [(.int .i32)]], [0], [0], [], []⟩)]
def ztg : List (FuncId × Nat × Nat × Plan) := []
noncomputable def cx_computerbraille_Text : Cx := ⟨Tryd.prog, gtab, [zci 0, zcg 1, zcy 2], [], zth, ztg, []⟩
def tr_computerbraille_Text : Tree := (.loop [(.v 0), .nil]
  (.br (.o2 .lti (.int 0) (.o1 .len (.v 1)))
    (.req (.o2 .lti (.int 0) (.o1 .len (.v 1))) (.call 1 [(.o2 .idx (.v 1) (.int 0))]
      (.req (.o2 .lti (.int 0) (.o1 .len (.v 1))) (.br (.o2 .eqi (.o2 .idx (.v 1) (.int 0)) (.int 255))
        (.br (.o2 .lti (.o1 .len (.v 1)) (.int 7))
          (.ret (.o1 .agg (.cons (.str []) (.cons (.int 17) .nil))))
          (.req (.o2 .lei (.int 7) (.o1 .len (.v 1))) (.call 2 [(.o3 .sub (.v 1) (.int 1) (.int 7))]
            (.br (.o2 .lti (.v 4) (.int 0))
              (.ret (.o1 .agg (.cons (.str []) (.cons (.int 17) .nil))))
              (.req (.o2 .lei (.o1 .len (.o2 .app (.v 2) (.cons (.v 4) .nil))) (.int 1099511627776)) (.req (.o2 .lei (.int 7) (.o1 .len (.v 1))) (.back 0 [(.o3 .sub (.v 1) (.int 7) (.o1 .len (.v 1))), (.o2 .app (.v 2) (.cons (.v 4) .nil))])))))))
        (.br (.o2 .eqi (.v 3) (.int 65533))
          (.ret (.o1 .agg (.cons (.str []) (.cons (.int 17) .nil))))
          (.req (.o2 .lei (.o1 .len (.o2 .app (.v 2) (.cons (.v 3) .nil))) (.int 1099511627776)) (.req (.o2 .lei (.int 1) (.o1 .len (.v 1))) (.back 0 [(.o3 .sub (.v 1) (.int 1) (.o1 .len (.v 1))), (.o2 .app (.v 2) (.cons (.v 3) .nil))]))))))))
    (.call 0 [(.v 2)]
      (.ret (.o1 .agg (.cons (.v 3) (.cons (.int 0) .nil)))))))
set_option maxRecDepth 100000 in
theorem zp1 : za4 cx_computerbraille_Text 4 sg_computerbraille_Text Tryd.f51 (Tryd.f51.body.getD .skip) = tr_computerbraille_Text := by kernel_rfl
theorem zpx {Γ : CEnv} (hg : ∀ n, Γ.glob n = globT n) (hs : ∀ s ∈ cx_computerbraille_Text.sigs, Contract Tryd.prog Γ gtab s (Γ.pre s.no) (Γ.post s.no)) : CxOk cx_computerbraille_Text Γ := ⟨by kernel_rfl, hs, (fun x hx => by cases hx), (fun x hx => by cases hx)⟩
theorem zfj {Γ : CEnv} (hg : ∀ n, Γ.glob n = globT n) (hs : ∀ s ∈ cx_computerbraille_Text.sigs, Contract Tryd.prog Γ gtab s (Γ.pre s.no) (Γ.post s.no)) (k : Nat) {pre : List TV → Prop} {post : List TV → TV → Prop} (h : ∀ ts, ts.length = 1 → pre ts → tr_computerbraille_Text.den Γ (post ts) ts []) : Contract Tryd.prog Γ gtab (zce k) pre post :=
  Contract.renum (zas (zpx hg hs) 4 sg_computerbraille_Text Tryd.func51 (by kernel_rfl) (by kernel_rfl) fun ts hl hp => by rw [zp1]; exact h ts hl hp) k
end Go.Proofs.YtlhagkbhojmjpaaDoor


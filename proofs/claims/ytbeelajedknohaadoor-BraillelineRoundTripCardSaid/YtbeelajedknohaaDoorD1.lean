/- Written by a program of ours (Gen): the trees of the symbolic runs of functions, and their contracts' frames. -/
import Derived.Test.YtbeelajedknohaaDoorC1
namespace Go.Proofs.YtbeelajedknohaaDoor
set_option linter.unusedVariables false
set_option linter.unusedSimpArgs false
def sg_strings_IndexByte : Sig := ⟨94, 0, [(false, [.str]), (false, [(.int .u8)])], [(false, [((.int .i64), none)])]⟩
def zhg (k : Nat) : Sig := ⟨sg_strings_IndexByte.f, k, sg_strings_IndexByte.args, sg_strings_IndexByte.res⟩

def sg_computerbraille_number : Sig := ⟨64, 0, [(false, [(.slice false [(.int .u8)])])], [(false, [((.int .i32), none)])]⟩
def zcy (k : Nat) : Sig := ⟨sg_computerbraille_number.f, k, sg_computerbraille_number.args, sg_computerbraille_number.res⟩
def zpl : List (FuncId × Nat × Head) := [(64, 3, ⟨[3, 8, 9, 10], [], [10, 3], [], [], []⟩)]
def zpq : List (FuncId × Nat × Nat × Plan) := []
noncomputable def cx_computerbraille_number : Cx := ⟨Tryd.prog, gtab, [zhg 0, zcg 1], [], zpl, zpq, []⟩
def tr_computerbraille_number : Tree := (.loop [(.int 0), (.int 0)]
  (.br (.o2 .lti (.v 2) (.o1 .len (.v 0)))
    (.req (.o2 .lei (.int 0) (.v 2)) (.req (.o2 .lti (.v 2) (.o1 .len (.v 0))) (.call 1 [(.o2 .idx (.v 0) (.v 2))]
      (.br (.o2 .lti (.v 3) (.int 128))
        (.call 0 [(.str [48, 49, 50, 51, 52, 53, 54, 55, 56, 57, 97, 98, 99, 100, 101, 102]), (.o1 (.wrap .u8) (.v 3))]
          (.br (.o2 .lti (.v 4) (.int 0))
            (.ret (.int (-1)))
            (.back 0 [(.o2 (.or .i32) (.o2 (.shl .i32) (.v 1) (.int 4)) (.o1 (.wrap .i32) (.v 4))), (.o2 (.add .i64) (.v 2) (.int 1))])))
        (.ret (.int (-1)))))))
    (.br (.o2 .lei (.int 32) (.v 1))
      (.br (.o2 .lei (.v 1) (.int 126))
        (.ret (.int (-1)))
        (.br (.o2 .lti (.int 1114111) (.v 1))
          (.ret (.int (-1)))
          (.br (.o2 .lei (.int 55296) (.v 1))
            (.br (.o2 .lei (.v 1) (.int 57343))
              (.ret (.int (-1)))
              (.ret (.v 1)))
            (.ret (.v 1)))))
      (.br (.o2 .lti (.int 1114111) (.v 1))
        (.ret (.int (-1)))
        (.br (.o2 .lei (.int 55296) (.v 1))
          (.br (.o2 .lei (.v 1) (.int 57343))
            (.ret (.int (-1)))
            (.ret (.v 1)))
          (.ret (.v 1)))))))
set_option maxRecDepth 100000 in
theorem znx : za4 cx_computerbraille_number 4 sg_computerbraille_number Tryd.f64 (Tryd.f64.body.getD .skip) = tr_computerbraille_number := by kernel_rfl
theorem znz {Γ : CEnv} (hg : ∀ n, Γ.glob n = globT n) (hs : ∀ s ∈ cx_computerbraille_number.sigs, Contract Tryd.prog Γ gtab s (Γ.pre s.no) (Γ.post s.no)) : CxOk cx_computerbraille_number Γ := ⟨by kernel_rfl, hs, (fun x hx => by cases hx), (fun x hx => by cases hx)⟩
theorem zem {Γ : CEnv} (hg : ∀ n, Γ.glob n = globT n) (hs : ∀ s ∈ cx_computerbraille_number.sigs, Contract Tryd.prog Γ gtab s (Γ.pre s.no) (Γ.post s.no)) (k : Nat) {pre : List TV → Prop} {post : List TV → TV → Prop} (h : ∀ ts, ts.length = 1 → pre ts → tr_computerbraille_number.den Γ (post ts) ts []) : Contract Tryd.prog Γ gtab (zcy k) pre post :=
  Contract.renum (zas (znz hg hs) 4 sg_computerbraille_number Tryd.func64 (by kernel_rfl) (by kernel_rfl) fun ts hl hp => by rw [znx]; exact h ts hl hp) k

def sg_computerbraille_Text : Sig := ⟨36, 0, [(false, [(.slice false [(.int .u8)])])], [(false, [(.str, none)]), (false, [((.int .i64), none)])]⟩
def zce (k : Nat) : Sig := ⟨sg_computerbraille_Text.f, k, sg_computerbraille_Text.args, sg_computerbraille_Text.res⟩
def zth : List (FuncId × Nat × Head) := [(36, 2, ⟨[0, 4], [.slot 4 true 21 false [(.int .i32)]], [0], [0], [], []⟩)]
def ztg : List (FuncId × Nat × Nat × Plan) := []
noncomputable def cx_computerbraille_Text : Cx := ⟨Tryd.prog, gtab, [zci 0, zcg 1, zcy 2], [], zth, ztg, []⟩
def tr_computerbraille_Text : Tree := (.loop [(.v 0), .nil]
  (.br (.o2 .lti (.int 0) (.o1 .len (.v 1)))
    (.req (.o2 .lti (.int 0) (.o1 .len (.v 1))) (.call 1 [(.o2 .idx (.v 1) (.int 0))]
      (.req (.o2 .lti (.int 0) (.o1 .len (.v 1))) (.br (.o2 .eqi (.o2 .idx (.v 1) (.int 0)) (.int 255))
        (.br (.o2 .lti (.o1 .len (.v 1)) (.int 7))
          (.ret (.o1 .agg (.cons (.str []) (.cons (.int 17) .nil))))
          (.req (.o2 .lei (.int 7) (.o1 .len (.v 1))) (.call 2 [(.o3 .sub (.v 1) (.int 1) (.int 7))]
            (.br (.o2 .lti (.v 4) (.int 0))
              (.ret (.o1 .agg (.cons (.str []) (.cons (.int 17) .nil))))
              (.req (.o2 .lei (.o1 .len (.o2 .app (.v 2) (.cons (.v 4) .nil))) (.int 1099511627776)) (.req (.o2 .lei (.int 7) (.o1 .len (.v 1))) (.back 0 [(.o3 .sub (.v 1) (.int 7) (.o1 .len (.v 1))), (.o2 .app (.v 2) (.cons (.v 4) .nil))])))))))
        (.br (.o2 .eqi (.v 3) (.int 65533))
          (.ret (.o1 .agg (.cons (.str []) (.cons (.int 17) .nil))))
          (.req (.o2 .lei (.o1 .len (.o2 .app (.v 2) (.cons (.v 3) .nil))) (.int 1099511627776)) (.req (.o2 .lei (.int 1) (.o1 .len (.v 1))) (.back 0 [(.o3 .sub (.v 1) (.int 1) (.o1 .len (.v 1))), (.o2 .app (.v 2) (.cons (.v 3) .nil))]))))))))
    (.call 0 [(.v 2)]
      (.ret (.o1 .agg (.cons (.v 3) (.cons (.int 0) .nil)))))))
set_option maxRecDepth 100000 in
theorem zp1 : za4 cx_computerbraille_Text 4 sg_computerbraille_Text Tryd.f36 (Tryd.f36.body.getD .skip) = tr_computerbraille_Text := by kernel_rfl
theorem zpx {Γ : CEnv} (hg : ∀ n, Γ.glob n = globT n) (hs : ∀ s ∈ cx_computerbraille_Text.sigs, Contract Tryd.prog Γ gtab s (Γ.pre s.no) (Γ.post s.no)) : CxOk cx_computerbraille_Text Γ := ⟨by kernel_rfl, hs, (fun x hx => by cases hx), (fun x hx => by cases hx)⟩
theorem zfj {Γ : CEnv} (hg : ∀ n, Γ.glob n = globT n) (hs : ∀ s ∈ cx_computerbraille_Text.sigs, Contract Tryd.prog Γ gtab s (Γ.pre s.no) (Γ.post s.no)) (k : Nat) {pre : List TV → Prop} {post : List TV → TV → Prop} (h : ∀ ts, ts.length = 1 → pre ts → tr_computerbraille_Text.den Γ (post ts) ts []) : Contract Tryd.prog Γ gtab (zce k) pre post :=
  Contract.renum (zas (zpx hg hs) 4 sg_computerbraille_Text Tryd.func36 (by kernel_rfl) (by kernel_rfl) fun ts hl hp => by rw [zp1]; exact h ts hl hp) k

def sg_ref51_digit : Sig := ⟨78, 0, [(false, [(.int .u8)])], [(false, [((.int .i32), none)])]⟩
def zkn (k : Nat) : Sig := ⟨sg_ref51_digit.f, k, sg_ref51_digit.args, sg_ref51_digit.res⟩
def hd_ref51_digit : List (FuncId × Nat × Head) := []
def pl_ref51_digit : List (FuncId × Nat × Nat × Plan) := []
noncomputable def cx_ref51_digit : Cx := ⟨Tryd.prog, gtab, [zir 0], [], hd_ref51_digit, pl_ref51_digit, []⟩
def tr_ref51_digit : Tree := (.call 0 [(.v 0)]
  (.br (.o2 .lei (.int 48) (.v 1))
    (.br (.o2 .lei (.v 1) (.int 57))
      (.ret (.o2 (.sub .i32) (.v 1) (.int 48)))
      (.br (.o2 .lei (.int 97) (.v 1))
        (.br (.o2 .lei (.v 1) (.int 102))
          (.ret (.o2 (.add .i32) (.o2 (.sub .i32) (.v 1) (.int 97)) (.int 10)))
          (.ret (.int (-1))))
        (.ret (.int (-1)))))
    (.br (.o2 .lei (.int 97) (.v 1))
      (.br (.o2 .lei (.v 1) (.int 102))
        (.ret (.o2 (.add .i32) (.o2 (.sub .i32) (.v 1) (.int 97)) (.int 10)))
        (.ret (.int (-1))))
      (.ret (.int (-1))))))
set_option maxRecDepth 100000 in
theorem z56 : za4 cx_ref51_digit 4 sg_ref51_digit Tryd.f78 (Tryd.f78.body.getD .skip) = tr_ref51_digit := by kernel_rfl
theorem z5r {Γ : CEnv} (hg : ∀ n, Γ.glob n = globT n) (hs : ∀ s ∈ cx_ref51_digit.sigs, Contract Tryd.prog Γ gtab s (Γ.pre s.no) (Γ.post s.no)) : CxOk cx_ref51_digit Γ := ⟨by kernel_rfl, hs, (fun x hx => by cases hx), (fun x hx => by cases hx)⟩
theorem zl7 {Γ : CEnv} (hg : ∀ n, Γ.glob n = globT n) (hs : ∀ s ∈ cx_ref51_digit.sigs, Contract Tryd.prog Γ gtab s (Γ.pre s.no) (Γ.post s.no)) (k : Nat) {pre : List TV → Prop} {post : List TV → TV → Prop} (h : ∀ ts, ts.length = 1 → pre ts → tr_ref51_digit.den Γ (post ts) ts []) : Contract Tryd.prog Γ gtab (zkn k) pre post :=
  Contract.renum (zas (z5r hg hs) 4 sg_ref51_digit Tryd.func78 (by kernel_rfl) (by kernel_rfl) fun ts hl hp => by rw [z56]; exact h ts hl hp) k

def sg_ref51_Text : Sig := ⟨44, 0, [(false, [(.slice false [(.int .u8)])])], [(false, [(.str, none)]), (false, [((.int .i64), none)])]⟩
def zjb (k : Nat) : Sig := ⟨sg_ref51_Text.f, k, sg_ref51_Text.args, sg_ref51_Text.res⟩
def hd_ref51_Text : List (FuncId × Nat × Head) := [(44, 3, ⟨[0, 4, 5], [.slot 4 true 21 false [(.int .i32)]], [5], [0], [], []⟩), (44, 14, ⟨[0, 4, 5, 7, 8], [.slot 4 true 21 false [(.int .i32)]], [8, 7], [], [], []⟩)]
def pl_ref51_Text : List (FuncId × Nat × Nat × Plan) := []
noncomputable def cx_ref51_Text : Cx := ⟨Tryd.prog, gtab, [zdo 0, zg0 1, zir 2, zkn 3], [], hd_ref51_Text, pl_ref51_Text, []⟩
def tr_ref51_Text : Tree := (.loop [(.int 0), .nil]
  (.br (.o2 .lti (.v 1) (.o1 .len (.v 0)))
    (.req (.o2 .lei (.int 0) (.v 1)) (.req (.o2 .lti (.v 1) (.o1 .len (.v 0))) (.br (.o1 .no (.o2 .eqi (.o2 .idx (.v 0) (.v 1)) (.int 255)))
      (.req (.o2 .lei (.int 0) (.v 1)) (.req (.o2 .lti (.v 1) (.o1 .len (.v 0))) (.call 2 [(.o2 .idx (.v 0) (.v 1))]
        (.br (.o2 .eqi (.v 3) (.int 65533))
          (.ret (.o1 .agg (.cons (.str []) (.cons (.int 17) .nil))))
          (.req (.o2 .lei (.o1 .len (.o2 .app (.v 2) (.cons (.v 3) .nil))) (.int 1099511627776)) (.back 0 [(.o2 (.add .i64) (.v 1) (.int 1)), (.o2 .app (.v 2) (.cons (.v 3) .nil))]))))))
      (.br (.o2 .lei (.o1 .len (.v 0)) (.o2 (.add .i64) (.v 1) (.int 6)))
        (.ret (.o1 .agg (.cons (.str []) (.cons (.int 17) .nil))))
        (.loop [(.int 0), (.int 1)]
          (.br (.o2 .lti (.v 4) (.int 7))
            (.req (.o2 .lei (.int 0) (.o2 (.add .i64) (.v 1) (.v 4))) (.req (.o2 .lti (.o2 (.add .i64) (.v 1) (.v 4)) (.o1 .len (.v 0))) (.call 3 [(.o2 .idx (.v 0) (.o2 (.add .i64) (.v 1) (.v 4)))]
              (.br (.o2 .lti (.v 5) (.int 0))
                (.ret (.o1 .agg (.cons (.str []) (.cons (.int 17) .nil))))
                (.back 1 [(.o2 (.add .i32) (.o2 (.mul .i32) (.int 16) (.v 3)) (.v 5)), (.o2 (.add .i64) (.v 4) (.int 1))])))))
            (.call 1 [(.v 3)]
              (.br (.o1 (.proj 1) (.v 5))
                (.ret (.o1 .agg (.cons (.str []) (.cons (.int 17) .nil))))
                (.br (.o2 .lti (.int 1114111) (.v 3))
                  (.ret (.o1 .agg (.cons (.str []) (.cons (.int 17) .nil))))
                  (.br (.o2 .lei (.int 55296) (.v 3))
                    (.br (.o2 .lei (.v 3) (.int 57343))
                      (.ret (.o1 .agg (.cons (.str []) (.cons (.int 17) .nil))))
                      (.req (.o2 .lei (.o1 .len (.o2 .app (.v 2) (.cons (.v 3) .nil))) (.int 1099511627776)) (.back 0 [(.o2 (.add .i64) (.o2 (.add .i64) (.v 1) (.int 6)) (.int 1)), (.o2 .app (.v 2) (.cons (.v 3) .nil))])))
                    (.req (.o2 .lei (.o1 .len (.o2 .app (.v 2) (.cons (.v 3) .nil))) (.int 1099511627776)) (.back 0 [(.o2 (.add .i64) (.o2 (.add .i64) (.v 1) (.int 6)) (.int 1)), (.o2 .app (.v 2) (.cons (.v 3) .nil))]))))))))))))
    (.call 0 [(.v 2)]
      (.ret (.o1 .agg (.cons (.v 3) (.cons (.int 0) .nil)))))))
set_option maxRecDepth 100000 in
theorem z91 : za4 cx_ref51_Text 4 sg_ref51_Text Tryd.f44 (Tryd.f44.body.getD .skip) = tr_ref51_Text := by kernel_rfl
theorem z8a {Γ : CEnv} (hg : ∀ n, Γ.glob n = globT n) (hs : ∀ s ∈ cx_ref51_Text.sigs, Contract Tryd.prog Γ gtab s (Γ.pre s.no) (Γ.post s.no)) : CxOk cx_ref51_Text Γ := ⟨by kernel_rfl, hs, (fun x hx => by cases hx), (fun x hx => by cases hx)⟩
theorem zn6 {Γ : CEnv} (hg : ∀ n, Γ.glob n = globT n) (hs : ∀ s ∈ cx_ref51_Text.sigs, Contract Tryd.prog Γ gtab s (Γ.pre s.no) (Γ.post s.no)) (k : Nat) {pre : List TV → Prop} {post : List TV → TV → Prop} (h : ∀ ts, ts.length = 1 → pre ts → tr_ref51_Text.den Γ (post ts) ts []) : Contract Tryd.prog Γ gtab (zjb k) pre post :=
  Contract.renum (zas (z8a hg hs) 4 sg_ref51_Text Tryd.func44 (by kernel_rfl) (by kernel_rfl) fun ts hl hp => by rw [z91]; exact h ts hl hp) k
end Go.Proofs.YtbeelajedknohaaDoor

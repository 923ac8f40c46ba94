/- Written by a program of ours (Gen): the trees of the symbolic runs of functions, and their contracts' frames. -/
import Derived.Test.YtlhagkbhojmjpaaDoorW1
namespace Go.Proofs.YtlhagkbhojmjpaaDoor
set_option linter.unusedVariables false
set_option linter.unusedSimpArgs false

def sg_utf8stream_Valid : Sig := ⟨111, 0, [(false, [.str])], [(false, [(.bool, none)])]⟩
def zcr (k : Nat) : Sig := ⟨sg_utf8stream_Valid.f, k, sg_utf8stream_Valid.args, sg_utf8stream_Valid.res⟩
def zy0 : List (FuncId × Nat × Head) := []
def zyn : List (FuncId × Nat × Nat × Plan) := []
noncomputable def cx_utf8stream_Valid : Cx := ⟨Tryd.prog, gtabU, [zdi 0], [], zy0, zyn, []⟩
def tr_utf8stream_Valid : Tree := (.call 0 [(.v 0)]
  (.ret (.v 1)))
set_option maxRecDepth 100000 in
theorem zwm : za4 cx_utf8stream_Valid 4 sg_utf8stream_Valid Tryd.f111 (Tryd.f111.body.getD .skip) = tr_utf8stream_Valid := by kernel_rfl
theorem zwq {Γ : CEnv} (hg : ∀ n, Γ.glob n = globT n) (hs : ∀ s ∈ cx_utf8stream_Valid.sigs, Contract Tryd.prog Γ gtabU s (Γ.pre s.no) (Γ.post s.no)) : CxOk cx_utf8stream_Valid Γ := ⟨by kernel_rfl, hs, (fun x hx => by cases hx), (fun x hx => by cases hx)⟩
theorem zee {Γ : CEnv} (hg : ∀ n, Γ.glob n = globT n) (hs : ∀ s ∈ cx_utf8stream_Valid.sigs, Contract Tryd.prog Γ gtabU s (Γ.pre s.no) (Γ.post s.no)) (k : Nat) {pre : List TV → Prop} {post : List TV → TV → Prop} (h : ∀ ts, ts.length = 1 → pre ts → tr_utf8stream_Valid.den Γ (post ts) ts []) : Contract Tryd.prog Γ gtabU (zcr k) pre post :=
  Contract.renum (zas (zwq hg hs) 4 sg_utf8stream_Valid Tryd.func111 (by kernel_rfl) (by kernel_rfl) fun ts hl hp => by rw [zwm]; exact h ts hl hp) k

def sg_ref01_Valid : Sig := ⟨107, 0, [(false, [.str])], [(false, [(.bool, none)])]⟩
def zkl (k : Nat) : Sig := ⟨sg_ref01_Valid.f, k, sg_ref01_Valid.args, sg_ref01_Valid.res⟩
def hd_ref01_Valid : List (FuncId × Nat × Head) := []
def pl_ref01_Valid : List (FuncId × Nat × Nat × Plan) := []
noncomputable def cx_ref01_Valid : Cx := ⟨Tryd.prog, gtabU, [zdg 0, zdo 1], [], hd_ref01_Valid, pl_ref01_Valid, []⟩
def tr_ref01_Valid : Tree := (.call 0 [(.str []), (.v 0)]
  (.br (.o2 .eqs (.o1 (.proj 1) (.v 1)) (.str []))
    (.call 1 [(.o1 (.proj 0) (.v 1))]
      (.ret (.o2 .eqs (.v 2) (.v 0))))
    (.ret (.bool false))))
set_option maxRecDepth 100000 in
theorem z5s : za4 cx_ref01_Valid 4 sg_ref01_Valid Tryd.f107 (Tryd.f107.body.getD .skip) = tr_ref01_Valid := by kernel_rfl
theorem z52 {Γ : CEnv} (hg : ∀ n, Γ.glob n = globT n) (hs : ∀ s ∈ cx_ref01_Valid.sigs, Contract Tryd.prog Γ gtabU s (Γ.pre s.no) (Γ.post s.no)) : CxOk cx_ref01_Valid Γ := ⟨by kernel_rfl, hs, (fun x hx => by cases hx), (fun x hx => by cases hx)⟩
theorem zlw {Γ : CEnv} (hg : ∀ n, Γ.glob n = globT n) (hs : ∀ s ∈ cx_ref01_Valid.sigs, Contract Tryd.prog Γ gtabU s (Γ.pre s.no) (Γ.post s.no)) (k : Nat) {pre : List TV → Prop} {post : List TV → TV → Prop} (h : ∀ ts, ts.length = 1 → pre ts → tr_ref01_Valid.den Γ (post ts) ts []) : Contract Tryd.prog Γ gtabU (zkl k) pre post :=
  Contract.renum (zas (z52 hg hs) 4 sg_ref01_Valid Tryd.func107 (by kernel_rfl) (by kernel_rfl) fun ts hl hp => by rw [z5s]; exact h ts hl hp) k

def sg_cluster_marked : Sig := ⟨112, 0, [(false, [(.slice false [(.int .i32)])])], [(false, [(.bool, none)])]⟩
def zgi (k : Nat) : Sig := ⟨sg_cluster_marked.f, k, sg_cluster_marked.args, sg_cluster_marked.res⟩
def z4v : List (FuncId × Nat × Head) := [(112, 2, ⟨[5, 6, 7], [], [7], [], [], []⟩)]
def z24 : List (FuncId × Nat × Nat × Plan) := []
noncomputable def cx_cluster_marked : Cx := ⟨Tryd.prog, gtabU, [zet 0], [], z4v, z24, []⟩
def tr_cluster_marked : Tree := (.loop [(.int 0)]
  (.br (.o2 .lti (.v 1) (.o1 .len (.v 0)))
    (.req (.o2 .lei (.int 0) (.v 1)) (.req (.o2 .lti (.v 1) (.o1 .len (.v 0))) (.call 0 [(.o2 .idx (.v 0) (.v 1))]
      (.br (.o1 .no (.v 2))
        (.ret (.bool false))
        (.back 0 [(.o2 (.add .i64) (.v 1) (.int 1))])))))
    (.ret (.bool true))))
set_option maxRecDepth 100000 in
theorem zz7 : za4 cx_cluster_marked 4 sg_cluster_marked Tryd.f112 (Tryd.f112.body.getD .skip) = tr_cluster_marked := by kernel_rfl
theorem zzf {Γ : CEnv} (hg : ∀ n, Γ.glob n = globT n) (hs : ∀ s ∈ cx_cluster_marked.sigs, Contract Tryd.prog Γ gtabU s (Γ.pre s.no) (Γ.post s.no)) : CxOk cx_cluster_marked Γ := ⟨by kernel_rfl, hs, (fun x hx => by cases hx), (fun x hx => by cases hx)⟩
theorem zjm {Γ : CEnv} (hg : ∀ n, Γ.glob n = globT n) (hs : ∀ s ∈ cx_cluster_marked.sigs, Contract Tryd.prog Γ gtabU s (Γ.pre s.no) (Γ.post s.no)) (k : Nat) {pre : List TV → Prop} {post : List TV → TV → Prop} (h : ∀ ts, ts.length = 1 → pre ts → tr_cluster_marked.den Γ (post ts) ts []) : Contract Tryd.prog Γ gtabU (zgi k) pre post :=
  Contract.renum (zas (zzf hg hs) 4 sg_cluster_marked Tryd.func112 (by kernel_rfl) (by kernel_rfl) fun ts hl hp => by rw [zz7]; exact h ts hl hp) k

def sg_cluster_Check : Sig := ⟨67, 0, [(false, [.str])], [(false, [((.int .i64), none)])]⟩
def zh7 (k : Nat) : Sig := ⟨sg_cluster_Check.f, k, sg_cluster_Check.args, sg_cluster_Check.res⟩
def z5t : List (FuncId × Nat × Head) := []
def z5o : List (FuncId × Nat × Nat × Plan) := []
noncomputable def cx_cluster_Check : Cx := ⟨Tryd.prog, gtabU, [zcc 0, zcr 1, zgi 2], [], z5t, z5o, []⟩
def tr_cluster_Check : Tree := (.br (.o2 .eqs (.v 0) (.str []))
  (.ret (.int 3))
  (.call 1 [(.v 0)]
    (.br (.o1 .no (.v 1))
      (.ret (.int 3))
      (.req (.o2 .lei (.o1 .slen (.v 0)) (.int 1099511627776)) (.req (.o2 .lti (.int 0) (.o1 .len (.o1 .runesOf (.v 0)))) (.call 0 [(.o2 .idx (.o1 .runesOf (.v 0)) (.int 0))]
        (.br (.o2 .lti (.v 2) (.int 1))
          (.ret (.int 9))
          (.req (.o2 .lei (.int 1) (.o1 .len (.o1 .runesOf (.v 0)))) (.call 2 [(.o3 .sub (.o1 .runesOf (.v 0)) (.int 1) (.o1 .len (.o1 .runesOf (.v 0))))]
            (.br (.o1 .no (.v 3))
              (.ret (.int 9))
              (.br (.o2 .lti (.int 3) (.o2 (.sub .i64) (.o1 .len (.o1 .runesOf (.v 0))) (.int 1)))
                (.ret (.int 5))
                (.ret (.int 0)))))))))))))
set_option maxRecDepth 100000 in
theorem z1b : za4 cx_cluster_Check 4 sg_cluster_Check Tryd.f67 (Tryd.f67.body.getD .skip) = tr_cluster_Check := by kernel_rfl
theorem zz9 {Γ : CEnv} (hg : ∀ n, Γ.glob n = globT n) (hs : ∀ s ∈ cx_cluster_Check.sigs, Contract Tryd.prog Γ gtabU s (Γ.pre s.no) (Γ.post s.no)) : CxOk cx_cluster_Check Γ := ⟨by kernel_rfl, hs, (fun x hx => by cases hx), (fun x hx => by cases hx)⟩
theorem zju {Γ : CEnv} (hg : ∀ n, Γ.glob n = globT n) (hs : ∀ s ∈ cx_cluster_Check.sigs, Contract Tryd.prog Γ gtabU s (Γ.pre s.no) (Γ.post s.no)) (k : Nat) {pre : List TV → Prop} {post : List TV → TV → Prop} (h : ∀ ts, ts.length = 1 → pre ts → tr_cluster_Check.den Γ (post ts) ts []) : Contract Tryd.prog Γ gtabU (zh7 k) pre post :=
  Contract.renum (zas (zz9 hg hs) 4 sg_cluster_Check Tryd.func67 (by kernel_rfl) (by kernel_rfl) fun ts hl hp => by rw [z1b]; exact h ts hl hp) k

def sg_cluster_runes : Sig := ⟨35, 0, [(false, [.str])], [(false, [((.slice false [(.int .i32)]), some 21)])]⟩
def zh3 (k : Nat) : Sig := ⟨sg_cluster_runes.f, k, sg_cluster_runes.args, sg_cluster_runes.res⟩
def z6u : List (FuncId × Nat × Head) := []
def z6m : List (FuncId × Nat × Nat × Plan) := []
noncomputable def cx_cluster_runes : Cx := ⟨Tryd.prog, gtabU, [zh7 0], [], z6u, z6m, []⟩
def tr_cluster_runes : Tree := (.call 0 [(.v 0)]
  (.br (.o1 .no (.o2 .eqi (.v 1) (.int 0)))
    (.ret .nil)
    (.req (.o2 .lei (.o1 .slen (.v 0)) (.int 1099511627776)) (.ret (.o1 .runesOf (.v 0))))))
set_option maxRecDepth 100000 in
theorem z13 : za4 cx_cluster_runes 4 sg_cluster_runes Tryd.f35 (Tryd.f35.body.getD .skip) = tr_cluster_runes := by kernel_rfl
theorem z2l {Γ : CEnv} (hg : ∀ n, Γ.glob n = globT n) (hs : ∀ s ∈ cx_cluster_runes.sigs, Contract Tryd.prog Γ gtabU s (Γ.pre s.no) (Γ.post s.no)) : CxOk cx_cluster_runes Γ := ⟨by kernel_rfl, hs, (fun x hx => by cases hx), (fun x hx => by cases hx)⟩
theorem zjv {Γ : CEnv} (hg : ∀ n, Γ.glob n = globT n) (hs : ∀ s ∈ cx_cluster_runes.sigs, Contract Tryd.prog Γ gtabU s (Γ.pre s.no) (Γ.post s.no)) (k : Nat) {pre : List TV → Prop} {post : List TV → TV → Prop} (h : ∀ ts, ts.length = 1 → pre ts → tr_cluster_runes.den Γ (post ts) ts []) : Contract Tryd.prog Γ gtabU (zh3 k) pre post :=
  Contract.renum (zas (z2l hg hs) 4 sg_cluster_runes Tryd.func35 (by kernel_rfl) (by kernel_rfl) fun ts hl hp => by rw [z13]; exact h ts hl hp) k

def sg_cluster_Width : Sig := ⟨14, 0, [(false, [.str])], [(false, [((.int .i64), none)])]⟩
def zh6 (k : Nat) : Sig := ⟨sg_cluster_Width.f, k, sg_cluster_Width.args, sg_cluster_Width.res⟩
def z51 : List (FuncId × Nat × Head) := []
def z6f : List (FuncId × Nat × Nat × Plan) := []
noncomputable def cx_cluster_Width : Cx := ⟨Tryd.prog, gtabU, [zcc 0, zh3 1], [], z51, z6f, []⟩
def tr_cluster_Width : Tree := (.call 1 [(.v 0)]
  (.br (.o2 .lti (.int 0) (.o1 .len (.v 1)))
    (.req (.o2 .lti (.int 0) (.o1 .len (.v 1))) (.call 0 [(.o2 .idx (.v 1) (.int 0))]
      (.ret (.v 2))))
    (.ret (.int 0))))
set_option maxRecDepth 100000 in
theorem z15 : za4 cx_cluster_Width 4 sg_cluster_Width Tryd.f14 (Tryd.f14.body.getD .skip) = tr_cluster_Width := by kernel_rfl
theorem z08 {Γ : CEnv} (hg : ∀ n, Γ.glob n = globT n) (hs : ∀ s ∈ cx_cluster_Width.sigs, Contract Tryd.prog Γ gtabU s (Γ.pre s.no) (Γ.post s.no)) : CxOk cx_cluster_Width Γ := ⟨by kernel_rfl, hs, (fun x hx => by cases hx), (fun x hx => by cases hx)⟩
theorem zjr {Γ : CEnv} (hg : ∀ n, Γ.glob n = globT n) (hs : ∀ s ∈ cx_cluster_Width.sigs, Contract Tryd.prog Γ gtabU s (Γ.pre s.no) (Γ.post s.no)) (k : Nat) {pre : List TV → Prop} {post : List TV → TV → Prop} (h : ∀ ts, ts.length = 1 → pre ts → tr_cluster_Width.den Γ (post ts) ts []) : Contract Tryd.prog Γ gtabU (zh6 k) pre post :=
  Contract.renum (zas (z08 hg hs) 4 sg_cluster_Width Tryd.func14 (by kernel_rfl) (by kernel_rfl) fun ts hl hp => by rw [z15]; exact h ts hl hp) k

def sg_ref03_Characters : Sig := ⟨108, 0, [(false, [.str])], [(false, [((.slice false [(.int .i32)]), some 21)])]⟩
def zdq (k : Nat) : Sig := ⟨sg_ref03_Characters.f, k, sg_ref03_Characters.args, sg_ref03_Characters.res⟩
def zyl : List (FuncId × Nat × Head) := []
def zzs : List (FuncId × Nat × Nat × Plan) := []
noncomputable def cx_ref03_Characters : Cx := ⟨Tryd.prog, gtabU, [zdg 0], [], zyl, zzs, []⟩
def tr_ref03_Characters : Tree := (.call 0 [(.str []), (.v 0)]
  (.ret (.o1 (.proj 0) (.v 1))))
set_option maxRecDepth 100000 in
theorem zue : za4 cx_ref03_Characters 4 sg_ref03_Characters Tryd.f108 (Tryd.f108.body.getD .skip) = tr_ref03_Characters := by kernel_rfl
theorem zuo {Γ : CEnv} (hg : ∀ n, Γ.glob n = globT n) (hs : ∀ s ∈ cx_ref03_Characters.sigs, Contract Tryd.prog Γ gtabU s (Γ.pre s.no) (Γ.post s.no)) : CxOk cx_ref03_Characters Γ := ⟨by kernel_rfl, hs, (fun x hx => by cases hx), (fun x hx => by cases hx)⟩
theorem zhs {Γ : CEnv} (hg : ∀ n, Γ.glob n = globT n) (hs : ∀ s ∈ cx_ref03_Characters.sigs, Contract Tryd.prog Γ gtabU s (Γ.pre s.no) (Γ.post s.no)) (k : Nat) {pre : List TV → Prop} {post : List TV → TV → Prop} (h : ∀ ts, ts.length = 1 → pre ts → tr_ref03_Characters.den Γ (post ts) ts []) : Contract Tryd.prog Γ gtabU (zdq k) pre post :=
  Contract.renum (zas (zuo hg hs) 4 sg_ref03_Characters Tryd.func108 (by kernel_rfl) (by kernel_rfl) fun ts hl hp => by rw [zue]; exact h ts hl hp) k

def sg_ref03_Check : Sig := ⟨65, 0, [(false, [.str])], [(false, [((.int .i64), none)])]⟩
def zhl (k : Nat) : Sig := ⟨sg_ref03_Check.f, k, sg_ref03_Check.args, sg_ref03_Check.res⟩
def hd_ref03_Check : List (FuncId × Nat × Head) := [(65, 7, ⟨[3, 4], [.slot 3 true 21 false [(.int .i32)]], [4], [], [], []⟩)]
def pl_ref03_Check : List (FuncId × Nat × Nat × Plan) := []
noncomputable def cx_ref03_Check : Cx := ⟨Tryd.prog, gtabU, [zgk 0, zed 1, zkl 2, zdq 3], [], hd_ref03_Check, pl_ref03_Check, []⟩
def tr_ref03_Check : Tree := (.br (.o2 .eqs (.v 0) (.str []))
  (.ret (.int 3))
  (.call 2 [(.v 0)]
    (.br (.o1 .no (.v 1))
      (.ret (.int 3))
      (.call 3 [(.v 0)]
        (.req (.o2 .lti (.int 0) (.o1 .len (.v 2))) (.call 0 [(.o2 .idx (.v 2) (.int 0))]
          (.br (.v 3)
            (.ret (.int 9))
            (.req (.o2 .lti (.int 0) (.o1 .len (.v 2))) (.call 1 [(.o2 .idx (.v 2) (.int 0))]
              (.br (.o2 .lti (.v 4) (.int 1))
                (.ret (.int 9))
                (.loop [(.int 1)]
                  (.br (.o2 .lti (.v 5) (.o1 .len (.v 2)))
                    (.req (.o2 .lei (.int 0) (.v 5)) (.req (.o2 .lti (.v 5) (.o1 .len (.v 2))) (.call 0 [(.o2 .idx (.v 2) (.v 5))]
                      (.br (.o1 .no (.v 6))
                        (.ret (.int 9))
                        (.back 0 [(.o2 (.add .i64) (.v 5) (.int 1))])))))
                    (.br (.o2 .lti (.int 4) (.o1 .len (.v 2)))
                      (.ret (.int 5))
                      (.ret (.int 0)))))))))))))))
set_option maxRecDepth 100000 in
theorem z6w : za4 cx_ref03_Check 4 sg_ref03_Check Tryd.f65 (Tryd.f65.body.getD .skip) = tr_ref03_Check := by kernel_rfl
theorem z50 {Γ : CEnv} (hg : ∀ n, Γ.glob n = globT n) (hs : ∀ s ∈ cx_ref03_Check.sigs, Contract Tryd.prog Γ gtabU s (Γ.pre s.no) (Γ.post s.no)) : CxOk cx_ref03_Check Γ := ⟨by kernel_rfl, hs, (fun x hx => by cases hx), (fun x hx => by cases hx)⟩
theorem zl2 {Γ : CEnv} (hg : ∀ n, Γ.glob n = globT n) (hs : ∀ s ∈ cx_ref03_Check.sigs, Contract Tryd.prog Γ gtabU s (Γ.pre s.no) (Γ.post s.no)) (k : Nat) {pre : List TV → Prop} {post : List TV → TV → Prop} (h : ∀ ts, ts.length = 1 → pre ts → tr_ref03_Check.den Γ (post ts) ts []) : Contract Tryd.prog Γ gtabU (zhl k) pre post :=
  Contract.renum (zas (z50 hg hs) 4 sg_ref03_Check Tryd.func65 (by kernel_rfl) (by kernel_rfl) fun ts hl hp => by rw [z6w]; exact h ts hl hp) k

def sg_ref03_Width : Sig := ⟨66, 0, [(false, [.str])], [(false, [((.int .i64), none)])]⟩
def zhj (k : Nat) : Sig := ⟨sg_ref03_Width.f, k, sg_ref03_Width.args, sg_ref03_Width.res⟩
def hd_ref03_Width : List (FuncId × Nat × Head) := []
def pl_ref03_Width : List (FuncId × Nat × Nat × Plan) := []
noncomputable def cx_ref03_Width : Cx := ⟨Tryd.prog, gtabU, [zed 0, zdq 1, zhl 2], [], hd_ref03_Width, pl_ref03_Width, []⟩
def tr_ref03_Width : Tree := (.call 2 [(.v 0)]
  (.br (.o1 .no (.o2 .eqi (.v 1) (.int 0)))
    (.ret (.int 0))
    (.call 1 [(.v 0)]
      (.req (.o2 .lti (.int 0) (.o1 .len (.v 2))) (.call 0 [(.o2 .idx (.v 2) (.int 0))]
        (.ret (.v 3)))))))
set_option maxRecDepth 100000 in
theorem z5m : za4 cx_ref03_Width 4 sg_ref03_Width Tryd.f66 (Tryd.f66.body.getD .skip) = tr_ref03_Width := by kernel_rfl
theorem z55 {Γ : CEnv} (hg : ∀ n, Γ.glob n = globT n) (hs : ∀ s ∈ cx_ref03_Width.sigs, Contract Tryd.prog Γ gtabU s (Γ.pre s.no) (Γ.post s.no)) : CxOk cx_ref03_Width Γ := ⟨by kernel_rfl, hs, (fun x hx => by cases hx), (fun x hx => by cases hx)⟩
theorem zl9 {Γ : CEnv} (hg : ∀ n, Γ.glob n = globT n) (hs : ∀ s ∈ cx_ref03_Width.sigs, Contract Tryd.prog Γ gtabU s (Γ.pre s.no) (Γ.post s.no)) (k : Nat) {pre : List TV → Prop} {post : List TV → TV → Prop} (h : ∀ ts, ts.length = 1 → pre ts → tr_ref03_Width.den Γ (post ts) ts []) : Contract Tryd.prog Γ gtabU (zhj k) pre post :=
  Contract.renum (zas (z55 hg hs) 4 sg_ref03_Width Tryd.func66 (by kernel_rfl) (by kernel_rfl) fun ts hl hp => by rw [z5m]; exact h ts hl hp) k
end Go.Proofs.YtlhagkbhojmjpaaDoor

/- Written by a program of ours (Gen): the trees of the symbolic runs of functions, and their contracts' frames. -/
import Derived.Test.YtlhagkbhojmjpaaDoorMa
namespace Go.Proofs.YtlhagkbhojmjpaaDoor
set_option linter.unusedVariables false
set_option linter.unusedSimpArgs false
def sg_unicode_utf8_ValidString : Sig := ⟨133, 0, [(false, [.str])], [(false, [(.bool, none)])]⟩
def zdi (k : Nat) : Sig := ⟨sg_unicode_utf8_ValidString.f, k, sg_unicode_utf8_ValidString.args, sg_unicode_utf8_ValidString.res⟩

def sg_utf8stream_begin : Sig := ⟨116, 0, [(false, [(.int .u8)])], [(true, [((.int .i32), none), ((.int .i64), none), ((.int .u8), none), ((.int .u8), none)])]⟩
def ze4 (k : Nat) : Sig := ⟨sg_utf8stream_begin.f, k, sg_utf8stream_begin.args, sg_utf8stream_begin.res⟩
def zyg : List (FuncId × Nat × Head) := []
def zzr : List (FuncId × Nat × Nat × Plan) := []
noncomputable def cx_utf8stream_begin : Cx := ⟨Tryd.prog, gtab, [], [], zyg, zzr, []⟩
def tr_utf8stream_begin : Tree := (.br (.o2 .lei (.int 194) (.v 0))
  (.br (.o2 .lei (.v 0) (.int 223))
    (.br (.o2 .eqi (.v 0) (.int 224))
      (.ret (.o1 .agg (.cons (.o1 (.wrap .i32) (.o2 (.and .u8) (.v 0) (.int 31))) (.cons (.int 1) (.cons (.int 160) (.cons (.int 191) .nil))))))
      (.br (.o2 .eqi (.v 0) (.int 237))
        (.ret (.o1 .agg (.cons (.o1 (.wrap .i32) (.o2 (.and .u8) (.v 0) (.int 31))) (.cons (.int 1) (.cons (.int 128) (.cons (.int 159) .nil))))))
        (.br (.o2 .eqi (.v 0) (.int 240))
          (.ret (.o1 .agg (.cons (.o1 (.wrap .i32) (.o2 (.and .u8) (.v 0) (.int 31))) (.cons (.int 1) (.cons (.int 144) (.cons (.int 191) .nil))))))
          (.br (.o2 .eqi (.v 0) (.int 244))
            (.ret (.o1 .agg (.cons (.o1 (.wrap .i32) (.o2 (.and .u8) (.v 0) (.int 31))) (.cons (.int 1) (.cons (.int 128) (.cons (.int 143) .nil))))))
            (.ret (.o1 .agg (.cons (.o1 (.wrap .i32) (.o2 (.and .u8) (.v 0) (.int 31))) (.cons (.int 1) (.cons (.int 128) (.cons (.int 191) .nil))))))))))
    (.br (.o2 .lei (.int 224) (.v 0))
      (.br (.o2 .lei (.v 0) (.int 239))
        (.br (.o2 .eqi (.v 0) (.int 224))
          (.ret (.o1 .agg (.cons (.o1 (.wrap .i32) (.o2 (.and .u8) (.v 0) (.int 15))) (.cons (.int 2) (.cons (.int 160) (.cons (.int 191) .nil))))))
          (.br (.o2 .eqi (.v 0) (.int 237))
            (.ret (.o1 .agg (.cons (.o1 (.wrap .i32) (.o2 (.and .u8) (.v 0) (.int 15))) (.cons (.int 2) (.cons (.int 128) (.cons (.int 159) .nil))))))
            (.br (.o2 .eqi (.v 0) (.int 240))
              (.ret (.o1 .agg (.cons (.o1 (.wrap .i32) (.o2 (.and .u8) (.v 0) (.int 15))) (.cons (.int 2) (.cons (.int 144) (.cons (.int 191) .nil))))))
              (.br (.o2 .eqi (.v 0) (.int 244))
                (.ret (.o1 .agg (.cons (.o1 (.wrap .i32) (.o2 (.and .u8) (.v 0) (.int 15))) (.cons (.int 2) (.cons (.int 128) (.cons (.int 143) .nil))))))
                (.ret (.o1 .agg (.cons (.o1 (.wrap .i32) (.o2 (.and .u8) (.v 0) (.int 15))) (.cons (.int 2) (.cons (.int 128) (.cons (.int 191) .nil))))))))))
        (.br (.o2 .lei (.int 240) (.v 0))
          (.br (.o2 .lei (.v 0) (.int 244))
            (.br (.o2 .eqi (.v 0) (.int 224))
              (.ret (.o1 .agg (.cons (.o1 (.wrap .i32) (.o2 (.and .u8) (.v 0) (.int 7))) (.cons (.int 3) (.cons (.int 160) (.cons (.int 191) .nil))))))
              (.br (.o2 .eqi (.v 0) (.int 237))
                (.ret (.o1 .agg (.cons (.o1 (.wrap .i32) (.o2 (.and .u8) (.v 0) (.int 7))) (.cons (.int 3) (.cons (.int 128) (.cons (.int 159) .nil))))))
                (.br (.o2 .eqi (.v 0) (.int 240))
                  (.ret (.o1 .agg (.cons (.o1 (.wrap .i32) (.o2 (.and .u8) (.v 0) (.int 7))) (.cons (.int 3) (.cons (.int 144) (.cons (.int 191) .nil))))))
                  (.br (.o2 .eqi (.v 0) (.int 244))
                    (.ret (.o1 .agg (.cons (.o1 (.wrap .i32) (.o2 (.and .u8) (.v 0) (.int 7))) (.cons (.int 3) (.cons (.int 128) (.cons (.int 143) .nil))))))
                    (.ret (.o1 .agg (.cons (.o1 (.wrap .i32) (.o2 (.and .u8) (.v 0) (.int 7))) (.cons (.int 3) (.cons (.int 128) (.cons (.int 191) .nil))))))))))
            (.br (.o2 .eqi (.v 0) (.int 224))
              (.ret (.o1 .agg (.cons (.int 0) (.cons (.int 0) (.cons (.int 160) (.cons (.int 191) .nil))))))
              (.br (.o2 .eqi (.v 0) (.int 237))
                (.ret (.o1 .agg (.cons (.int 0) (.cons (.int 0) (.cons (.int 128) (.cons (.int 159) .nil))))))
                (.br (.o2 .eqi (.v 0) (.int 240))
                  (.ret (.o1 .agg (.cons (.int 0) (.cons (.int 0) (.cons (.int 144) (.cons (.int 191) .nil))))))
                  (.br (.o2 .eqi (.v 0) (.int 244))
                    (.ret (.o1 .agg (.cons (.int 0) (.cons (.int 0) (.cons (.int 128) (.cons (.int 143) .nil))))))
                    (.ret (.o1 .agg (.cons (.int 0) (.cons (.int 0) (.cons (.int 128) (.cons (.int 191) .nil)))))))))))
          (.br (.o2 .eqi (.v 0) (.int 224))
            (.ret (.o1 .agg (.cons (.int 0) (.cons (.int 0) (.cons (.int 160) (.cons (.int 191) .nil))))))
            (.br (.o2 .eqi (.v 0) (.int 237))
              (.ret (.o1 .agg (.cons (.int 0) (.cons (.int 0) (.cons (.int 128) (.cons (.int 159) .nil))))))
              (.br (.o2 .eqi (.v 0) (.int 240))
                (.ret (.o1 .agg (.cons (.int 0) (.cons (.int 0) (.cons (.int 144) (.cons (.int 191) .nil))))))
                (.br (.o2 .eqi (.v 0) (.int 244))
                  (.ret (.o1 .agg (.cons (.int 0) (.cons (.int 0) (.cons (.int 128) (.cons (.int 143) .nil))))))
                  (.ret (.o1 .agg (.cons (.int 0) (.cons (.int 0) (.cons (.int 128) (.cons (.int 191) .nil))))))))))))
      (.br (.o2 .lei (.int 240) (.v 0))
        (.br (.o2 .lei (.v 0) (.int 244))
          (.br (.o2 .eqi (.v 0) (.int 224))
            (.ret (.o1 .agg (.cons (.o1 (.wrap .i32) (.o2 (.and .u8) (.v 0) (.int 7))) (.cons (.int 3) (.cons (.int 160) (.cons (.int 191) .nil))))))
            (.br (.o2 .eqi (.v 0) (.int 237))
              (.ret (.o1 .agg (.cons (.o1 (.wrap .i32) (.o2 (.and .u8) (.v 0) (.int 7))) (.cons (.int 3) (.cons (.int 128) (.cons (.int 159) .nil))))))
              (.br (.o2 .eqi (.v 0) (.int 240))
                (.ret (.o1 .agg (.cons (.o1 (.wrap .i32) (.o2 (.and .u8) (.v 0) (.int 7))) (.cons (.int 3) (.cons (.int 144) (.cons (.int 191) .nil))))))
                (.br (.o2 .eqi (.v 0) (.int 244))
                  (.ret (.o1 .agg (.cons (.o1 (.wrap .i32) (.o2 (.and .u8) (.v 0) (.int 7))) (.cons (.int 3) (.cons (.int 128) (.cons (.int 143) .nil))))))
                  (.ret (.o1 .agg (.cons (.o1 (.wrap .i32) (.o2 (.and .u8) (.v 0) (.int 7))) (.cons (.int 3) (.cons (.int 128) (.cons (.int 191) .nil))))))))))
          (.br (.o2 .eqi (.v 0) (.int 224))
            (.ret (.o1 .agg (.cons (.int 0) (.cons (.int 0) (.cons (.int 160) (.cons (.int 191) .nil))))))
            (.br (.o2 .eqi (.v 0) (.int 237))
              (.ret (.o1 .agg (.cons (.int 0) (.cons (.int 0) (.cons (.int 128) (.cons (.int 159) .nil))))))
              (.br (.o2 .eqi (.v 0) (.int 240))
                (.ret (.o1 .agg (.cons (.int 0) (.cons (.int 0) (.cons (.int 144) (.cons (.int 191) .nil))))))
                (.br (.o2 .eqi (.v 0) (.int 244))
                  (.ret (.o1 .agg (.cons (.int 0) (.cons (.int 0) (.cons (.int 128) (.cons (.int 143) .nil))))))
                  (.ret (.o1 .agg (.cons (.int 0) (.cons (.int 0) (.cons (.int 128) (.cons (.int 191) .nil)))))))))))
        (.br (.o2 .eqi (.v 0) (.int 224))
          (.ret (.o1 .agg (.cons (.int 0) (.cons (.int 0) (.cons (.int 160) (.cons (.int 191) .nil))))))
          (.br (.o2 .eqi (.v 0) (.int 237))
            (.ret (.o1 .agg (.cons (.int 0) (.cons (.int 0) (.cons (.int 128) (.cons (.int 159) .nil))))))
            (.br (.o2 .eqi (.v 0) (.int 240))
              (.ret (.o1 .agg (.cons (.int 0) (.cons (.int 0) (.cons (.int 144) (.cons (.int 191) .nil))))))
              (.br (.o2 .eqi (.v 0) (.int 244))
                (.ret (.o1 .agg (.cons (.int 0) (.cons (.int 0) (.cons (.int 128) (.cons (.int 143) .nil))))))
                (.ret (.o1 .agg (.cons (.int 0) (.cons (.int 0) (.cons (.int 128) (.cons (.int 191) .nil)))))))))))))
  (.br (.o2 .lei (.int 224) (.v 0))
    (.br (.o2 .lei (.v 0) (.int 239))
      (.br (.o2 .eqi (.v 0) (.int 224))
        (.ret (.o1 .agg (.cons (.o1 (.wrap .i32) (.o2 (.and .u8) (.v 0) (.int 15))) (.cons (.int 2) (.cons (.int 160) (.cons (.int 191) .nil))))))
        (.br (.o2 .eqi (.v 0) (.int 237))
          (.ret (.o1 .agg (.cons (.o1 (.wrap .i32) (.o2 (.and .u8) (.v 0) (.int 15))) (.cons (.int 2) (.cons (.int 128) (.cons (.int 159) .nil))))))
          (.br (.o2 .eqi (.v 0) (.int 240))
            (.ret (.o1 .agg (.cons (.o1 (.wrap .i32) (.o2 (.and .u8) (.v 0) (.int 15))) (.cons (.int 2) (.cons (.int 144) (.cons (.int 191) .nil))))))
            (.br (.o2 .eqi (.v 0) (.int 244))
              (.ret (.o1 .agg (.cons (.o1 (.wrap .i32) (.o2 (.and .u8) (.v 0) (.int 15))) (.cons (.int 2) (.cons (.int 128) (.cons (.int 143) .nil))))))
              (.ret (.o1 .agg (.cons (.o1 (.wrap .i32) (.o2 (.and .u8) (.v 0) (.int 15))) (.cons (.int 2) (.cons (.int 128) (.cons (.int 191) .nil))))))))))
      (.br (.o2 .lei (.int 240) (.v 0))
        (.br (.o2 .lei (.v 0) (.int 244))
          (.br (.o2 .eqi (.v 0) (.int 224))
            (.ret (.o1 .agg (.cons (.o1 (.wrap .i32) (.o2 (.and .u8) (.v 0) (.int 7))) (.cons (.int 3) (.cons (.int 160) (.cons (.int 191) .nil))))))
            (.br (.o2 .eqi (.v 0) (.int 237))
              (.ret (.o1 .agg (.cons (.o1 (.wrap .i32) (.o2 (.and .u8) (.v 0) (.int 7))) (.cons (.int 3) (.cons (.int 128) (.cons (.int 159) .nil))))))
              (.br (.o2 .eqi (.v 0) (.int 240))
                (.ret (.o1 .agg (.cons (.o1 (.wrap .i32) (.o2 (.and .u8) (.v 0) (.int 7))) (.cons (.int 3) (.cons (.int 144) (.cons (.int 191) .nil))))))
                (.br (.o2 .eqi (.v 0) (.int 244))
                  (.ret (.o1 .agg (.cons (.o1 (.wrap .i32) (.o2 (.and .u8) (.v 0) (.int 7))) (.cons (.int 3) (.cons (.int 128) (.cons (.int 143) .nil))))))
                  (.ret (.o1 .agg (.cons (.o1 (.wrap .i32) (.o2 (.and .u8) (.v 0) (.int 7))) (.cons (.int 3) (.cons (.int 128) (.cons (.int 191) .nil))))))))))
          (.br (.o2 .eqi (.v 0) (.int 224))
            (.ret (.o1 .agg (.cons (.int 0) (.cons (.int 0) (.cons (.int 160) (.cons (.int 191) .nil))))))
            (.br (.o2 .eqi (.v 0) (.int 237))
              (.ret (.o1 .agg (.cons (.int 0) (.cons (.int 0) (.cons (.int 128) (.cons (.int 159) .nil))))))
              (.br (.o2 .eqi (.v 0) (.int 240))
                (.ret (.o1 .agg (.cons (.int 0) (.cons (.int 0) (.cons (.int 144) (.cons (.int 191) .nil))))))
                (.br (.o2 .eqi (.v 0) (.int 244))
                  (.ret (.o1 .agg (.cons (.int 0) (.cons (.int 0) (.cons (.int 128) (.cons (.int 143) .nil))))))
                  (.ret (.o1 .agg (.cons (.int 0) (.cons (.int 0) (.cons (.int 128) (.cons (.int 191) .nil)))))))))))
        (.br (.o2 .eqi (.v 0) (.int 224))
          (.ret (.o1 .agg (.cons (.int 0) (.cons (.int 0) (.cons (.int 160) (.cons (.int 191) .nil))))))
          (.br (.o2 .eqi (.v 0) (.int 237))
            (.ret (.o1 .agg (.cons (.int 0) (.cons (.int 0) (.cons (.int 128) (.cons (.int 159) .nil))))))
            (.br (.o2 .eqi (.v 0) (.int 240))
              (.ret (.o1 .agg (.cons (.int 0) (.cons (.int 0) (.cons (.int 144) (.cons (.int 191) .nil))))))
              (.br (.o2 .eqi (.v 0) (.int 244))
                (.ret (.o1 .agg (.cons (.int 0) (.cons (.int 0) (.cons (.int 128) (.cons (.int 143) .nil))))))
                (.ret (.o1 .agg (.cons (.int 0) (.cons (.int 0) (.cons (.int 128) (.cons (.int 191) .nil))))))))))))
    (.br (.o2 .lei (.int 240) (.v 0))
      (.br (.o2 .lei (.v 0) (.int 244))
        (.br (.o2 .eqi (.v 0) (.int 224))
          (.ret (.o1 .agg (.cons (.o1 (.wrap .i32) (.o2 (.and .u8) (.v 0) (.int 7))) (.cons (.int 3) (.cons (.int 160) (.cons (.int 191) .nil))))))
          (.br (.o2 .eqi (.v 0) (.int 237))
            (.ret (.o1 .agg (.cons (.o1 (.wrap .i32) (.o2 (.and .u8) (.v 0) (.int 7))) (.cons (.int 3) (.cons (.int 128) (.cons (.int 159) .nil))))))
            (.br (.o2 .eqi (.v 0) (.int 240))
              (.ret (.o1 .agg (.cons (.o1 (.wrap .i32) (.o2 (.and .u8) (.v 0) (.int 7))) (.cons (.int 3) (.cons (.int 144) (.cons (.int 191) .nil))))))
              (.br (.o2 .eqi (.v 0) (.int 244))
                (.ret (.o1 .agg (.cons (.o1 (.wrap .i32) (.o2 (.and .u8) (.v 0) (.int 7))) (.cons (.int 3) (.cons (.int 128) (.cons (.int 143) .nil))))))
                (.ret (.o1 .agg (.cons (.o1 (.wrap .i32) (.o2 (.and .u8) (.v 0) (.int 7))) (.cons (.int 3) (.cons (.int 128) (.cons (.int 191) .nil))))))))))
        (.br (.o2 .eqi (.v 0) (.int 224))
          (.ret (.o1 .agg (.cons (.int 0) (.cons (.int 0) (.cons (.int 160) (.cons (.int 191) .nil))))))
          (.br (.o2 .eqi (.v 0) (.int 237))
            (.ret (.o1 .agg (.cons (.int 0) (.cons (.int 0) (.cons (.int 128) (.cons (.int 159) .nil))))))
            (.br (.o2 .eqi (.v 0) (.int 240))
              (.ret (.o1 .agg (.cons (.int 0) (.cons (.int 0) (.cons (.int 144) (.cons (.int 191) .nil))))))
              (.br (.o2 .eqi (.v 0) (.int 244))
                (.ret (.o1 .agg (.cons (.int 0) (.cons (.int 0) (.cons (.int 128) (.cons (.int 143) .nil))))))
                (.ret (.o1 .agg (.cons (.int 0) (.cons (.int 0) (.cons (.int 128) (.cons (.int 191) .nil)))))))))))
      (.br (.o2 .eqi (.v 0) (.int 224))
        (.ret (.o1 .agg (.cons (.int 0) (.cons (.int 0) (.cons (.int 160) (.cons (.int 191) .nil))))))
        (.br (.o2 .eqi (.v 0) (.int 237))
          (.ret (.o1 .agg (.cons (.int 0) (.cons (.int 0) (.cons (.int 128) (.cons (.int 159) .nil))))))
          (.br (.o2 .eqi (.v 0) (.int 240))
            (.ret (.o1 .agg (.cons (.int 0) (.cons (.int 0) (.cons (.int 144) (.cons (.int 191) .nil))))))
            (.br (.o2 .eqi (.v 0) (.int 244))
              (.ret (.o1 .agg (.cons (.int 0) (.cons (.int 0) (.cons (.int 128) (.cons (.int 143) .nil))))))
              (.ret (.o1 .agg (.cons (.int 0) (.cons (.int 0) (.cons (.int 128) (.cons (.int 191) .nil)))))))))))))
set_option maxRecDepth 100000 in
theorem zug : za4 cx_utf8stream_begin 4 sg_utf8stream_begin Tryd.f116 (Tryd.f116.body.getD .skip) = tr_utf8stream_begin := by kernel_rfl
theorem zu8 {Γ : CEnv} (hg : ∀ n, Γ.glob n = globT n) (hs : ∀ s ∈ cx_utf8stream_begin.sigs, Contract Tryd.prog Γ gtab s (Γ.pre s.no) (Γ.post s.no)) : CxOk cx_utf8stream_begin Γ := ⟨by kernel_rfl, hs, (fun x hx => by cases hx), (fun x hx => by cases hx)⟩
theorem zhu {Γ : CEnv} (hg : ∀ n, Γ.glob n = globT n) (hs : ∀ s ∈ cx_utf8stream_begin.sigs, Contract Tryd.prog Γ gtab s (Γ.pre s.no) (Γ.post s.no)) (k : Nat) {pre : List TV → Prop} {post : List TV → TV → Prop} (h : ∀ ts, ts.length = 1 → pre ts → tr_utf8stream_begin.den Γ (post ts) ts []) : Contract Tryd.prog Γ gtab (ze4 k) pre post :=
  Contract.renum (zas (zu8 hg hs) 4 sg_utf8stream_begin Tryd.func116 (by kernel_rfl) (by kernel_rfl) fun ts hl hp => by rw [zug]; exact h ts hl hp) k

def sg_utf8stream_Decode : Sig := ⟨84, 0, [(false, [.str]), (false, [.str])], [(false, [((.slice false [(.int .i32)]), some 21)]), (false, [(.str, none)])]⟩
def zcj (k : Nat) : Sig := ⟨sg_utf8stream_Decode.f, k, sg_utf8stream_Decode.args, sg_utf8stream_Decode.res⟩
def zx0 : List (FuncId × Nat × Head) := [(84, 6, ⟨[6, 7, 8, 9, 16, 17], [.slot 8 true 196 false [], .slot 7 true 21 false [(.int .i32)]], [9, 17], [1], [(0, 3), (0, 2), (0, 1), (0, 0)], []⟩)]
def zx5 : List (FuncId × Nat × Nat × Plan) := [(84, 23, 6, (.op true 0 (.op true 1 (.op true 2 (.op true 3 (.op true 4 (.op true 5 .nil)))))))]
noncomputable def cx_utf8stream_Decode : Cx := ⟨Tryd.prog, gtab, [ze4 0], [], zx0, zx5, []⟩
def tr_utf8stream_Decode : Tree := (.req (.o2 .lei (.o1 .slen (.o2 .cat (.v 0) (.v 1))) (.int 9223372036854775807)) (.loop [(.int 0), (.int 0), (.int 0), (.int 0), (.int 0), (.int 0), .nil]
  (.br (.o2 .lti (.v 3) (.o1 .slen (.o2 .cat (.v 0) (.v 1))))
    (.req (.o2 .lei (.int 0) (.v 3)) (.req (.o2 .lti (.v 3) (.o1 .slen (.o2 .cat (.v 0) (.v 1)))) (.br (.o2 .lti (.int 0) (.v 5))
      (.br (.o2 .lei (.v 6) (.o2 .sidx (.o2 .cat (.v 0) (.v 1)) (.v 3)))
        (.br (.o2 .lei (.o2 .sidx (.o2 .cat (.v 0) (.v 1)) (.v 3)) (.v 7))
          (.br (.o2 .eqi (.o2 (.sub .i64) (.v 5) (.int 1)) (.int 0))
            (.req (.o2 .lei (.o1 .len (.o2 .app (.v 8) (.cons (.o2 (.or .i32) (.o2 (.shl .i32) (.v 4) (.int 6)) (.o1 (.wrap .i32) (.o2 (.and .u8) (.o2 .sidx (.o2 .cat (.v 0) (.v 1)) (.v 3)) (.int 63)))) .nil))) (.int 1099511627776)) (.back 0 [(.v 2), (.o2 (.add .i64) (.v 3) (.int 1)), (.o2 (.or .i32) (.o2 (.shl .i32) (.v 4) (.int 6)) (.o1 (.wrap .i32) (.o2 (.and .u8) (.o2 .sidx (.o2 .cat (.v 0) (.v 1)) (.v 3)) (.int 63)))), (.o2 (.sub .i64) (.v 5) (.int 1)), (.int 128), (.int 191), (.o2 .app (.v 8) (.cons (.o2 (.or .i32) (.o2 (.shl .i32) (.v 4) (.int 6)) (.o1 (.wrap .i32) (.o2 (.and .u8) (.o2 .sidx (.o2 .cat (.v 0) (.v 1)) (.v 3)) (.int 63)))) .nil))]))
            (.back 0 [(.v 2), (.o2 (.add .i64) (.v 3) (.int 1)), (.o2 (.or .i32) (.o2 (.shl .i32) (.v 4) (.int 6)) (.o1 (.wrap .i32) (.o2 (.and .u8) (.o2 .sidx (.o2 .cat (.v 0) (.v 1)) (.v 3)) (.int 63)))), (.o2 (.sub .i64) (.v 5) (.int 1)), (.int 128), (.int 191), (.v 8)]))
          (.br (.o2 .lti (.int 0) (.v 5))
            (.req (.o2 .lei (.o1 .len (.o2 .app (.v 8) (.cons (.int 65533) .nil))) (.int 1099511627776)) (.call 0 [(.o2 .sidx (.o2 .cat (.v 0) (.v 1)) (.v 3))]
              (.br (.o2 .lti (.o2 .sidx (.o2 .cat (.v 0) (.v 1)) (.v 3)) (.int 128))
                (.req (.o2 .lei (.o1 .len (.o2 .app (.o2 .app (.v 8) (.cons (.int 65533) .nil)) (.cons (.o1 (.wrap .i32) (.o2 .sidx (.o2 .cat (.v 0) (.v 1)) (.v 3))) .nil))) (.int 1099511627776)) (.back 0 [(.v 3), (.o2 (.add .i64) (.v 3) (.int 1)), (.o1 (.proj 0) (.v 9)), (.o1 (.proj 1) (.v 9)), (.o1 (.proj 2) (.v 9)), (.o1 (.proj 3) (.v 9)), (.o2 .app (.o2 .app (.v 8) (.cons (.int 65533) .nil)) (.cons (.o1 (.wrap .i32) (.o2 .sidx (.o2 .cat (.v 0) (.v 1)) (.v 3))) .nil))]))
                (.br (.o2 .eqi (.o1 (.proj 1) (.v 9)) (.int 0))
                  (.req (.o2 .lei (.o1 .len (.o2 .app (.o2 .app (.v 8) (.cons (.int 65533) .nil)) (.cons (.int 65533) .nil))) (.int 1099511627776)) (.back 0 [(.v 3), (.o2 (.add .i64) (.v 3) (.int 1)), (.o1 (.proj 0) (.v 9)), (.o1 (.proj 1) (.v 9)), (.o1 (.proj 2) (.v 9)), (.o1 (.proj 3) (.v 9)), (.o2 .app (.o2 .app (.v 8) (.cons (.int 65533) .nil)) (.cons (.int 65533) .nil))]))
                  (.back 0 [(.v 3), (.o2 (.add .i64) (.v 3) (.int 1)), (.o1 (.proj 0) (.v 9)), (.o1 (.proj 1) (.v 9)), (.o1 (.proj 2) (.v 9)), (.o1 (.proj 3) (.v 9)), (.o2 .app (.v 8) (.cons (.int 65533) .nil))])))))
            (.call 0 [(.o2 .sidx (.o2 .cat (.v 0) (.v 1)) (.v 3))]
              (.br (.o2 .lti (.o2 .sidx (.o2 .cat (.v 0) (.v 1)) (.v 3)) (.int 128))
                (.req (.o2 .lei (.o1 .len (.o2 .app (.v 8) (.cons (.o1 (.wrap .i32) (.o2 .sidx (.o2 .cat (.v 0) (.v 1)) (.v 3))) .nil))) (.int 1099511627776)) (.back 0 [(.v 3), (.o2 (.add .i64) (.v 3) (.int 1)), (.o1 (.proj 0) (.v 9)), (.o1 (.proj 1) (.v 9)), (.o1 (.proj 2) (.v 9)), (.o1 (.proj 3) (.v 9)), (.o2 .app (.v 8) (.cons (.o1 (.wrap .i32) (.o2 .sidx (.o2 .cat (.v 0) (.v 1)) (.v 3))) .nil))]))
                (.br (.o2 .eqi (.o1 (.proj 1) (.v 9)) (.int 0))
                  (.req (.o2 .lei (.o1 .len (.o2 .app (.v 8) (.cons (.int 65533) .nil))) (.int 1099511627776)) (.back 0 [(.v 3), (.o2 (.add .i64) (.v 3) (.int 1)), (.o1 (.proj 0) (.v 9)), (.o1 (.proj 1) (.v 9)), (.o1 (.proj 2) (.v 9)), (.o1 (.proj 3) (.v 9)), (.o2 .app (.v 8) (.cons (.int 65533) .nil))]))
                  (.back 0 [(.v 3), (.o2 (.add .i64) (.v 3) (.int 1)), (.o1 (.proj 0) (.v 9)), (.o1 (.proj 1) (.v 9)), (.o1 (.proj 2) (.v 9)), (.o1 (.proj 3) (.v 9)), (.v 8)]))))))
        (.br (.o2 .lti (.int 0) (.v 5))
          (.req (.o2 .lei (.o1 .len (.o2 .app (.v 8) (.cons (.int 65533) .nil))) (.int 1099511627776)) (.call 0 [(.o2 .sidx (.o2 .cat (.v 0) (.v 1)) (.v 3))]
            (.br (.o2 .lti (.o2 .sidx (.o2 .cat (.v 0) (.v 1)) (.v 3)) (.int 128))
              (.req (.o2 .lei (.o1 .len (.o2 .app (.o2 .app (.v 8) (.cons (.int 65533) .nil)) (.cons (.o1 (.wrap .i32) (.o2 .sidx (.o2 .cat (.v 0) (.v 1)) (.v 3))) .nil))) (.int 1099511627776)) (.back 0 [(.v 3), (.o2 (.add .i64) (.v 3) (.int 1)), (.o1 (.proj 0) (.v 9)), (.o1 (.proj 1) (.v 9)), (.o1 (.proj 2) (.v 9)), (.o1 (.proj 3) (.v 9)), (.o2 .app (.o2 .app (.v 8) (.cons (.int 65533) .nil)) (.cons (.o1 (.wrap .i32) (.o2 .sidx (.o2 .cat (.v 0) (.v 1)) (.v 3))) .nil))]))
              (.br (.o2 .eqi (.o1 (.proj 1) (.v 9)) (.int 0))
                (.req (.o2 .lei (.o1 .len (.o2 .app (.o2 .app (.v 8) (.cons (.int 65533) .nil)) (.cons (.int 65533) .nil))) (.int 1099511627776)) (.back 0 [(.v 3), (.o2 (.add .i64) (.v 3) (.int 1)), (.o1 (.proj 0) (.v 9)), (.o1 (.proj 1) (.v 9)), (.o1 (.proj 2) (.v 9)), (.o1 (.proj 3) (.v 9)), (.o2 .app (.o2 .app (.v 8) (.cons (.int 65533) .nil)) (.cons (.int 65533) .nil))]))
                (.back 0 [(.v 3), (.o2 (.add .i64) (.v 3) (.int 1)), (.o1 (.proj 0) (.v 9)), (.o1 (.proj 1) (.v 9)), (.o1 (.proj 2) (.v 9)), (.o1 (.proj 3) (.v 9)), (.o2 .app (.v 8) (.cons (.int 65533) .nil))])))))
          (.call 0 [(.o2 .sidx (.o2 .cat (.v 0) (.v 1)) (.v 3))]
            (.br (.o2 .lti (.o2 .sidx (.o2 .cat (.v 0) (.v 1)) (.v 3)) (.int 128))
              (.req (.o2 .lei (.o1 .len (.o2 .app (.v 8) (.cons (.o1 (.wrap .i32) (.o2 .sidx (.o2 .cat (.v 0) (.v 1)) (.v 3))) .nil))) (.int 1099511627776)) (.back 0 [(.v 3), (.o2 (.add .i64) (.v 3) (.int 1)), (.o1 (.proj 0) (.v 9)), (.o1 (.proj 1) (.v 9)), (.o1 (.proj 2) (.v 9)), (.o1 (.proj 3) (.v 9)), (.o2 .app (.v 8) (.cons (.o1 (.wrap .i32) (.o2 .sidx (.o2 .cat (.v 0) (.v 1)) (.v 3))) .nil))]))
              (.br (.o2 .eqi (.o1 (.proj 1) (.v 9)) (.int 0))
                (.req (.o2 .lei (.o1 .len (.o2 .app (.v 8) (.cons (.int 65533) .nil))) (.int 1099511627776)) (.back 0 [(.v 3), (.o2 (.add .i64) (.v 3) (.int 1)), (.o1 (.proj 0) (.v 9)), (.o1 (.proj 1) (.v 9)), (.o1 (.proj 2) (.v 9)), (.o1 (.proj 3) (.v 9)), (.o2 .app (.v 8) (.cons (.int 65533) .nil))]))
                (.back 0 [(.v 3), (.o2 (.add .i64) (.v 3) (.int 1)), (.o1 (.proj 0) (.v 9)), (.o1 (.proj 1) (.v 9)), (.o1 (.proj 2) (.v 9)), (.o1 (.proj 3) (.v 9)), (.v 8)]))))))
      (.br (.o2 .lti (.int 0) (.v 5))
        (.req (.o2 .lei (.o1 .len (.o2 .app (.v 8) (.cons (.int 65533) .nil))) (.int 1099511627776)) (.call 0 [(.o2 .sidx (.o2 .cat (.v 0) (.v 1)) (.v 3))]
          (.br (.o2 .lti (.o2 .sidx (.o2 .cat (.v 0) (.v 1)) (.v 3)) (.int 128))
            (.req (.o2 .lei (.o1 .len (.o2 .app (.o2 .app (.v 8) (.cons (.int 65533) .nil)) (.cons (.o1 (.wrap .i32) (.o2 .sidx (.o2 .cat (.v 0) (.v 1)) (.v 3))) .nil))) (.int 1099511627776)) (.back 0 [(.v 3), (.o2 (.add .i64) (.v 3) (.int 1)), (.o1 (.proj 0) (.v 9)), (.o1 (.proj 1) (.v 9)), (.o1 (.proj 2) (.v 9)), (.o1 (.proj 3) (.v 9)), (.o2 .app (.o2 .app (.v 8) (.cons (.int 65533) .nil)) (.cons (.o1 (.wrap .i32) (.o2 .sidx (.o2 .cat (.v 0) (.v 1)) (.v 3))) .nil))]))
            (.br (.o2 .eqi (.o1 (.proj 1) (.v 9)) (.int 0))
              (.req (.o2 .lei (.o1 .len (.o2 .app (.o2 .app (.v 8) (.cons (.int 65533) .nil)) (.cons (.int 65533) .nil))) (.int 1099511627776)) (.back 0 [(.v 3), (.o2 (.add .i64) (.v 3) (.int 1)), (.o1 (.proj 0) (.v 9)), (.o1 (.proj 1) (.v 9)), (.o1 (.proj 2) (.v 9)), (.o1 (.proj 3) (.v 9)), (.o2 .app (.o2 .app (.v 8) (.cons (.int 65533) .nil)) (.cons (.int 65533) .nil))]))
              (.back 0 [(.v 3), (.o2 (.add .i64) (.v 3) (.int 1)), (.o1 (.proj 0) (.v 9)), (.o1 (.proj 1) (.v 9)), (.o1 (.proj 2) (.v 9)), (.o1 (.proj 3) (.v 9)), (.o2 .app (.v 8) (.cons (.int 65533) .nil))])))))
        (.call 0 [(.o2 .sidx (.o2 .cat (.v 0) (.v 1)) (.v 3))]
          (.br (.o2 .lti (.o2 .sidx (.o2 .cat (.v 0) (.v 1)) (.v 3)) (.int 128))
            (.req (.o2 .lei (.o1 .len (.o2 .app (.v 8) (.cons (.o1 (.wrap .i32) (.o2 .sidx (.o2 .cat (.v 0) (.v 1)) (.v 3))) .nil))) (.int 1099511627776)) (.back 0 [(.v 3), (.o2 (.add .i64) (.v 3) (.int 1)), (.o1 (.proj 0) (.v 9)), (.o1 (.proj 1) (.v 9)), (.o1 (.proj 2) (.v 9)), (.o1 (.proj 3) (.v 9)), (.o2 .app (.v 8) (.cons (.o1 (.wrap .i32) (.o2 .sidx (.o2 .cat (.v 0) (.v 1)) (.v 3))) .nil))]))
            (.br (.o2 .eqi (.o1 (.proj 1) (.v 9)) (.int 0))
              (.req (.o2 .lei (.o1 .len (.o2 .app (.v 8) (.cons (.int 65533) .nil))) (.int 1099511627776)) (.back 0 [(.v 3), (.o2 (.add .i64) (.v 3) (.int 1)), (.o1 (.proj 0) (.v 9)), (.o1 (.proj 1) (.v 9)), (.o1 (.proj 2) (.v 9)), (.o1 (.proj 3) (.v 9)), (.o2 .app (.v 8) (.cons (.int 65533) .nil))]))
              (.back 0 [(.v 3), (.o2 (.add .i64) (.v 3) (.int 1)), (.o1 (.proj 0) (.v 9)), (.o1 (.proj 1) (.v 9)), (.o1 (.proj 2) (.v 9)), (.o1 (.proj 3) (.v 9)), (.v 8)]))))))))
    (.br (.o2 .eqi (.v 5) (.int 0))
      (.ret (.o1 .agg (.cons (.v 8) (.cons (.str []) .nil))))
      (.req (.o2 .lei (.int 0) (.v 2)) (.req (.o2 .lei (.v 2) (.o1 .slen (.o2 .cat (.v 0) (.v 1)))) (.ret (.o1 .agg (.cons (.v 8) (.cons (.o3 .ssub (.o2 .cat (.v 0) (.v 1)) (.v 2) (.o1 .slen (.o2 .cat (.v 0) (.v 1)))) .nil))))))))))
set_option maxRecDepth 100000 in
theorem ztx : za4 cx_utf8stream_Decode 4 sg_utf8stream_Decode Tryd.f84 (Tryd.f84.body.getD .skip) = tr_utf8stream_Decode := by kernel_rfl
theorem zty {Γ : CEnv} (hg : ∀ n, Γ.glob n = globT n) (hs : ∀ s ∈ cx_utf8stream_Decode.sigs, Contract Tryd.prog Γ gtab s (Γ.pre s.no) (Γ.post s.no)) : CxOk cx_utf8stream_Decode Γ := ⟨by kernel_rfl, hs, (fun x hx => by cases hx), (fun x hx => by cases hx)⟩
theorem zha {Γ : CEnv} (hg : ∀ n, Γ.glob n = globT n) (hs : ∀ s ∈ cx_utf8stream_Decode.sigs, Contract Tryd.prog Γ gtab s (Γ.pre s.no) (Γ.post s.no)) (k : Nat) {pre : List TV → Prop} {post : List TV → TV → Prop} (h : ∀ ts, ts.length = 2 → pre ts → tr_utf8stream_Decode.den Γ (post ts) ts []) : Contract Tryd.prog Γ gtab (zcj k) pre post :=
  Contract.renum (zas (zty hg hs) 4 sg_utf8stream_Decode Tryd.func84 (by kernel_rfl) (by kernel_rfl) fun ts hl hp => by rw [ztx]; exact h ts hl hp) k

def sg_utf8stream_Finish : Sig := ⟨45, 0, [(false, [.str])], [(false, [((.slice false [(.int .i32)]), some 21)])]⟩
def zbz (k : Nat) : Sig := ⟨sg_utf8stream_Finish.f, k, sg_utf8stream_Finish.args, sg_utf8stream_Finish.res⟩
def zxk : List (FuncId × Nat × Head) := []
def zxz : List (FuncId × Nat × Nat × Plan) := []
noncomputable def cx_utf8stream_Finish : Cx := ⟨Tryd.prog, gtab, [zcj 0], [], zxk, zxz, []⟩
def tr_utf8stream_Finish : Tree := (.call 0 [(.str []), (.v 0)]
  (.br (.o1 .no (.o2 .eqs (.o1 (.proj 1) (.v 1)) (.str [])))
    (.req (.o2 .lei (.o1 .len (.o2 .app (.o1 (.proj 0) (.v 1)) (.cons (.int 65533) .nil))) (.int 1099511627776)) (.ret (.o2 .app (.o1 (.proj 0) (.v 1)) (.cons (.int 65533) .nil))))
    (.ret (.o1 (.proj 0) (.v 1)))))
set_option maxRecDepth 100000 in
theorem zts : za4 cx_utf8stream_Finish 4 sg_utf8stream_Finish Tryd.f45 (Tryd.f45.body.getD .skip) = tr_utf8stream_Finish := by kernel_rfl
theorem zt5 {Γ : CEnv} (hg : ∀ n, Γ.glob n = globT n) (hs : ∀ s ∈ cx_utf8stream_Finish.sigs, Contract Tryd.prog Γ gtab s (Γ.pre s.no) (Γ.post s.no)) : CxOk cx_utf8stream_Finish Γ := ⟨by kernel_rfl, hs, (fun x hx => by cases hx), (fun x hx => by cases hx)⟩
theorem zg5 {Γ : CEnv} (hg : ∀ n, Γ.glob n = globT n) (hs : ∀ s ∈ cx_utf8stream_Finish.sigs, Contract Tryd.prog Γ gtab s (Γ.pre s.no) (Γ.post s.no)) (k : Nat) {pre : List TV → Prop} {post : List TV → TV → Prop} (h : ∀ ts, ts.length = 1 → pre ts → tr_utf8stream_Finish.den Γ (post ts) ts []) : Contract Tryd.prog Γ gtab (zbz k) pre post :=
  Contract.renum (zas (zt5 hg hs) 4 sg_utf8stream_Finish Tryd.func45 (by kernel_rfl) (by kernel_rfl) fun ts hl hp => by rw [zts]; exact h ts hl hp) k

def sg_utf8stream_Encode : Sig := ⟨94, 0, [(false, [(.slice false [(.int .i32)])])], [(false, [(.str, none)])]⟩
def zci (k : Nat) : Sig := ⟨sg_utf8stream_Encode.f, k, sg_utf8stream_Encode.args, sg_utf8stream_Encode.res⟩
def zx2 : List (FuncId × Nat × Head) := [(94, 3, ⟨[3, 6, 7, 8], [.slot 3 true 5 false [(.int .u8)]], [8], [0], [], []⟩)]
def zxi : List (FuncId × Nat × Nat × Plan) := []
noncomputable def cx_utf8stream_Encode : Cx := ⟨Tryd.prog, gtab, [], [(136, Tryd.f136), (124, Tryd.f124)], zx2, zxi, []⟩
def tr_utf8stream_Encode : Tree := (.loop [(.int 0), .nil]
  (.br (.o2 .lti (.v 1) (.o1 .len (.v 0)))
    (.req (.o2 .lei (.int 0) (.v 1)) (.req (.o2 .lti (.v 1) (.o1 .len (.v 0))) (.br (.o2 .lei (.o1 (.wrap .u32) (.o2 .idx (.v 0) (.v 1))) (.int 127))
      (.req (.o2 .lei (.o1 .len (.o2 .app (.v 2) (.cons (.o1 (.wrap .u8) (.o2 .idx (.v 0) (.v 1))) .nil))) (.int 1099511627776)) (.back 0 [(.o2 (.add .i64) (.v 1) (.int 1)), (.o2 .app (.v 2) (.cons (.o1 (.wrap .u8) (.o2 .idx (.v 0) (.v 1))) .nil))]))
      (.br (.o2 .lei (.o1 (.wrap .u32) (.o2 .idx (.v 0) (.v 1))) (.int 2047))
        (.req (.o2 .lei (.o1 .len (.o2 .app (.v 2) (.cons (.o2 (.or .u8) (.int 192) (.o1 (.wrap .u8) (.o2 (.shr .i32) (.o2 .idx (.v 0) (.v 1)) (.int 6)))) (.cons (.o2 (.or .u8) (.int 128) (.o2 (.and .u8) (.o1 (.wrap .u8) (.o2 .idx (.v 0) (.v 1))) (.int 63))) .nil)))) (.int 1099511627776)) (.back 0 [(.o2 (.add .i64) (.v 1) (.int 1)), (.o2 .app (.v 2) (.cons (.o2 (.or .u8) (.int 192) (.o1 (.wrap .u8) (.o2 (.shr .i32) (.o2 .idx (.v 0) (.v 1)) (.int 6)))) (.cons (.o2 (.or .u8) (.int 128) (.o2 (.and .u8) (.o1 (.wrap .u8) (.o2 .idx (.v 0) (.v 1))) (.int 63))) .nil)))]))
        (.br (.o2 .lti (.o1 (.wrap .u32) (.o2 .idx (.v 0) (.v 1))) (.int 55296))
          (.req (.o2 .lei (.o1 .len (.o2 .app (.v 2) (.cons (.o2 (.or .u8) (.int 224) (.o1 (.wrap .u8) (.o2 (.shr .i32) (.o2 .idx (.v 0) (.v 1)) (.int 12)))) (.cons (.o2 (.or .u8) (.int 128) (.o2 (.and .u8) (.o1 (.wrap .u8) (.o2 (.shr .i32) (.o2 .idx (.v 0) (.v 1)) (.int 6))) (.int 63))) (.cons (.o2 (.or .u8) (.int 128) (.o2 (.and .u8) (.o1 (.wrap .u8) (.o2 .idx (.v 0) (.v 1))) (.int 63))) .nil))))) (.int 1099511627776)) (.back 0 [(.o2 (.add .i64) (.v 1) (.int 1)), (.o2 .app (.v 2) (.cons (.o2 (.or .u8) (.int 224) (.o1 (.wrap .u8) (.o2 (.shr .i32) (.o2 .idx (.v 0) (.v 1)) (.int 12)))) (.cons (.o2 (.or .u8) (.int 128) (.o2 (.and .u8) (.o1 (.wrap .u8) (.o2 (.shr .i32) (.o2 .idx (.v 0) (.v 1)) (.int 6))) (.int 63))) (.cons (.o2 (.or .u8) (.int 128) (.o2 (.and .u8) (.o1 (.wrap .u8) (.o2 .idx (.v 0) (.v 1))) (.int 63))) .nil))))]))
          (.br (.o2 .lti (.int 57343) (.o1 (.wrap .u32) (.o2 .idx (.v 0) (.v 1))))
            (.br (.o2 .lei (.o1 (.wrap .u32) (.o2 .idx (.v 0) (.v 1))) (.int 65535))
              (.req (.o2 .lei (.o1 .len (.o2 .app (.v 2) (.cons (.o2 (.or .u8) (.int 224) (.o1 (.wrap .u8) (.o2 (.shr .i32) (.o2 .idx (.v 0) (.v 1)) (.int 12)))) (.cons (.o2 (.or .u8) (.int 128) (.o2 (.and .u8) (.o1 (.wrap .u8) (.o2 (.shr .i32) (.o2 .idx (.v 0) (.v 1)) (.int 6))) (.int 63))) (.cons (.o2 (.or .u8) (.int 128) (.o2 (.and .u8) (.o1 (.wrap .u8) (.o2 .idx (.v 0) (.v 1))) (.int 63))) .nil))))) (.int 1099511627776)) (.back 0 [(.o2 (.add .i64) (.v 1) (.int 1)), (.o2 .app (.v 2) (.cons (.o2 (.or .u8) (.int 224) (.o1 (.wrap .u8) (.o2 (.shr .i32) (.o2 .idx (.v 0) (.v 1)) (.int 12)))) (.cons (.o2 (.or .u8) (.int 128) (.o2 (.and .u8) (.o1 (.wrap .u8) (.o2 (.shr .i32) (.o2 .idx (.v 0) (.v 1)) (.int 6))) (.int 63))) (.cons (.o2 (.or .u8) (.int 128) (.o2 (.and .u8) (.o1 (.wrap .u8) (.o2 .idx (.v 0) (.v 1))) (.int 63))) .nil))))]))
              (.br (.o2 .lti (.int 65535) (.o1 (.wrap .u32) (.o2 .idx (.v 0) (.v 1))))
                (.br (.o2 .lei (.o1 (.wrap .u32) (.o2 .idx (.v 0) (.v 1))) (.int 1114111))
                  (.req (.o2 .lei (.o1 .len (.o2 .app (.v 2) (.cons (.o2 (.or .u8) (.int 240) (.o1 (.wrap .u8) (.o2 (.shr .i32) (.o2 .idx (.v 0) (.v 1)) (.int 18)))) (.cons (.o2 (.or .u8) (.int 128) (.o2 (.and .u8) (.o1 (.wrap .u8) (.o2 (.shr .i32) (.o2 .idx (.v 0) (.v 1)) (.int 12))) (.int 63))) (.cons (.o2 (.or .u8) (.int 128) (.o2 (.and .u8) (.o1 (.wrap .u8) (.o2 (.shr .i32) (.o2 .idx (.v 0) (.v 1)) (.int 6))) (.int 63))) (.cons (.o2 (.or .u8) (.int 128) (.o2 (.and .u8) (.o1 (.wrap .u8) (.o2 .idx (.v 0) (.v 1))) (.int 63))) .nil)))))) (.int 1099511627776)) (.back 0 [(.o2 (.add .i64) (.v 1) (.int 1)), (.o2 .app (.v 2) (.cons (.o2 (.or .u8) (.int 240) (.o1 (.wrap .u8) (.o2 (.shr .i32) (.o2 .idx (.v 0) (.v 1)) (.int 18)))) (.cons (.o2 (.or .u8) (.int 128) (.o2 (.and .u8) (.o1 (.wrap .u8) (.o2 (.shr .i32) (.o2 .idx (.v 0) (.v 1)) (.int 12))) (.int 63))) (.cons (.o2 (.or .u8) (.int 128) (.o2 (.and .u8) (.o1 (.wrap .u8) (.o2 (.shr .i32) (.o2 .idx (.v 0) (.v 1)) (.int 6))) (.int 63))) (.cons (.o2 (.or .u8) (.int 128) (.o2 (.and .u8) (.o1 (.wrap .u8) (.o2 .idx (.v 0) (.v 1))) (.int 63))) .nil)))))]))
                  (.req (.o2 .lei (.o1 .len (.o2 .app (.v 2) (.cons (.int 239) (.cons (.int 191) (.cons (.int 189) .nil))))) (.int 1099511627776)) (.back 0 [(.o2 (.add .i64) (.v 1) (.int 1)), (.o2 .app (.v 2) (.cons (.int 239) (.cons (.int 191) (.cons (.int 189) .nil))))])))
                (.req (.o2 .lei (.o1 .len (.o2 .app (.v 2) (.cons (.int 239) (.cons (.int 191) (.cons (.int 189) .nil))))) (.int 1099511627776)) (.back 0 [(.o2 (.add .i64) (.v 1) (.int 1)), (.o2 .app (.v 2) (.cons (.int 239) (.cons (.int 191) (.cons (.int 189) .nil))))]))))
            (.br (.o2 .lti (.int 65535) (.o1 (.wrap .u32) (.o2 .idx (.v 0) (.v 1))))
              (.br (.o2 .lei (.o1 (.wrap .u32) (.o2 .idx (.v 0) (.v 1))) (.int 1114111))
                (.req (.o2 .lei (.o1 .len (.o2 .app (.v 2) (.cons (.o2 (.or .u8) (.int 240) (.o1 (.wrap .u8) (.o2 (.shr .i32) (.o2 .idx (.v 0) (.v 1)) (.int 18)))) (.cons (.o2 (.or .u8) (.int 128) (.o2 (.and .u8) (.o1 (.wrap .u8) (.o2 (.shr .i32) (.o2 .idx (.v 0) (.v 1)) (.int 12))) (.int 63))) (.cons (.o2 (.or .u8) (.int 128) (.o2 (.and .u8) (.o1 (.wrap .u8) (.o2 (.shr .i32) (.o2 .idx (.v 0) (.v 1)) (.int 6))) (.int 63))) (.cons (.o2 (.or .u8) (.int 128) (.o2 (.and .u8) (.o1 (.wrap .u8) (.o2 .idx (.v 0) (.v 1))) (.int 63))) .nil)))))) (.int 1099511627776)) (.back 0 [(.o2 (.add .i64) (.v 1) (.int 1)), (.o2 .app (.v 2) (.cons (.o2 (.or .u8) (.int 240) (.o1 (.wrap .u8) (.o2 (.shr .i32) (.o2 .idx (.v 0) (.v 1)) (.int 18)))) (.cons (.o2 (.or .u8) (.int 128) (.o2 (.and .u8) (.o1 (.wrap .u8) (.o2 (.shr .i32) (.o2 .idx (.v 0) (.v 1)) (.int 12))) (.int 63))) (.cons (.o2 (.or .u8) (.int 128) (.o2 (.and .u8) (.o1 (.wrap .u8) (.o2 (.shr .i32) (.o2 .idx (.v 0) (.v 1)) (.int 6))) (.int 63))) (.cons (.o2 (.or .u8) (.int 128) (.o2 (.and .u8) (.o1 (.wrap .u8) (.o2 .idx (.v 0) (.v 1))) (.int 63))) .nil)))))]))
                (.req (.o2 .lei (.o1 .len (.o2 .app (.v 2) (.cons (.int 239) (.cons (.int 191) (.cons (.int 189) .nil))))) (.int 1099511627776)) (.back 0 [(.o2 (.add .i64) (.v 1) (.int 1)), (.o2 .app (.v 2) (.cons (.int 239) (.cons (.int 191) (.cons (.int 189) .nil))))])))
              (.req (.o2 .lei (.o1 .len (.o2 .app (.v 2) (.cons (.int 239) (.cons (.int 191) (.cons (.int 189) .nil))))) (.int 1099511627776)) (.back 0 [(.o2 (.add .i64) (.v 1) (.int 1)), (.o2 .app (.v 2) (.cons (.int 239) (.cons (.int 191) (.cons (.int 189) .nil))))])))))))))
    (.ret (.o1 .strOf (.v 2)))))
set_option maxRecDepth 100000 in
theorem zt0 : za4 cx_utf8stream_Encode 4 sg_utf8stream_Encode Tryd.f94 (Tryd.f94.body.getD .skip) = tr_utf8stream_Encode := by kernel_rfl
theorem zt8 {Γ : CEnv} (hg : ∀ n, Γ.glob n = globT n) (hs : ∀ s ∈ cx_utf8stream_Encode.sigs, Contract Tryd.prog Γ gtab s (Γ.pre s.no) (Γ.post s.no)) : CxOk cx_utf8stream_Encode Γ := ⟨by kernel_rfl, hs, (fun x hx => by
  simp only [cx_utf8stream_Encode, List.mem_cons, List.not_mem_nil, or_false] at hx
  rcases hx with rfl | rfl
  · exact ⟨Tryd.func136, by kernel_rfl⟩
  · exact ⟨Tryd.func124, by kernel_rfl⟩), (fun x hx => by cases hx)⟩
theorem zg9 {Γ : CEnv} (hg : ∀ n, Γ.glob n = globT n) (hs : ∀ s ∈ cx_utf8stream_Encode.sigs, Contract Tryd.prog Γ gtab s (Γ.pre s.no) (Γ.post s.no)) (k : Nat) {pre : List TV → Prop} {post : List TV → TV → Prop} (h : ∀ ts, ts.length = 1 → pre ts → tr_utf8stream_Encode.den Γ (post ts) ts []) : Contract Tryd.prog Γ gtab (zci k) pre post :=
  Contract.renum (zas (zt8 hg hs) 4 sg_utf8stream_Encode Tryd.func94 (by kernel_rfl) (by kernel_rfl) fun ts hl hp => by rw [zt0]; exact h ts hl hp) k

def sg_ref01_limits : Sig := ⟨139, 0, [(false, [(.slice false [(.int .u8)])])], [(false, [((.int .u8), none)]), (false, [((.int .u8), none)]), (false, [((.int .i64), none)])]⟩
def zjk (k : Nat) : Sig := ⟨sg_ref01_limits.f, k, sg_ref01_limits.args, sg_ref01_limits.res⟩
def qba : List (FuncId × Nat × Head) := []
def z7o : List (FuncId × Nat × Nat × Plan) := []
noncomputable def cx_ref01_limits : Cx := ⟨Tryd.prog, gtab, [], [], qba, z7o, []⟩
def tr_ref01_limits : Tree := (.br (.o2 .eqi (.o1 .len (.v 0)) (.int 0))
  (.ret (.o1 .agg (.cons (.int 0) (.cons (.int 255) (.cons (.int 0) .nil)))))
  (.req (.o2 .lti (.int 0) (.o1 .len (.v 0))) (.br (.o2 .lei (.int 194) (.o2 .idx (.v 0) (.int 0)))
    (.req (.o2 .lti (.int 0) (.o1 .len (.v 0))) (.br (.o2 .lei (.o2 .idx (.v 0) (.int 0)) (.int 223))
      (.br (.o2 .eqi (.o1 .len (.v 0)) (.int 1))
        (.req (.o2 .lti (.int 0) (.o1 .len (.v 0))) (.br (.o2 .eqi (.o2 .idx (.v 0) (.int 0)) (.int 224))
          (.ret (.o1 .agg (.cons (.int 160) (.cons (.int 191) (.cons (.int 2) .nil)))))
          (.br (.o2 .eqi (.o2 .idx (.v 0) (.int 0)) (.int 237))
            (.ret (.o1 .agg (.cons (.int 128) (.cons (.int 159) (.cons (.int 2) .nil)))))
            (.br (.o2 .eqi (.o2 .idx (.v 0) (.int 0)) (.int 240))
              (.ret (.o1 .agg (.cons (.int 144) (.cons (.int 191) (.cons (.int 2) .nil)))))
              (.br (.o2 .eqi (.o2 .idx (.v 0) (.int 0)) (.int 244))
                (.ret (.o1 .agg (.cons (.int 128) (.cons (.int 143) (.cons (.int 2) .nil)))))
                (.ret (.o1 .agg (.cons (.int 128) (.cons (.int 191) (.cons (.int 2) .nil))))))))))
        (.ret (.o1 .agg (.cons (.int 128) (.cons (.int 191) (.cons (.int 2) .nil))))))
      (.req (.o2 .lti (.int 0) (.o1 .len (.v 0))) (.br (.o2 .lei (.int 224) (.o2 .idx (.v 0) (.int 0)))
        (.req (.o2 .lti (.int 0) (.o1 .len (.v 0))) (.br (.o2 .lei (.o2 .idx (.v 0) (.int 0)) (.int 239))
          (.br (.o2 .eqi (.o1 .len (.v 0)) (.int 1))
            (.req (.o2 .lti (.int 0) (.o1 .len (.v 0))) (.br (.o2 .eqi (.o2 .idx (.v 0) (.int 0)) (.int 224))
              (.ret (.o1 .agg (.cons (.int 160) (.cons (.int 191) (.cons (.int 3) .nil)))))
              (.br (.o2 .eqi (.o2 .idx (.v 0) (.int 0)) (.int 237))
                (.ret (.o1 .agg (.cons (.int 128) (.cons (.int 159) (.cons (.int 3) .nil)))))
                (.br (.o2 .eqi (.o2 .idx (.v 0) (.int 0)) (.int 240))
                  (.ret (.o1 .agg (.cons (.int 144) (.cons (.int 191) (.cons (.int 3) .nil)))))
                  (.br (.o2 .eqi (.o2 .idx (.v 0) (.int 0)) (.int 244))
                    (.ret (.o1 .agg (.cons (.int 128) (.cons (.int 143) (.cons (.int 3) .nil)))))
                    (.ret (.o1 .agg (.cons (.int 128) (.cons (.int 191) (.cons (.int 3) .nil))))))))))
            (.ret (.o1 .agg (.cons (.int 128) (.cons (.int 191) (.cons (.int 3) .nil))))))
          (.req (.o2 .lti (.int 0) (.o1 .len (.v 0))) (.br (.o2 .lei (.int 240) (.o2 .idx (.v 0) (.int 0)))
            (.req (.o2 .lti (.int 0) (.o1 .len (.v 0))) (.br (.o2 .lei (.o2 .idx (.v 0) (.int 0)) (.int 244))
              (.br (.o2 .eqi (.o1 .len (.v 0)) (.int 1))
                (.req (.o2 .lti (.int 0) (.o1 .len (.v 0))) (.br (.o2 .eqi (.o2 .idx (.v 0) (.int 0)) (.int 224))
                  (.ret (.o1 .agg (.cons (.int 160) (.cons (.int 191) (.cons (.int 4) .nil)))))
                  (.br (.o2 .eqi (.o2 .idx (.v 0) (.int 0)) (.int 237))
                    (.ret (.o1 .agg (.cons (.int 128) (.cons (.int 159) (.cons (.int 4) .nil)))))
                    (.br (.o2 .eqi (.o2 .idx (.v 0) (.int 0)) (.int 240))
                      (.ret (.o1 .agg (.cons (.int 144) (.cons (.int 191) (.cons (.int 4) .nil)))))
                      (.br (.o2 .eqi (.o2 .idx (.v 0) (.int 0)) (.int 244))
                        (.ret (.o1 .agg (.cons (.int 128) (.cons (.int 143) (.cons (.int 4) .nil)))))
                        (.ret (.o1 .agg (.cons (.int 128) (.cons (.int 191) (.cons (.int 4) .nil))))))))))
                (.ret (.o1 .agg (.cons (.int 128) (.cons (.int 191) (.cons (.int 4) .nil))))))
              (.br (.o2 .eqi (.o1 .len (.v 0)) (.int 1))
                (.req (.o2 .lti (.int 0) (.o1 .len (.v 0))) (.br (.o2 .eqi (.o2 .idx (.v 0) (.int 0)) (.int 224))
                  (.ret (.o1 .agg (.cons (.int 160) (.cons (.int 191) (.cons (.int 0) .nil)))))
                  (.br (.o2 .eqi (.o2 .idx (.v 0) (.int 0)) (.int 237))
                    (.ret (.o1 .agg (.cons (.int 128) (.cons (.int 159) (.cons (.int 0) .nil)))))
                    (.br (.o2 .eqi (.o2 .idx (.v 0) (.int 0)) (.int 240))
                      (.ret (.o1 .agg (.cons (.int 144) (.cons (.int 191) (.cons (.int 0) .nil)))))
                      (.br (.o2 .eqi (.o2 .idx (.v 0) (.int 0)) (.int 244))
                        (.ret (.o1 .agg (.cons (.int 128) (.cons (.int 143) (.cons (.int 0) .nil)))))
                        (.ret (.o1 .agg (.cons (.int 128) (.cons (.int 191) (.cons (.int 0) .nil))))))))))
                (.ret (.o1 .agg (.cons (.int 128) (.cons (.int 191) (.cons (.int 0) .nil))))))))
            (.br (.o2 .eqi (.o1 .len (.v 0)) (.int 1))
              (.req (.o2 .lti (.int 0) (.o1 .len (.v 0))) (.br (.o2 .eqi (.o2 .idx (.v 0) (.int 0)) (.int 224))
                (.ret (.o1 .agg (.cons (.int 160) (.cons (.int 191) (.cons (.int 0) .nil)))))
                (.br (.o2 .eqi (.o2 .idx (.v 0) (.int 0)) (.int 237))
                  (.ret (.o1 .agg (.cons (.int 128) (.cons (.int 159) (.cons (.int 0) .nil)))))
                  (.br (.o2 .eqi (.o2 .idx (.v 0) (.int 0)) (.int 240))
                    (.ret (.o1 .agg (.cons (.int 144) (.cons (.int 191) (.cons (.int 0) .nil)))))
                    (.br (.o2 .eqi (.o2 .idx (.v 0) (.int 0)) (.int 244))
                      (.ret (.o1 .agg (.cons (.int 128) (.cons (.int 143) (.cons (.int 0) .nil)))))
                      (.ret (.o1 .agg (.cons (.int 128) (.cons (.int 191) (.cons (.int 0) .nil))))))))))
              (.ret (.o1 .agg (.cons (.int 128) (.cons (.int 191) (.cons (.int 0) .nil))))))))))
        (.req (.o2 .lti (.int 0) (.o1 .len (.v 0))) (.br (.o2 .lei (.int 240) (.o2 .idx (.v 0) (.int 0)))
          (.req (.o2 .lti (.int 0) (.o1 .len (.v 0))) (.br (.o2 .lei (.o2 .idx (.v 0) (.int 0)) (.int 244))
            (.br (.o2 .eqi (.o1 .len (.v 0)) (.int 1))
              (.req (.o2 .lti (.int 0) (.o1 .len (.v 0))) (.br (.o2 .eqi (.o2 .idx (.v 0) (.int 0)) (.int 224))
                (.ret (.o1 .agg (.cons (.int 160) (.cons (.int 191) (.cons (.int 4) .nil)))))
                (.br (.o2 .eqi (.o2 .idx (.v 0) (.int 0)) (.int 237))
                  (.ret (.o1 .agg (.cons (.int 128) (.cons (.int 159) (.cons (.int 4) .nil)))))
                  (.br (.o2 .eqi (.o2 .idx (.v 0) (.int 0)) (.int 240))
                    (.ret (.o1 .agg (.cons (.int 144) (.cons (.int 191) (.cons (.int 4) .nil)))))
                    (.br (.o2 .eqi (.o2 .idx (.v 0) (.int 0)) (.int 244))
                      (.ret (.o1 .agg (.cons (.int 128) (.cons (.int 143) (.cons (.int 4) .nil)))))
                      (.ret (.o1 .agg (.cons (.int 128) (.cons (.int 191) (.cons (.int 4) .nil))))))))))
              (.ret (.o1 .agg (.cons (.int 128) (.cons (.int 191) (.cons (.int 4) .nil))))))
            (.br (.o2 .eqi (.o1 .len (.v 0)) (.int 1))
              (.req (.o2 .lti (.int 0) (.o1 .len (.v 0))) (.br (.o2 .eqi (.o2 .idx (.v 0) (.int 0)) (.int 224))
                (.ret (.o1 .agg (.cons (.int 160) (.cons (.int 191) (.cons (.int 0) .nil)))))
                (.br (.o2 .eqi (.o2 .idx (.v 0) (.int 0)) (.int 237))
                  (.ret (.o1 .agg (.cons (.int 128) (.cons (.int 159) (.cons (.int 0) .nil)))))
                  (.br (.o2 .eqi (.o2 .idx (.v 0) (.int 0)) (.int 240))
                    (.ret (.o1 .agg (.cons (.int 144) (.cons (.int 191) (.cons (.int 0) .nil)))))
                    (.br (.o2 .eqi (.o2 .idx (.v 0) (.int 0)) (.int 244))
                      (.ret (.o1 .agg (.cons (.int 128) (.cons (.int 143) (.cons (.int 0) .nil)))))
                      (.ret (.o1 .agg (.cons (.int 128) (.cons (.int 191) (.cons (.int 0) .nil))))))))))
              (.ret (.o1 .agg (.cons (.int 128) (.cons (.int 191) (.cons (.int 0) .nil))))))))
          (.br (.o2 .eqi (.o1 .len (.v 0)) (.int 1))
            (.req (.o2 .lti (.int 0) (.o1 .len (.v 0))) (.br (.o2 .eqi (.o2 .idx (.v 0) (.int 0)) (.int 224))
              (.ret (.o1 .agg (.cons (.int 160) (.cons (.int 191) (.cons (.int 0) .nil)))))
              (.br (.o2 .eqi (.o2 .idx (.v 0) (.int 0)) (.int 237))
                (.ret (.o1 .agg (.cons (.int 128) (.cons (.int 159) (.cons (.int 0) .nil)))))
                (.br (.o2 .eqi (.o2 .idx (.v 0) (.int 0)) (.int 240))
                  (.ret (.o1 .agg (.cons (.int 144) (.cons (.int 191) (.cons (.int 0) .nil)))))
                  (.br (.o2 .eqi (.o2 .idx (.v 0) (.int 0)) (.int 244))
                    (.ret (.o1 .agg (.cons (.int 128) (.cons (.int 143) (.cons (.int 0) .nil)))))
                    (.ret (.o1 .agg (.cons (.int 128) (.cons (.int 191) (.cons (.int 0) .nil))))))))))
            (.ret (.o1 .agg (.cons (.int 128) (.cons (.int 191) (.cons (.int 0) .nil))))))))))))
    (.req (.o2 .lti (.int 0) (.o1 .len (.v 0))) (.br (.o2 .lei (.int 224) (.o2 .idx (.v 0) (.int 0)))
      (.req (.o2 .lti (.int 0) (.o1 .len (.v 0))) (.br (.o2 .lei (.o2 .idx (.v 0) (.int 0)) (.int 239))
        (.br (.o2 .eqi (.o1 .len (.v 0)) (.int 1))
          (.req (.o2 .lti (.int 0) (.o1 .len (.v 0))) (.br (.o2 .eqi (.o2 .idx (.v 0) (.int 0)) (.int 224))
            (.ret (.o1 .agg (.cons (.int 160) (.cons (.int 191) (.cons (.int 3) .nil)))))
            (.br (.o2 .eqi (.o2 .idx (.v 0) (.int 0)) (.int 237))
              (.ret (.o1 .agg (.cons (.int 128) (.cons (.int 159) (.cons (.int 3) .nil)))))
              (.br (.o2 .eqi (.o2 .idx (.v 0) (.int 0)) (.int 240))
                (.ret (.o1 .agg (.cons (.int 144) (.cons (.int 191) (.cons (.int 3) .nil)))))
                (.br (.o2 .eqi (.o2 .idx (.v 0) (.int 0)) (.int 244))
                  (.ret (.o1 .agg (.cons (.int 128) (.cons (.int 143) (.cons (.int 3) .nil)))))
                  (.ret (.o1 .agg (.cons (.int 128) (.cons (.int 191) (.cons (.int 3) .nil))))))))))
          (.ret (.o1 .agg (.cons (.int 128) (.cons (.int 191) (.cons (.int 3) .nil))))))
        (.req (.o2 .lti (.int 0) (.o1 .len (.v 0))) (.br (.o2 .lei (.int 240) (.o2 .idx (.v 0) (.int 0)))
          (.req (.o2 .lti (.int 0) (.o1 .len (.v 0))) (.br (.o2 .lei (.o2 .idx (.v 0) (.int 0)) (.int 244))
            (.br (.o2 .eqi (.o1 .len (.v 0)) (.int 1))
              (.req (.o2 .lti (.int 0) (.o1 .len (.v 0))) (.br (.o2 .eqi (.o2 .idx (.v 0) (.int 0)) (.int 224))
                (.ret (.o1 .agg (.cons (.int 160) (.cons (.int 191) (.cons (.int 4) .nil)))))
                (.br (.o2 .eqi (.o2 .idx (.v 0) (.int 0)) (.int 237))
                  (.ret (.o1 .agg (.cons (.int 128) (.cons (.int 159) (.cons (.int 4) .nil)))))
                  (.br (.o2 .eqi (.o2 .idx (.v 0) (.int 0)) (.int 240))
                    (.ret (.o1 .agg (.cons (.int 144) (.cons (.int 191) (.cons (.int 4) .nil)))))
                    (.br (.o2 .eqi (.o2 .idx (.v 0) (.int 0)) (.int 244))
                      (.ret (.o1 .agg (.cons (.int 128) (.cons (.int 143) (.cons (.int 4) .nil)))))
                      (.ret (.o1 .agg (.cons (.int 128) (.cons (.int 191) (.cons (.int 4) .nil))))))))))
              (.ret (.o1 .agg (.cons (.int 128) (.cons (.int 191) (.cons (.int 4) .nil))))))
            (.br (.o2 .eqi (.o1 .len (.v 0)) (.int 1))
              (.req (.o2 .lti (.int 0) (.o1 .len (.v 0))) (.br (.o2 .eqi (.o2 .idx (.v 0) (.int 0)) (.int 224))
                (.ret (.o1 .agg (.cons (.int 160) (.cons (.int 191) (.cons (.int 0) .nil)))))
                (.br (.o2 .eqi (.o2 .idx (.v 0) (.int 0)) (.int 237))
                  (.ret (.o1 .agg (.cons (.int 128) (.cons (.int 159) (.cons (.int 0) .nil)))))
                  (.br (.o2 .eqi (.o2 .idx (.v 0) (.int 0)) (.int 240))
                    (.ret (.o1 .agg (.cons (.int 144) (.cons (.int 191) (.cons (.int 0) .nil)))))
                    (.br (.o2 .eqi (.o2 .idx (.v 0) (.int 0)) (.int 244))
                      (.ret (.o1 .agg (.cons (.int 128) (.cons (.int 143) (.cons (.int 0) .nil)))))
                      (.ret (.o1 .agg (.cons (.int 128) (.cons (.int 191) (.cons (.int 0) .nil))))))))))
              (.ret (.o1 .agg (.cons (.int 128) (.cons (.int 191) (.cons (.int 0) .nil))))))))
          (.br (.o2 .eqi (.o1 .len (.v 0)) (.int 1))
            (.req (.o2 .lti (.int 0) (.o1 .len (.v 0))) (.br (.o2 .eqi (.o2 .idx (.v 0) (.int 0)) (.int 224))
              (.ret (.o1 .agg (.cons (.int 160) (.cons (.int 191) (.cons (.int 0) .nil)))))
              (.br (.o2 .eqi (.o2 .idx (.v 0) (.int 0)) (.int 237))
                (.ret (.o1 .agg (.cons (.int 128) (.cons (.int 159) (.cons (.int 0) .nil)))))
                (.br (.o2 .eqi (.o2 .idx (.v 0) (.int 0)) (.int 240))
                  (.ret (.o1 .agg (.cons (.int 144) (.cons (.int 191) (.cons (.int 0) .nil)))))
                  (.br (.o2 .eqi (.o2 .idx (.v 0) (.int 0)) (.int 244))
                    (.ret (.o1 .agg (.cons (.int 128) (.cons (.int 143) (.cons (.int 0) .nil)))))
                    (.ret (.o1 .agg (.cons (.int 128) (.cons (.int 191) (.cons (.int 0) .nil))))))))))
            (.ret (.o1 .agg (.cons (.int 128) (.cons (.int 191) (.cons (.int 0) .nil))))))))))
      (.req (.o2 .lti (.int 0) (.o1 .len (.v 0))) (.br (.o2 .lei (.int 240) (.o2 .idx (.v 0) (.int 0)))
        (.req (.o2 .lti (.int 0) (.o1 .len (.v 0))) (.br (.o2 .lei (.o2 .idx (.v 0) (.int 0)) (.int 244))
          (.br (.o2 .eqi (.o1 .len (.v 0)) (.int 1))
            (.req (.o2 .lti (.int 0) (.o1 .len (.v 0))) (.br (.o2 .eqi (.o2 .idx (.v 0) (.int 0)) (.int 224))
              (.ret (.o1 .agg (.cons (.int 160) (.cons (.int 191) (.cons (.int 4) .nil)))))
              (.br (.o2 .eqi (.o2 .idx (.v 0) (.int 0)) (.int 237))
                (.ret (.o1 .agg (.cons (.int 128) (.cons (.int 159) (.cons (.int 4) .nil)))))
                (.br (.o2 .eqi (.o2 .idx (.v 0) (.int 0)) (.int 240))
                  (.ret (.o1 .agg (.cons (.int 144) (.cons (.int 191) (.cons (.int 4) .nil)))))
                  (.br (.o2 .eqi (.o2 .idx (.v 0) (.int 0)) (.int 244))
                    (.ret (.o1 .agg (.cons (.int 128) (.cons (.int 143) (.cons (.int 4) .nil)))))
                    (.ret (.o1 .agg (.cons (.int 128) (.cons (.int 191) (.cons (.int 4) .nil))))))))))
            (.ret (.o1 .agg (.cons (.int 128) (.cons (.int 191) (.cons (.int 4) .nil))))))
          (.br (.o2 .eqi (.o1 .len (.v 0)) (.int 1))
            (.req (.o2 .lti (.int 0) (.o1 .len (.v 0))) (.br (.o2 .eqi (.o2 .idx (.v 0) (.int 0)) (.int 224))
              (.ret (.o1 .agg (.cons (.int 160) (.cons (.int 191) (.cons (.int 0) .nil)))))
              (.br (.o2 .eqi (.o2 .idx (.v 0) (.int 0)) (.int 237))
                (.ret (.o1 .agg (.cons (.int 128) (.cons (.int 159) (.cons (.int 0) .nil)))))
                (.br (.o2 .eqi (.o2 .idx (.v 0) (.int 0)) (.int 240))
                  (.ret (.o1 .agg (.cons (.int 144) (.cons (.int 191) (.cons (.int 0) .nil)))))
                  (.br (.o2 .eqi (.o2 .idx (.v 0) (.int 0)) (.int 244))
                    (.ret (.o1 .agg (.cons (.int 128) (.cons (.int 143) (.cons (.int 0) .nil)))))
                    (.ret (.o1 .agg (.cons (.int 128) (.cons (.int 191) (.cons (.int 0) .nil))))))))))
            (.ret (.o1 .agg (.cons (.int 128) (.cons (.int 191) (.cons (.int 0) .nil))))))))
        (.br (.o2 .eqi (.o1 .len (.v 0)) (.int 1))
          (.req (.o2 .lti (.int 0) (.o1 .len (.v 0))) (.br (.o2 .eqi (.o2 .idx (.v 0) (.int 0)) (.int 224))
            (.ret (.o1 .agg (.cons (.int 160) (.cons (.int 191) (.cons (.int 0) .nil)))))
            (.br (.o2 .eqi (.o2 .idx (.v 0) (.int 0)) (.int 237))
              (.ret (.o1 .agg (.cons (.int 128) (.cons (.int 159) (.cons (.int 0) .nil)))))
              (.br (.o2 .eqi (.o2 .idx (.v 0) (.int 0)) (.int 240))
                (.ret (.o1 .agg (.cons (.int 144) (.cons (.int 191) (.cons (.int 0) .nil)))))
                (.br (.o2 .eqi (.o2 .idx (.v 0) (.int 0)) (.int 244))
                  (.ret (.o1 .agg (.cons (.int 128) (.cons (.int 143) (.cons (.int 0) .nil)))))
                  (.ret (.o1 .agg (.cons (.int 128) (.cons (.int 191) (.cons (.int 0) .nil))))))))))
          (.ret (.o1 .agg (.cons (.int 128) (.cons (.int 191) (.cons (.int 0) .nil)))))))))))))
set_option maxRecDepth 100000 in
theorem z4k : za4 cx_ref01_limits 4 sg_ref01_limits Tryd.f139 (Tryd.f139.body.getD .skip) = tr_ref01_limits := by kernel_rfl
theorem z4q {Γ : CEnv} (hg : ∀ n, Γ.glob n = globT n) (hs : ∀ s ∈ cx_ref01_limits.sigs, Contract Tryd.prog Γ gtab s (Γ.pre s.no) (Γ.post s.no)) : CxOk cx_ref01_limits Γ := ⟨by kernel_rfl, hs, (fun x hx => by cases hx), (fun x hx => by cases hx)⟩
theorem zlh {Γ : CEnv} (hg : ∀ n, Γ.glob n = globT n) (hs : ∀ s ∈ cx_ref01_limits.sigs, Contract Tryd.prog Γ gtab s (Γ.pre s.no) (Γ.post s.no)) (k : Nat) {pre : List TV → Prop} {post : List TV → TV → Prop} (h : ∀ ts, ts.length = 1 → pre ts → tr_ref01_limits.den Γ (post ts) ts []) : Contract Tryd.prog Γ gtab (zjk k) pre post :=
  Contract.renum (zas (z4q hg hs) 4 sg_ref01_limits Tryd.func139 (by kernel_rfl) (by kernel_rfl) fun ts hl hp => by rw [z4k]; exact h ts hl hp) k

def sg_ref01_value : Sig := ⟨140, 0, [(false, [(.slice false [(.int .u8)])])], [(false, [((.int .i32), none)])]⟩
def zkj (k : Nat) : Sig := ⟨sg_ref01_value.f, k, sg_ref01_value.args, sg_ref01_value.res⟩
def hd_ref01_value : List (FuncId × Nat × Head) := [(140, 10, ⟨[0, 3, 4], [], [4, 3], [], [], []⟩)]
def pl_ref01_value : List (FuncId × Nat × Nat × Plan) := []
noncomputable def cx_ref01_value : Cx := ⟨Tryd.prog, gtab, [], [], hd_ref01_value, pl_ref01_value, []⟩
def tr_ref01_value : Tree := (.br (.o2 .eqi (.o1 .len (.v 0)) (.int 2))
  (.req (.o2 .lti (.int 0) (.o1 .len (.v 0))) (.loop [(.o2 (.sub .i32) (.o1 (.wrap .i32) (.o2 .idx (.v 0) (.int 0))) (.int 192)), (.int 1)]
    (.br (.o2 .lti (.v 2) (.o1 .len (.v 0)))
      (.req (.o2 .lei (.int 0) (.v 2)) (.req (.o2 .lti (.v 2) (.o1 .len (.v 0))) (.back 0 [(.o2 (.sub .i32) (.o2 (.add .i32) (.o2 (.mul .i32) (.v 1) (.int 64)) (.o1 (.wrap .i32) (.o2 .idx (.v 0) (.v 2)))) (.int 128)), (.o2 (.add .i64) (.v 2) (.int 1))])))
      (.ret (.v 1)))))
  (.br (.o2 .eqi (.o1 .len (.v 0)) (.int 3))
    (.req (.o2 .lti (.int 0) (.o1 .len (.v 0))) (.loop [(.o2 (.sub .i32) (.o1 (.wrap .i32) (.o2 .idx (.v 0) (.int 0))) (.int 224)), (.int 1)]
      (.br (.o2 .lti (.v 2) (.o1 .len (.v 0)))
        (.req (.o2 .lei (.int 0) (.v 2)) (.req (.o2 .lti (.v 2) (.o1 .len (.v 0))) (.back 0 [(.o2 (.sub .i32) (.o2 (.add .i32) (.o2 (.mul .i32) (.v 1) (.int 64)) (.o1 (.wrap .i32) (.o2 .idx (.v 0) (.v 2)))) (.int 128)), (.o2 (.add .i64) (.v 2) (.int 1))])))
        (.ret (.v 1)))))
    (.br (.o2 .eqi (.o1 .len (.v 0)) (.int 4))
      (.req (.o2 .lti (.int 0) (.o1 .len (.v 0))) (.loop [(.o2 (.sub .i32) (.o1 (.wrap .i32) (.o2 .idx (.v 0) (.int 0))) (.int 240)), (.int 1)]
        (.br (.o2 .lti (.v 2) (.o1 .len (.v 0)))
          (.req (.o2 .lei (.int 0) (.v 2)) (.req (.o2 .lti (.v 2) (.o1 .len (.v 0))) (.back 0 [(.o2 (.sub .i32) (.o2 (.add .i32) (.o2 (.mul .i32) (.v 1) (.int 64)) (.o1 (.wrap .i32) (.o2 .idx (.v 0) (.v 2)))) (.int 128)), (.o2 (.add .i64) (.v 2) (.int 1))])))
          (.ret (.v 1)))))
      (.loop [(.int 0), (.int 1)]
        (.br (.o2 .lti (.v 2) (.o1 .len (.v 0)))
          (.req (.o2 .lei (.int 0) (.v 2)) (.req (.o2 .lti (.v 2) (.o1 .len (.v 0))) (.back 0 [(.o2 (.sub .i32) (.o2 (.add .i32) (.o2 (.mul .i32) (.v 1) (.int 64)) (.o1 (.wrap .i32) (.o2 .idx (.v 0) (.v 2)))) (.int 128)), (.o2 (.add .i64) (.v 2) (.int 1))])))
          (.ret (.v 1)))))))
set_option maxRecDepth 100000 in
theorem z58 : za4 cx_ref01_value 4 sg_ref01_value Tryd.f140 (Tryd.f140.body.getD .skip) = tr_ref01_value := by kernel_rfl
theorem z6d {Γ : CEnv} (hg : ∀ n, Γ.glob n = globT n) (hs : ∀ s ∈ cx_ref01_value.sigs, Contract Tryd.prog Γ gtab s (Γ.pre s.no) (Γ.post s.no)) : CxOk cx_ref01_value Γ := ⟨by kernel_rfl, hs, (fun x hx => by cases hx), (fun x hx => by cases hx)⟩
theorem zl3 {Γ : CEnv} (hg : ∀ n, Γ.glob n = globT n) (hs : ∀ s ∈ cx_ref01_value.sigs, Contract Tryd.prog Γ gtab s (Γ.pre s.no) (Γ.post s.no)) (k : Nat) {pre : List TV → Prop} {post : List TV → TV → Prop} (h : ∀ ts, ts.length = 1 → pre ts → tr_ref01_value.den Γ (post ts) ts []) : Contract Tryd.prog Γ gtab (zkj k) pre post :=
  Contract.renum (zas (z6d hg hs) 4 sg_ref01_value Tryd.func140 (by kernel_rfl) (by kernel_rfl) fun ts hl hp => by rw [z58]; exact h ts hl hp) k

def sg_ref01_Decode : Sig := ⟨128, 0, [(false, [.str]), (false, [.str])], [(false, [((.slice false [(.int .i32)]), some 21)]), (false, [(.str, none)])]⟩
def zdg (k : Nat) : Sig := ⟨sg_ref01_Decode.f, k, sg_ref01_Decode.args, sg_ref01_Decode.res⟩
def z97 : List (FuncId × Nat × Head) := [(128, 5, ⟨[6, 7, 8, 9], [.slot 7 true 21 false [(.int .i32)], .slot 8 true 5 false [(.int .u8)]], [9], [1, 0], [], []⟩)]
def z78 : List (FuncId × Nat × Nat × Plan) := [(128, 24, 5, (.op true 0 (.op true 1 (.op true 3 (.op false 2 (.op false 4 .nil))))))]
noncomputable def cx_ref01_Decode : Cx := ⟨Tryd.prog, gtab, [zjk 0, zkj 1], [], z97, z78, []⟩
def tr_ref01_Decode : Tree := (.req (.o2 .lei (.o1 .slen (.o2 .cat (.v 0) (.v 1))) (.int 9223372036854775807)) (.loop [(.int 0), .nil, .nil]
  (.br (.o2 .lti (.v 2) (.o1 .slen (.o2 .cat (.v 0) (.v 1))))
    (.req (.o2 .lei (.int 0) (.v 2)) (.req (.o2 .lti (.v 2) (.o1 .slen (.o2 .cat (.v 0) (.v 1)))) (.br (.o2 .eqi (.o1 .len (.v 4)) (.int 0))
      (.call 0 [(.cons (.o2 .sidx (.o2 .cat (.v 0) (.v 1)) (.v 2)) .nil)]
        (.br (.o2 .lti (.o2 .sidx (.o2 .cat (.v 0) (.v 1)) (.v 2)) (.int 128))
          (.req (.o2 .lei (.o1 .len (.o2 .app (.v 3) (.cons (.o1 (.wrap .i32) (.o2 .sidx (.o2 .cat (.v 0) (.v 1)) (.v 2))) .nil))) (.int 1099511627776)) (.back 0 [(.o2 (.add .i64) (.v 2) (.int 1)), (.o2 .app (.v 3) (.cons (.o1 (.wrap .i32) (.o2 .sidx (.o2 .cat (.v 0) (.v 1)) (.v 2))) .nil)), (.v 4)]))
          (.br (.o2 .lti (.int 0) (.o1 (.proj 2) (.v 5)))
            (.req (.o2 .lei (.o1 .len (.o2 .app (.v 4) (.cons (.o2 .sidx (.o2 .cat (.v 0) (.v 1)) (.v 2)) .nil))) (.int 1099511627776)) (.back 0 [(.o2 (.add .i64) (.v 2) (.int 1)), (.v 3), (.o2 .app (.v 4) (.cons (.o2 .sidx (.o2 .cat (.v 0) (.v 1)) (.v 2)) .nil))]))
            (.req (.o2 .lei (.o1 .len (.o2 .app (.v 3) (.cons (.int 65533) .nil))) (.int 1099511627776)) (.back 0 [(.o2 (.add .i64) (.v 2) (.int 1)), (.o2 .app (.v 3) (.cons (.int 65533) .nil)), (.v 4)])))))
      (.call 0 [(.v 4)]
        (.br (.o2 .lti (.o2 .sidx (.o2 .cat (.v 0) (.v 1)) (.v 2)) (.o1 (.proj 0) (.v 5)))
          (.req (.o2 .lei (.o1 .len (.o2 .app (.v 3) (.cons (.int 65533) .nil))) (.int 1099511627776)) (.back 0 [(.v 2), (.o2 .app (.v 3) (.cons (.int 65533) .nil)), .nil]))
          (.br (.o2 .lti (.o1 (.proj 1) (.v 5)) (.o2 .sidx (.o2 .cat (.v 0) (.v 1)) (.v 2)))
            (.req (.o2 .lei (.o1 .len (.o2 .app (.v 3) (.cons (.int 65533) .nil))) (.int 1099511627776)) (.back 0 [(.v 2), (.o2 .app (.v 3) (.cons (.int 65533) .nil)), .nil]))
            (.req (.o2 .lei (.o1 .len (.o2 .app (.v 4) (.cons (.o2 .sidx (.o2 .cat (.v 0) (.v 1)) (.v 2)) .nil))) (.int 1099511627776)) (.br (.o2 .eqi (.o1 .len (.o2 .app (.v 4) (.cons (.o2 .sidx (.o2 .cat (.v 0) (.v 1)) (.v 2)) .nil))) (.o1 (.proj 2) (.v 5)))
              (.call 1 [(.o2 .app (.v 4) (.cons (.o2 .sidx (.o2 .cat (.v 0) (.v 1)) (.v 2)) .nil))]
                (.req (.o2 .lei (.o1 .len (.o2 .app (.v 3) (.cons (.v 6) .nil))) (.int 1099511627776)) (.back 0 [(.o2 (.add .i64) (.v 2) (.int 1)), (.o2 .app (.v 3) (.cons (.v 6) .nil)), .nil])))
              (.back 0 [(.o2 (.add .i64) (.v 2) (.int 1)), (.v 3), (.o2 .app (.v 4) (.cons (.o2 .sidx (.o2 .cat (.v 0) (.v 1)) (.v 2)) .nil))])))))))))
    (.ret (.o1 .agg (.cons (.v 3) (.cons (.o1 .strOf (.v 4)) .nil)))))))
set_option maxRecDepth 100000 in
theorem z3z : za4 cx_ref01_Decode 4 sg_ref01_Decode Tryd.f128 (Tryd.f128.body.getD .skip) = tr_ref01_Decode := by kernel_rfl
theorem z43 {Γ : CEnv} (hg : ∀ n, Γ.glob n = globT n) (hs : ∀ s ∈ cx_ref01_Decode.sigs, Contract Tryd.prog Γ gtab s (Γ.pre s.no) (Γ.post s.no)) : CxOk cx_ref01_Decode Γ := ⟨by kernel_rfl, hs, (fun x hx => by cases hx), (fun x hx => by cases hx)⟩
theorem zk5 {Γ : CEnv} (hg : ∀ n, Γ.glob n = globT n) (hs : ∀ s ∈ cx_ref01_Decode.sigs, Contract Tryd.prog Γ gtab s (Γ.pre s.no) (Γ.post s.no)) (k : Nat) {pre : List TV → Prop} {post : List TV → TV → Prop} (h : ∀ ts, ts.length = 2 → pre ts → tr_ref01_Decode.den Γ (post ts) ts []) : Contract Tryd.prog Γ gtab (zdg k) pre post :=
  Contract.renum (zas (z43 hg hs) 4 sg_ref01_Decode Tryd.func128 (by kernel_rfl) (by kernel_rfl) fun ts hl hp => by rw [z3z]; exact h ts hl hp) k

def sg_ref01_Encode : Sig := ⟨129, 0, [(false, [(.slice false [(.int .i32)])])], [(false, [(.str, none)])]⟩
def zdo (k : Nat) : Sig := ⟨sg_ref01_Encode.f, k, sg_ref01_Encode.args, sg_ref01_Encode.res⟩
def z79 : List (FuncId × Nat × Head) := [(129, 3, ⟨[0, 3, 4], [.slot 3 true 5 false [(.int .u8)]], [4], [0], [], []⟩)]
def z7y : List (FuncId × Nat × Nat × Plan) := []
noncomputable def cx_ref01_Encode : Cx := ⟨Tryd.prog, gtab, [], [], z79, z7y, []⟩
def tr_ref01_Encode : Tree := (.loop [(.int 0), .nil]
  (.br (.o2 .lti (.v 1) (.o1 .len (.v 0)))
    (.req (.o2 .lei (.int 0) (.v 1)) (.req (.o2 .lti (.v 1) (.o1 .len (.v 0))) (.br (.o2 .lti (.o2 .idx (.v 0) (.v 1)) (.int 0))
      (.req (.o2 .lei (.o1 .len (.o2 .app (.v 2) (.cons (.int 239) (.cons (.int 191) (.cons (.int 189) .nil))))) (.int 1099511627776)) (.back 0 [(.o2 (.add .i64) (.v 1) (.int 1)), (.o2 .app (.v 2) (.cons (.int 239) (.cons (.int 191) (.cons (.int 189) .nil))))]))
      (.br (.o2 .lti (.int 1114111) (.o2 .idx (.v 0) (.v 1)))
        (.req (.o2 .lei (.o1 .len (.o2 .app (.v 2) (.cons (.int 239) (.cons (.int 191) (.cons (.int 189) .nil))))) (.int 1099511627776)) (.back 0 [(.o2 (.add .i64) (.v 1) (.int 1)), (.o2 .app (.v 2) (.cons (.int 239) (.cons (.int 191) (.cons (.int 189) .nil))))]))
        (.br (.o2 .lei (.int 55296) (.o2 .idx (.v 0) (.v 1)))
          (.br (.o2 .lei (.o2 .idx (.v 0) (.v 1)) (.int 57343))
            (.req (.o2 .lei (.o1 .len (.o2 .app (.v 2) (.cons (.int 239) (.cons (.int 191) (.cons (.int 189) .nil))))) (.int 1099511627776)) (.back 0 [(.o2 (.add .i64) (.v 1) (.int 1)), (.o2 .app (.v 2) (.cons (.int 239) (.cons (.int 191) (.cons (.int 189) .nil))))]))
            (.br (.o2 .lti (.o2 .idx (.v 0) (.v 1)) (.int 128))
              (.req (.o2 .lei (.o1 .len (.o2 .app (.v 2) (.cons (.o1 (.wrap .u8) (.o2 .idx (.v 0) (.v 1))) .nil))) (.int 1099511627776)) (.back 0 [(.o2 (.add .i64) (.v 1) (.int 1)), (.o2 .app (.v 2) (.cons (.o1 (.wrap .u8) (.o2 .idx (.v 0) (.v 1))) .nil))]))
              (.br (.o2 .lti (.o2 .idx (.v 0) (.v 1)) (.int 2048))
                (.req (.o2 .lei (.o1 .len (.o2 .app (.v 2) (.cons (.o1 (.wrap .u8) (.o2 (.add .i32) (.int 192) (.o2 (.quo .i32) (.o2 .idx (.v 0) (.v 1)) (.int 64)))) (.cons (.o1 (.wrap .u8) (.o2 (.add .i32) (.int 128) (.o2 .rem (.o2 .idx (.v 0) (.v 1)) (.int 64)))) .nil)))) (.int 1099511627776)) (.back 0 [(.o2 (.add .i64) (.v 1) (.int 1)), (.o2 .app (.v 2) (.cons (.o1 (.wrap .u8) (.o2 (.add .i32) (.int 192) (.o2 (.quo .i32) (.o2 .idx (.v 0) (.v 1)) (.int 64)))) (.cons (.o1 (.wrap .u8) (.o2 (.add .i32) (.int 128) (.o2 .rem (.o2 .idx (.v 0) (.v 1)) (.int 64)))) .nil)))]))
                (.br (.o2 .lti (.o2 .idx (.v 0) (.v 1)) (.int 65536))
                  (.req (.o2 .lei (.o1 .len (.o2 .app (.v 2) (.cons (.o1 (.wrap .u8) (.o2 (.add .i32) (.int 224) (.o2 (.quo .i32) (.o2 .idx (.v 0) (.v 1)) (.int 4096)))) (.cons (.o1 (.wrap .u8) (.o2 (.add .i32) (.int 128) (.o2 .rem (.o2 (.quo .i32) (.o2 .idx (.v 0) (.v 1)) (.int 64)) (.int 64)))) (.cons (.o1 (.wrap .u8) (.o2 (.add .i32) (.int 128) (.o2 .rem (.o2 .idx (.v 0) (.v 1)) (.int 64)))) .nil))))) (.int 1099511627776)) (.back 0 [(.o2 (.add .i64) (.v 1) (.int 1)), (.o2 .app (.v 2) (.cons (.o1 (.wrap .u8) (.o2 (.add .i32) (.int 224) (.o2 (.quo .i32) (.o2 .idx (.v 0) (.v 1)) (.int 4096)))) (.cons (.o1 (.wrap .u8) (.o2 (.add .i32) (.int 128) (.o2 .rem (.o2 (.quo .i32) (.o2 .idx (.v 0) (.v 1)) (.int 64)) (.int 64)))) (.cons (.o1 (.wrap .u8) (.o2 (.add .i32) (.int 128) (.o2 .rem (.o2 .idx (.v 0) (.v 1)) (.int 64)))) .nil))))]))
                  (.req (.o2 .lei (.o1 .len (.o2 .app (.v 2) (.cons (.o1 (.wrap .u8) (.o2 (.add .i32) (.int 240) (.o2 (.quo .i32) (.o2 .idx (.v 0) (.v 1)) (.int 262144)))) (.cons (.o1 (.wrap .u8) (.o2 (.add .i32) (.int 128) (.o2 .rem (.o2 (.quo .i32) (.o2 .idx (.v 0) (.v 1)) (.int 4096)) (.int 64)))) (.cons (.o1 (.wrap .u8) (.o2 (.add .i32) (.int 128) (.o2 .rem (.o2 (.quo .i32) (.o2 .idx (.v 0) (.v 1)) (.int 64)) (.int 64)))) (.cons (.o1 (.wrap .u8) (.o2 (.add .i32) (.int 128) (.o2 .rem (.o2 .idx (.v 0) (.v 1)) (.int 64)))) .nil)))))) (.int 1099511627776)) (.back 0 [(.o2 (.add .i64) (.v 1) (.int 1)), (.o2 .app (.v 2) (.cons (.o1 (.wrap .u8) (.o2 (.add .i32) (.int 240) (.o2 (.quo .i32) (.o2 .idx (.v 0) (.v 1)) (.int 262144)))) (.cons (.o1 (.wrap .u8) (.o2 (.add .i32) (.int 128) (.o2 .rem (.o2 (.quo .i32) (.o2 .idx (.v 0) (.v 1)) (.int 4096)) (.int 64)))) (.cons (.o1 (.wrap .u8) (.o2 (.add .i32) (.int 128) (.o2 .rem (.o2 (.quo .i32) (.o2 .idx (.v 0) (.v 1)) (.int 64)) (.int 64)))) (.cons (.o1 (.wrap .u8) (.o2 (.add .i32) (.int 128) (.o2 .rem (.o2 .idx (.v 0) (.v 1)) (.int 64)))) .nil)))))]))))))
          (.br (.o2 .lti (.o2 .idx (.v 0) (.v 1)) (.int 128))
            (.req (.o2 .lei (.o1 .len (.o2 .app (.v 2) (.cons (.o1 (.wrap .u8) (.o2 .idx (.v 0) (.v 1))) .nil))) (.int 1099511627776)) (.back 0 [(.o2 (.add .i64) (.v 1) (.int 1)), (.o2 .app (.v 2) (.cons (.o1 (.wrap .u8) (.o2 .idx (.v 0) (.v 1))) .nil))]))
            (.br (.o2 .lti (.o2 .idx (.v 0) (.v 1)) (.int 2048))
              (.req (.o2 .lei (.o1 .len (.o2 .app (.v 2) (.cons (.o1 (.wrap .u8) (.o2 (.add .i32) (.int 192) (.o2 (.quo .i32) (.o2 .idx (.v 0) (.v 1)) (.int 64)))) (.cons (.o1 (.wrap .u8) (.o2 (.add .i32) (.int 128) (.o2 .rem (.o2 .idx (.v 0) (.v 1)) (.int 64)))) .nil)))) (.int 1099511627776)) (.back 0 [(.o2 (.add .i64) (.v 1) (.int 1)), (.o2 .app (.v 2) (.cons (.o1 (.wrap .u8) (.o2 (.add .i32) (.int 192) (.o2 (.quo .i32) (.o2 .idx (.v 0) (.v 1)) (.int 64)))) (.cons (.o1 (.wrap .u8) (.o2 (.add .i32) (.int 128) (.o2 .rem (.o2 .idx (.v 0) (.v 1)) (.int 64)))) .nil)))]))
              (.br (.o2 .lti (.o2 .idx (.v 0) (.v 1)) (.int 65536))
                (.req (.o2 .lei (.o1 .len (.o2 .app (.v 2) (.cons (.o1 (.wrap .u8) (.o2 (.add .i32) (.int 224) (.o2 (.quo .i32) (.o2 .idx (.v 0) (.v 1)) (.int 4096)))) (.cons (.o1 (.wrap .u8) (.o2 (.add .i32) (.int 128) (.o2 .rem (.o2 (.quo .i32) (.o2 .idx (.v 0) (.v 1)) (.int 64)) (.int 64)))) (.cons (.o1 (.wrap .u8) (.o2 (.add .i32) (.int 128) (.o2 .rem (.o2 .idx (.v 0) (.v 1)) (.int 64)))) .nil))))) (.int 1099511627776)) (.back 0 [(.o2 (.add .i64) (.v 1) (.int 1)), (.o2 .app (.v 2) (.cons (.o1 (.wrap .u8) (.o2 (.add .i32) (.int 224) (.o2 (.quo .i32) (.o2 .idx (.v 0) (.v 1)) (.int 4096)))) (.cons (.o1 (.wrap .u8) (.o2 (.add .i32) (.int 128) (.o2 .rem (.o2 (.quo .i32) (.o2 .idx (.v 0) (.v 1)) (.int 64)) (.int 64)))) (.cons (.o1 (.wrap .u8) (.o2 (.add .i32) (.int 128) (.o2 .rem (.o2 .idx (.v 0) (.v 1)) (.int 64)))) .nil))))]))
                (.req (.o2 .lei (.o1 .len (.o2 .app (.v 2) (.cons (.o1 (.wrap .u8) (.o2 (.add .i32) (.int 240) (.o2 (.quo .i32) (.o2 .idx (.v 0) (.v 1)) (.int 262144)))) (.cons (.o1 (.wrap .u8) (.o2 (.add .i32) (.int 128) (.o2 .rem (.o2 (.quo .i32) (.o2 .idx (.v 0) (.v 1)) (.int 4096)) (.int 64)))) (.cons (.o1 (.wrap .u8) (.o2 (.add .i32) (.int 128) (.o2 .rem (.o2 (.quo .i32) (.o2 .idx (.v 0) (.v 1)) (.int 64)) (.int 64)))) (.cons (.o1 (.wrap .u8) (.o2 (.add .i32) (.int 128) (.o2 .rem (.o2 .idx (.v 0) (.v 1)) (.int 64)))) .nil)))))) (.int 1099511627776)) (.back 0 [(.o2 (.add .i64) (.v 1) (.int 1)), (.o2 .app (.v 2) (.cons (.o1 (.wrap .u8) (.o2 (.add .i32) (.int 240) (.o2 (.quo .i32) (.o2 .idx (.v 0) (.v 1)) (.int 262144)))) (.cons (.o1 (.wrap .u8) (.o2 (.add .i32) (.int 128) (.o2 .rem (.o2 (.quo .i32) (.o2 .idx (.v 0) (.v 1)) (.int 4096)) (.int 64)))) (.cons (.o1 (.wrap .u8) (.o2 (.add .i32) (.int 128) (.o2 .rem (.o2 (.quo .i32) (.o2 .idx (.v 0) (.v 1)) (.int 64)) (.int 64)))) (.cons (.o1 (.wrap .u8) (.o2 (.add .i32) (.int 128) (.o2 .rem (.o2 .idx (.v 0) (.v 1)) (.int 64)))) .nil)))))]))))))))))
    (.ret (.o1 .strOf (.v 2)))))
set_option maxRecDepth 100000 in
theorem z2r : za4 cx_ref01_Encode 4 sg_ref01_Encode Tryd.f129 (Tryd.f129.body.getD .skip) = tr_ref01_Encode := by kernel_rfl
theorem z29 {Γ : CEnv} (hg : ∀ n, Γ.glob n = globT n) (hs : ∀ s ∈ cx_ref01_Encode.sigs, Contract Tryd.prog Γ gtab s (Γ.pre s.no) (Γ.post s.no)) : CxOk cx_ref01_Encode Γ := ⟨by kernel_rfl, hs, (fun x hx => by cases hx), (fun x hx => by cases hx)⟩
theorem zlf {Γ : CEnv} (hg : ∀ n, Γ.glob n = globT n) (hs : ∀ s ∈ cx_ref01_Encode.sigs, Contract Tryd.prog Γ gtab s (Γ.pre s.no) (Γ.post s.no)) (k : Nat) {pre : List TV → Prop} {post : List TV → TV → Prop} (h : ∀ ts, ts.length = 1 → pre ts → tr_ref01_Encode.den Γ (post ts) ts []) : Contract Tryd.prog Γ gtab (zdo k) pre post :=
  Contract.renum (zas (z29 hg hs) 4 sg_ref01_Encode Tryd.func129 (by kernel_rfl) (by kernel_rfl) fun ts hl hp => by rw [z2r]; exact h ts hl hp) k
end Go.Proofs.YtlhagkbhojmjpaaDoor

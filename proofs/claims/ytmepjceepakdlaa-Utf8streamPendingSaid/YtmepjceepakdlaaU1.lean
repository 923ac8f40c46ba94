/- Written by a program of ours (Gen): the trees of the symbolic runs of functions, and their contracts' frames. -/
import Derived.Test.YtmepjceepakdlaaSx
import Derived.Test.YtmepjceepakdlaaRows
namespace Go.Proofs.Ytmepjceepakdlaa
set_option linter.unusedVariables false
set_option linter.unusedSimpArgs false
def gtab : GT := []
def globT : Nat → TV := fun _ => .list []

/-! narrator/utf8stream.begin -/
def sg_utf8stream_begin : Sig := ⟨13, 0, [(false, [(.int .u8)])], [(true, [((.int .i32), none), ((.int .i64), none), ((.int .u8), none), ((.int .u8), none)])]⟩
def sn_utf8stream_begin (k : Nat) : Sig := ⟨sg_utf8stream_begin.f, k, sg_utf8stream_begin.args, sg_utf8stream_begin.res⟩
def hd_utf8stream_begin : List (FuncId × Nat × Head) := []
def pl_utf8stream_begin : List (FuncId × Nat × Nat × List (Bool × Nat)) := []
noncomputable def cx_utf8stream_begin : Cx := ⟨Try.prog, gtab, [], [], hd_utf8stream_begin, pl_utf8stream_begin⟩
def tr_utf8stream_begin : Tree := (.br (.o2 .lei (.int 194) (.v 0))
  (.br (.o2 .lei (.v 0) (.int 223))
    (.br (.o2 .eqi (.v 0) (.int 224))
      (.ret (.o1 .agg (.cons (.o1 (.wrap .i32) (.o2 (.and .u8) (.v 0) (.int 31))) (.cons (.int 1) (.cons (.int 160) (.cons (.int 191) .nil))))))
      (.br (.o2 .eqi (.v 0) (.int 237))
        (.ret (.o1 .agg (.cons (.o1 (.wrap .i32) (.o2 (.and .u8) (.v 0) (.int 31))) (.cons (.int 1) (.cons (.int 128) (.cons (.int 159) .nil))))))
        (.br (.o2 .eqi (.v 0) (.int 240))
          (.ret (.o1 .agg (.cons (.o1 (.wrap .i32) (.o2 (.and .u8) (.v 0) (.int 31))) (.cons (.int 1) (.cons (.int 144) (.cons (.int 191) .nil))))))
          (.br (.o2 .eqi (.v 0) (.int 244))
            (.ret (.o1 .agg (.cons (.o1 (.wrap .i32) (.o2 (.and .u8) (.v 0) (.int 31))) (.cons (.int 1) (.cons (.int 128) (.cons (.int 143) .nil))))))
            (.ret (.o1 .agg (.cons (.o1 (.wrap .i32) (.o2 (.and .u8) (.v 0) (.int 31))) (.cons (.int 1) (.cons (.int 128) (.cons (.int 191) .nil))))))))))
    (.br (.o2 .lei (.int 224) (.v 0))
      (.br (.o2 .lei (.v 0) (.int 239))
        (.br (.o2 .eqi (.v 0) (.int 224))
          (.ret (.o1 .agg (.cons (.o1 (.wrap .i32) (.o2 (.and .u8) (.v 0) (.int 15))) (.cons (.int 2) (.cons (.int 160) (.cons (.int 191) .nil))))))
          (.br (.o2 .eqi (.v 0) (.int 237))
            (.ret (.o1 .agg (.cons (.o1 (.wrap .i32) (.o2 (.and .u8) (.v 0) (.int 15))) (.cons (.int 2) (.cons (.int 128) (.cons (.int 159) .nil))))))
            (.br (.o2 .eqi (.v 0) (.int 240))
              (.ret (.o1 .agg (.cons (.o1 (.wrap .i32) (.o2 (.and .u8) (.v 0) (.int 15))) (.cons (.int 2) (.cons (.int 144) (.cons (.int 191) .nil))))))
              (.br (.o2 .eqi (.v 0) (.int 244))
                (.ret (.o1 .agg (.cons (.o1 (.wrap .i32) (.o2 (.and .u8) (.v 0) (.int 15))) (.cons (.int 2) (.cons (.int 128) (.cons (.int 143) .nil))))))
                (.ret (.o1 .agg (.cons (.o1 (.wrap .i32) (.o2 (.and .u8) (.v 0) (.int 15))) (.cons (.int 2) (.cons (.int 128) (.cons (.int 191) .nil))))))))))
        (.br (.o2 .lei (.int 240) (.v 0))
          (.br (.o2 .lei (.v 0) (.int 244))
            (.br (.o2 .eqi (.v 0) (.int 224))
              (.ret (.o1 .agg (.cons (.o1 (.wrap .i32) (.o2 (.and .u8) (.v 0) (.int 7))) (.cons (.int 3) (.cons (.int 160) (.cons (.int 191) .nil))))))
              (.br (.o2 .eqi (.v 0) (.int 237))
                (.ret (.o1 .agg (.cons (.o1 (.wrap .i32) (.o2 (.and .u8) (.v 0) (.int 7))) (.cons (.int 3) (.cons (.int 128) (.cons (.int 159) .nil))))))
                (.br (.o2 .eqi (.v 0) (.int 240))
                  (.ret (.o1 .agg (.cons (.o1 (.wrap .i32) (.o2 (.and .u8) (.v 0) (.int 7))) (.cons (.int 3) (.cons (.int 144) (.cons (.int 191) .nil))))))
                  (.br (.o2 .eqi (.v 0) (.int 244))
                    (.ret (.o1 .agg (.cons (.o1 (.wrap .i32) (.o2 (.and .u8) (.v 0) (.int 7))) (.cons (.int 3) (.cons (.int 128) (.cons (.int 143) .nil))))))
                    (.ret (.o1 .agg (.cons (.o1 (.wrap .i32) (.o2 (.and .u8) (.v 0) (.int 7))) (.cons (.int 3) (.cons (.int 128) (.cons (.int 191) .nil))))))))))
            (.br (.o2 .eqi (.v 0) (.int 224))
              (.ret (.o1 .agg (.cons (.int 0) (.cons (.int 0) (.cons (.int 160) (.cons (.int 191) .nil))))))
              (.br (.o2 .eqi (.v 0) (.int 237))
                (.ret (.o1 .agg (.cons (.int 0) (.cons (.int 0) (.cons (.int 128) (.cons (.int 159) .nil))))))
                (.br (.o2 .eqi (.v 0) (.int 240))
                  (.ret (.o1 .agg (.cons (.int 0) (.cons (.int 0) (.cons (.int 144) (.cons (.int 191) .nil))))))
                  (.br (.o2 .eqi (.v 0) (.int 244))
                    (.ret (.o1 .agg (.cons (.int 0) (.cons (.int 0) (.cons (.int 128) (.cons (.int 143) .nil))))))
                    (.ret (.o1 .agg (.cons (.int 0) (.cons (.int 0) (.cons (.int 128) (.cons (.int 191) .nil)))))))))))
          (.br (.o2 .eqi (.v 0) (.int 224))
            (.ret (.o1 .agg (.cons (.int 0) (.cons (.int 0) (.cons (.int 160) (.cons (.int 191) .nil))))))
            (.br (.o2 .eqi (.v 0) (.int 237))
              (.ret (.o1 .agg (.cons (.int 0) (.cons (.int 0) (.cons (.int 128) (.cons (.int 159) .nil))))))
              (.br (.o2 .eqi (.v 0) (.int 240))
                (.ret (.o1 .agg (.cons (.int 0) (.cons (.int 0) (.cons (.int 144) (.cons (.int 191) .nil))))))
                (.br (.o2 .eqi (.v 0) (.int 244))
                  (.ret (.o1 .agg (.cons (.int 0) (.cons (.int 0) (.cons (.int 128) (.cons (.int 143) .nil))))))
                  (.ret (.o1 .agg (.cons (.int 0) (.cons (.int 0) (.cons (.int 128) (.cons (.int 191) .nil))))))))))))
      (.br (.o2 .lei (.int 240) (.v 0))
        (.br (.o2 .lei (.v 0) (.int 244))
          (.br (.o2 .eqi (.v 0) (.int 224))
            (.ret (.o1 .agg (.cons (.o1 (.wrap .i32) (.o2 (.and .u8) (.v 0) (.int 7))) (.cons (.int 3) (.cons (.int 160) (.cons (.int 191) .nil))))))
            (.br (.o2 .eqi (.v 0) (.int 237))
              (.ret (.o1 .agg (.cons (.o1 (.wrap .i32) (.o2 (.and .u8) (.v 0) (.int 7))) (.cons (.int 3) (.cons (.int 128) (.cons (.int 159) .nil))))))
              (.br (.o2 .eqi (.v 0) (.int 240))
                (.ret (.o1 .agg (.cons (.o1 (.wrap .i32) (.o2 (.and .u8) (.v 0) (.int 7))) (.cons (.int 3) (.cons (.int 144) (.cons (.int 191) .nil))))))
                (.br (.o2 .eqi (.v 0) (.int 244))
                  (.ret (.o1 .agg (.cons (.o1 (.wrap .i32) (.o2 (.and .u8) (.v 0) (.int 7))) (.cons (.int 3) (.cons (.int 128) (.cons (.int 143) .nil))))))
                  (.ret (.o1 .agg (.cons (.o1 (.wrap .i32) (.o2 (.and .u8) (.v 0) (.int 7))) (.cons (.int 3) (.cons (.int 128) (.cons (.int 191) .nil))))))))))
          (.br (.o2 .eqi (.v 0) (.int 224))
            (.ret (.o1 .agg (.cons (.int 0) (.cons (.int 0) (.cons (.int 160) (.cons (.int 191) .nil))))))
            (.br (.o2 .eqi (.v 0) (.int 237))
              (.ret (.o1 .agg (.cons (.int 0) (.cons (.int 0) (.cons (.int 128) (.cons (.int 159) .nil))))))
              (.br (.o2 .eqi (.v 0) (.int 240))
                (.ret (.o1 .agg (.cons (.int 0) (.cons (.int 0) (.cons (.int 144) (.cons (.int 191) .nil))))))
                (.br (.o2 .eqi (.v 0) (.int 244))
                  (.ret (.o1 .agg (.cons (.int 0) (.cons (.int 0) (.cons (.int 128) (.cons (.int 143) .nil))))))
                  (.ret (.o1 .agg (.cons (.int 0) (.cons (.int 0) (.cons (.int 128) (.cons (.int 191) .nil)))))))))))
        (.br (.o2 .eqi (.v 0) (.int 224))
          (.ret (.o1 .agg (.cons (.int 0) (.cons (.int 0) (.cons (.int 160) (.cons (.int 191) .nil))))))
          (.br (.o2 .eqi (.v 0) (.int 237))
            (.ret (.o1 .agg (.cons (.int 0) (.cons (.int 0) (.cons (.int 128) (.cons (.int 159) .nil))))))
            (.br (.o2 .eqi (.v 0) (.int 240))
              (.ret (.o1 .agg (.cons (.int 0) (.cons (.int 0) (.cons (.int 144) (.cons (.int 191) .nil))))))
              (.br (.o2 .eqi (.v 0) (.int 244))
                (.ret (.o1 .agg (.cons (.int 0) (.cons (.int 0) (.cons (.int 128) (.cons (.int 143) .nil))))))
                (.ret (.o1 .agg (.cons (.int 0) (.cons (.int 0) (.cons (.int 128) (.cons (.int 191) .nil)))))))))))))
  (.br (.o2 .lei (.int 224) (.v 0))
    (.br (.o2 .lei (.v 0) (.int 239))
      (.br (.o2 .eqi (.v 0) (.int 224))
        (.ret (.o1 .agg (.cons (.o1 (.wrap .i32) (.o2 (.and .u8) (.v 0) (.int 15))) (.cons (.int 2) (.cons (.int 160) (.cons (.int 191) .nil))))))
        (.br (.o2 .eqi (.v 0) (.int 237))
          (.ret (.o1 .agg (.cons (.o1 (.wrap .i32) (.o2 (.and .u8) (.v 0) (.int 15))) (.cons (.int 2) (.cons (.int 128) (.cons (.int 159) .nil))))))
          (.br (.o2 .eqi (.v 0) (.int 240))
            (.ret (.o1 .agg (.cons (.o1 (.wrap .i32) (.o2 (.and .u8) (.v 0) (.int 15))) (.cons (.int 2) (.cons (.int 144) (.cons (.int 191) .nil))))))
            (.br (.o2 .eqi (.v 0) (.int 244))
              (.ret (.o1 .agg (.cons (.o1 (.wrap .i32) (.o2 (.and .u8) (.v 0) (.int 15))) (.cons (.int 2) (.cons (.int 128) (.cons (.int 143) .nil))))))
              (.ret (.o1 .agg (.cons (.o1 (.wrap .i32) (.o2 (.and .u8) (.v 0) (.int 15))) (.cons (.int 2) (.cons (.int 128) (.cons (.int 191) .nil))))))))))
      (.br (.o2 .lei (.int 240) (.v 0))
        (.br (.o2 .lei (.v 0) (.int 244))
          (.br (.o2 .eqi (.v 0) (.int 224))
            (.ret (.o1 .agg (.cons (.o1 (.wrap .i32) (.o2 (.and .u8) (.v 0) (.int 7))) (.cons (.int 3) (.cons (.int 160) (.cons (.int 191) .nil))))))
            (.br (.o2 .eqi (.v 0) (.int 237))
              (.ret (.o1 .agg (.cons (.o1 (.wrap .i32) (.o2 (.and .u8) (.v 0) (.int 7))) (.cons (.int 3) (.cons (.int 128) (.cons (.int 159) .nil))))))
              (.br (.o2 .eqi (.v 0) (.int 240))
                (.ret (.o1 .agg (.cons (.o1 (.wrap .i32) (.o2 (.and .u8) (.v 0) (.int 7))) (.cons (.int 3) (.cons (.int 144) (.cons (.int 191) .nil))))))
                (.br (.o2 .eqi (.v 0) (.int 244))
                  (.ret (.o1 .agg (.cons (.o1 (.wrap .i32) (.o2 (.and .u8) (.v 0) (.int 7))) (.cons (.int 3) (.cons (.int 128) (.cons (.int 143) .nil))))))
                  (.ret (.o1 .agg (.cons (.o1 (.wrap .i32) (.o2 (.and .u8) (.v 0) (.int 7))) (.cons (.int 3) (.cons (.int 128) (.cons (.int 191) .nil))))))))))
          (.br (.o2 .eqi (.v 0) (.int 224))
            (.ret (.o1 .agg (.cons (.int 0) (.cons (.int 0) (.cons (.int 160) (.cons (.int 191) .nil))))))
            (.br (.o2 .eqi (.v 0) (.int 237))
              (.ret (.o1 .agg (.cons (.int 0) (.cons (.int 0) (.cons (.int 128) (.cons (.int 159) .nil))))))
              (.br (.o2 .eqi (.v 0) (.int 240))
                (.ret (.o1 .agg (.cons (.int 0) (.cons (.int 0) (.cons (.int 144) (.cons (.int 191) .nil))))))
                (.br (.o2 .eqi (.v 0) (.int 244))
                  (.ret (.o1 .agg (.cons (.int 0) (.cons (.int 0) (.cons (.int 128) (.cons (.int 143) .nil))))))
                  (.ret (.o1 .agg (.cons (.int 0) (.cons (.int 0) (.cons (.int 128) (.cons (.int 191) .nil)))))))))))
        (.br (.o2 .eqi (.v 0) (.int 224))
          (.ret (.o1 .agg (.cons (.int 0) (.cons (.int 0) (.cons (.int 160) (.cons (.int 191) .nil))))))
          (.br (.o2 .eqi (.v 0) (.int 237))
            (.ret (.o1 .agg (.cons (.int 0) (.cons (.int 0) (.cons (.int 128) (.cons (.int 159) .nil))))))
            (.br (.o2 .eqi (.v 0) (.int 240))
              (.ret (.o1 .agg (.cons (.int 0) (.cons (.int 0) (.cons (.int 144) (.cons (.int 191) .nil))))))
              (.br (.o2 .eqi (.v 0) (.int 244))
                (.ret (.o1 .agg (.cons (.int 0) (.cons (.int 0) (.cons (.int 128) (.cons (.int 143) .nil))))))
                (.ret (.o1 .agg (.cons (.int 0) (.cons (.int 0) (.cons (.int 128) (.cons (.int 191) .nil))))))))))))
    (.br (.o2 .lei (.int 240) (.v 0))
      (.br (.o2 .lei (.v 0) (.int 244))
        (.br (.o2 .eqi (.v 0) (.int 224))
          (.ret (.o1 .agg (.cons (.o1 (.wrap .i32) (.o2 (.and .u8) (.v 0) (.int 7))) (.cons (.int 3) (.cons (.int 160) (.cons (.int 191) .nil))))))
          (.br (.o2 .eqi (.v 0) (.int 237))
            (.ret (.o1 .agg (.cons (.o1 (.wrap .i32) (.o2 (.and .u8) (.v 0) (.int 7))) (.cons (.int 3) (.cons (.int 128) (.cons (.int 159) .nil))))))
            (.br (.o2 .eqi (.v 0) (.int 240))
              (.ret (.o1 .agg (.cons (.o1 (.wrap .i32) (.o2 (.and .u8) (.v 0) (.int 7))) (.cons (.int 3) (.cons (.int 144) (.cons (.int 191) .nil))))))
              (.br (.o2 .eqi (.v 0) (.int 244))
                (.ret (.o1 .agg (.cons (.o1 (.wrap .i32) (.o2 (.and .u8) (.v 0) (.int 7))) (.cons (.int 3) (.cons (.int 128) (.cons (.int 143) .nil))))))
                (.ret (.o1 .agg (.cons (.o1 (.wrap .i32) (.o2 (.and .u8) (.v 0) (.int 7))) (.cons (.int 3) (.cons (.int 128) (.cons (.int 191) .nil))))))))))
        (.br (.o2 .eqi (.v 0) (.int 224))
          (.ret (.o1 .agg (.cons (.int 0) (.cons (.int 0) (.cons (.int 160) (.cons (.int 191) .nil))))))
          (.br (.o2 .eqi (.v 0) (.int 237))
            (.ret (.o1 .agg (.cons (.int 0) (.cons (.int 0) (.cons (.int 128) (.cons (.int 159) .nil))))))
            (.br (.o2 .eqi (.v 0) (.int 240))
              (.ret (.o1 .agg (.cons (.int 0) (.cons (.int 0) (.cons (.int 144) (.cons (.int 191) .nil))))))
              (.br (.o2 .eqi (.v 0) (.int 244))
                (.ret (.o1 .agg (.cons (.int 0) (.cons (.int 0) (.cons (.int 128) (.cons (.int 143) .nil))))))
                (.ret (.o1 .agg (.cons (.int 0) (.cons (.int 0) (.cons (.int 128) (.cons (.int 191) .nil)))))))))))
      (.br (.o2 .eqi (.v 0) (.int 224))
        (.ret (.o1 .agg (.cons (.int 0) (.cons (.int 0) (.cons (.int 160) (.cons (.int 191) .nil))))))
        (.br (.o2 .eqi (.v 0) (.int 237))
          (.ret (.o1 .agg (.cons (.int 0) (.cons (.int 0) (.cons (.int 128) (.cons (.int 159) .nil))))))
          (.br (.o2 .eqi (.v 0) (.int 240))
            (.ret (.o1 .agg (.cons (.int 0) (.cons (.int 0) (.cons (.int 144) (.cons (.int 191) .nil))))))
            (.br (.o2 .eqi (.v 0) (.int 244))
              (.ret (.o1 .agg (.cons (.int 0) (.cons (.int 0) (.cons (.int 128) (.cons (.int 143) .nil))))))
              (.ret (.o1 .agg (.cons (.int 0) (.cons (.int 0) (.cons (.int 128) (.cons (.int 191) .nil)))))))))))))
set_option maxRecDepth 100000 in
theorem tree_utf8stream_begin : fnTree cx_utf8stream_begin 4 sg_utf8stream_begin Try.f13 (Try.f13.body.getD .skip) = tr_utf8stream_begin := by kernel_rfl
theorem cxok_utf8stream_begin {Γ : CEnv} (hg : ∀ n, Γ.glob n = globT n) (hs : ∀ s ∈ cx_utf8stream_begin.sigs, Contract Try.prog Γ gtab s (Γ.pre s.no) (Γ.post s.no)) : CxOk cx_utf8stream_begin Γ := ⟨by kernel_rfl, hs, fun x hx => by cases hx⟩
theorem contract_utf8stream_begin {Γ : CEnv} (hg : ∀ n, Γ.glob n = globT n) (hs : ∀ s ∈ cx_utf8stream_begin.sigs, Contract Try.prog Γ gtab s (Γ.pre s.no) (Γ.post s.no)) (k : Nat) {pre : List TV → Prop} {post : List TV → TV → Prop} (h : ∀ ts, ts.length = 1 → pre ts → tr_utf8stream_begin.den Γ (post ts) ts []) : Contract Try.prog Γ gtab (sn_utf8stream_begin k) pre post :=
  Contract.renum (contract_of (cxok_utf8stream_begin hg hs) 4 sg_utf8stream_begin Try.func13 (by kernel_rfl) (by kernel_rfl) fun ts hl hp => by rw [tree_utf8stream_begin]; exact h ts hl hp) k

/-! narrator/utf8stream.Decode -/
def sg_utf8stream_Decode : Sig := ⟨8, 0, [(false, [.str]), (false, [.str])], [(false, [((.slice false [(.int .i32)]), some 21)]), (false, [(.str, none)])]⟩
def sn_utf8stream_Decode (k : Nat) : Sig := ⟨sg_utf8stream_Decode.f, k, sg_utf8stream_Decode.args, sg_utf8stream_Decode.res⟩
def hd_utf8stream_Decode : List (FuncId × Nat × Head) := [(8, 6, ⟨[6, 7, 8, 9, 16, 17], [.slot 8 true 34 false [], .slot 7 true 21 false [(.int .i32)]], [9, 17], [1], [(0, 3), (0, 2), (0, 1), (0, 0)]⟩)]
def pl_utf8stream_Decode : List (FuncId × Nat × Nat × List (Bool × Nat)) := [(8, (23, (6, [(true, 0), (true, 1), (true, 2), (true, 3), (true, 4), (true, 5)])))]
noncomputable def cx_utf8stream_Decode : Cx := ⟨Try.prog, gtab, [sn_utf8stream_begin 0], [], hd_utf8stream_Decode, pl_utf8stream_Decode⟩
def tr_utf8stream_Decode : Tree := (.req (.o2 .lei (.o1 .slen (.o2 .cat (.v 0) (.v 1))) (.int 9223372036854775807)) (.loop [(.int 0), (.int 0), (.int 0), (.int 0), (.int 0), (.int 0), .nil]
  (.br (.o2 .lti (.v 3) (.o1 .slen (.o2 .cat (.v 0) (.v 1))))
    (.req (.o2 .lei (.int 0) (.v 3)) (.req (.o2 .lti (.v 3) (.o1 .slen (.o2 .cat (.v 0) (.v 1)))) (.br (.o2 .lti (.int 0) (.v 5))
      (.br (.o2 .lei (.v 6) (.o2 .sidx (.o2 .cat (.v 0) (.v 1)) (.v 3)))
        (.br (.o2 .lei (.o2 .sidx (.o2 .cat (.v 0) (.v 1)) (.v 3)) (.v 7))
          (.br (.o2 .eqi (.o2 (.sub .i64) (.v 5) (.int 1)) (.int 0))
            (.req (.o2 .lei (.o1 .len (.o2 .app (.v 8) (.cons (.o2 (.or .i32) (.o2 (.shl .i32) (.v 4) (.int 6)) (.o1 (.wrap .i32) (.o2 (.and .u8) (.o2 .sidx (.o2 .cat (.v 0) (.v 1)) (.v 3)) (.int 63)))) .nil))) (.int 1099511627776)) (.back 0 [(.v 2), (.o2 (.add .i64) (.v 3) (.int 1)), (.o2 (.or .i32) (.o2 (.shl .i32) (.v 4) (.int 6)) (.o1 (.wrap .i32) (.o2 (.and .u8) (.o2 .sidx (.o2 .cat (.v 0) (.v 1)) (.v 3)) (.int 63)))), (.o2 (.sub .i64) (.v 5) (.int 1)), (.int 128), (.int 191), (.o2 .app (.v 8) (.cons (.o2 (.or .i32) (.o2 (.shl .i32) (.v 4) (.int 6)) (.o1 (.wrap .i32) (.o2 (.and .u8) (.o2 .sidx (.o2 .cat (.v 0) (.v 1)) (.v 3)) (.int 63)))) .nil))]))
            (.back 0 [(.v 2), (.o2 (.add .i64) (.v 3) (.int 1)), (.o2 (.or .i32) (.o2 (.shl .i32) (.v 4) (.int 6)) (.o1 (.wrap .i32) (.o2 (.and .u8) (.o2 .sidx (.o2 .cat (.v 0) (.v 1)) (.v 3)) (.int 63)))), (.o2 (.sub .i64) (.v 5) (.int 1)), (.int 128), (.int 191), (.v 8)]))
          (.br (.o2 .lti (.int 0) (.v 5))
            (.req (.o2 .lei (.o1 .len (.o2 .app (.v 8) (.cons (.int 65533) .nil))) (.int 1099511627776)) (.call 0 [(.o2 .sidx (.o2 .cat (.v 0) (.v 1)) (.v 3))]
              (.br (.o2 .lti (.o2 .sidx (.o2 .cat (.v 0) (.v 1)) (.v 3)) (.int 128))
                (.req (.o2 .lei (.o1 .len (.o2 .app (.o2 .app (.v 8) (.cons (.int 65533) .nil)) (.cons (.o1 (.wrap .i32) (.o2 .sidx (.o2 .cat (.v 0) (.v 1)) (.v 3))) .nil))) (.int 1099511627776)) (.back 0 [(.v 3), (.o2 (.add .i64) (.v 3) (.int 1)), (.o1 (.proj 0) (.v 9)), (.o1 (.proj 1) (.v 9)), (.o1 (.proj 2) (.v 9)), (.o1 (.proj 3) (.v 9)), (.o2 .app (.o2 .app (.v 8) (.cons (.int 65533) .nil)) (.cons (.o1 (.wrap .i32) (.o2 .sidx (.o2 .cat (.v 0) (.v 1)) (.v 3))) .nil))]))
                (.br (.o2 .eqi (.o1 (.proj 1) (.v 9)) (.int 0))
                  (.req (.o2 .lei (.o1 .len (.o2 .app (.o2 .app (.v 8) (.cons (.int 65533) .nil)) (.cons (.int 65533) .nil))) (.int 1099511627776)) (.back 0 [(.v 3), (.o2 (.add .i64) (.v 3) (.int 1)), (.o1 (.proj 0) (.v 9)), (.o1 (.proj 1) (.v 9)), (.o1 (.proj 2) (.v 9)), (.o1 (.proj 3) (.v 9)), (.o2 .app (.o2 .app (.v 8) (.cons (.int 65533) .nil)) (.cons (.int 65533) .nil))]))
                  (.back 0 [(.v 3), (.o2 (.add .i64) (.v 3) (.int 1)), (.o1 (.proj 0) (.v 9)), (.o1 (.proj 1) (.v 9)), (.o1 (.proj 2) (.v 9)), (.o1 (.proj 3) (.v 9)), (.o2 .app (.v 8) (.cons (.int 65533) .nil))])))))
            (.call 0 [(.o2 .sidx (.o2 .cat (.v 0) (.v 1)) (.v 3))]
              (.br (.o2 .lti (.o2 .sidx (.o2 .cat (.v 0) (.v 1)) (.v 3)) (.int 128))
                (.req (.o2 .lei (.o1 .len (.o2 .app (.v 8) (.cons (.o1 (.wrap .i32) (.o2 .sidx (.o2 .cat (.v 0) (.v 1)) (.v 3))) .nil))) (.int 1099511627776)) (.back 0 [(.v 3), (.o2 (.add .i64) (.v 3) (.int 1)), (.o1 (.proj 0) (.v 9)), (.o1 (.proj 1) (.v 9)), (.o1 (.proj 2) (.v 9)), (.o1 (.proj 3) (.v 9)), (.o2 .app (.v 8) (.cons (.o1 (.wrap .i32) (.o2 .sidx (.o2 .cat (.v 0) (.v 1)) (.v 3))) .nil))]))
                (.br (.o2 .eqi (.o1 (.proj 1) (.v 9)) (.int 0))
                  (.req (.o2 .lei (.o1 .len (.o2 .app (.v 8) (.cons (.int 65533) .nil))) (.int 1099511627776)) (.back 0 [(.v 3), (.o2 (.add .i64) (.v 3) (.int 1)), (.o1 (.proj 0) (.v 9)), (.o1 (.proj 1) (.v 9)), (.o1 (.proj 2) (.v 9)), (.o1 (.proj 3) (.v 9)), (.o2 .app (.v 8) (.cons (.int 65533) .nil))]))
                  (.back 0 [(.v 3), (.o2 (.add .i64) (.v 3) (.int 1)), (.o1 (.proj 0) (.v 9)), (.o1 (.proj 1) (.v 9)), (.o1 (.proj 2) (.v 9)), (.o1 (.proj 3) (.v 9)), (.v 8)]))))))
        (.br (.o2 .lti (.int 0) (.v 5))
          (.req (.o2 .lei (.o1 .len (.o2 .app (.v 8) (.cons (.int 65533) .nil))) (.int 1099511627776)) (.call 0 [(.o2 .sidx (.o2 .cat (.v 0) (.v 1)) (.v 3))]
            (.br (.o2 .lti (.o2 .sidx (.o2 .cat (.v 0) (.v 1)) (.v 3)) (.int 128))
              (.req (.o2 .lei (.o1 .len (.o2 .app (.o2 .app (.v 8) (.cons (.int 65533) .nil)) (.cons (.o1 (.wrap .i32) (.o2 .sidx (.o2 .cat (.v 0) (.v 1)) (.v 3))) .nil))) (.int 1099511627776)) (.back 0 [(.v 3), (.o2 (.add .i64) (.v 3) (.int 1)), (.o1 (.proj 0) (.v 9)), (.o1 (.proj 1) (.v 9)), (.o1 (.proj 2) (.v 9)), (.o1 (.proj 3) (.v 9)), (.o2 .app (.o2 .app (.v 8) (.cons (.int 65533) .nil)) (.cons (.o1 (.wrap .i32) (.o2 .sidx (.o2 .cat (.v 0) (.v 1)) (.v 3))) .nil))]))
              (.br (.o2 .eqi (.o1 (.proj 1) (.v 9)) (.int 0))
                (.req (.o2 .lei (.o1 .len (.o2 .app (.o2 .app (.v 8) (.cons (.int 65533) .nil)) (.cons (.int 65533) .nil))) (.int 1099511627776)) (.back 0 [(.v 3), (.o2 (.add .i64) (.v 3) (.int 1)), (.o1 (.proj 0) (.v 9)), (.o1 (.proj 1) (.v 9)), (.o1 (.proj 2) (.v 9)), (.o1 (.proj 3) (.v 9)), (.o2 .app (.o2 .app (.v 8) (.cons (.int 65533) .nil)) (.cons (.int 65533) .nil))]))
                (.back 0 [(.v 3), (.o2 (.add .i64) (.v 3) (.int 1)), (.o1 (.proj 0) (.v 9)), (.o1 (.proj 1) (.v 9)), (.o1 (.proj 2) (.v 9)), (.o1 (.proj 3) (.v 9)), (.o2 .app (.v 8) (.cons (.int 65533) .nil))])))))
          (.call 0 [(.o2 .sidx (.o2 .cat (.v 0) (.v 1)) (.v 3))]
            (.br (.o2 .lti (.o2 .sidx (.o2 .cat (.v 0) (.v 1)) (.v 3)) (.int 128))
              (.req (.o2 .lei (.o1 .len (.o2 .app (.v 8) (.cons (.o1 (.wrap .i32) (.o2 .sidx (.o2 .cat (.v 0) (.v 1)) (.v 3))) .nil))) (.int 1099511627776)) (.back 0 [(.v 3), (.o2 (.add .i64) (.v 3) (.int 1)), (.o1 (.proj 0) (.v 9)), (.o1 (.proj 1) (.v 9)), (.o1 (.proj 2) (.v 9)), (.o1 (.proj 3) (.v 9)), (.o2 .app (.v 8) (.cons (.o1 (.wrap .i32) (.o2 .sidx (.o2 .cat (.v 0) (.v 1)) (.v 3))) .nil))]))
              (.br (.o2 .eqi (.o1 (.proj 1) (.v 9)) (.int 0))
                (.req (.o2 .lei (.o1 .len (.o2 .app (.v 8) (.cons (.int 65533) .nil))) (.int 1099511627776)) (.back 0 [(.v 3), (.o2 (.add .i64) (.v 3) (.int 1)), (.o1 (.proj 0) (.v 9)), (.o1 (.proj 1) (.v 9)), (.o1 (.proj 2) (.v 9)), (.o1 (.proj 3) (.v 9)), (.o2 .app (.v 8) (.cons (.int 65533) .nil))]))
                (.back 0 [(.v 3), (.o2 (.add .i64) (.v 3) (.int 1)), (.o1 (.proj 0) (.v 9)), (.o1 (.proj 1) (.v 9)), (.o1 (.proj 2) (.v 9)), (.o1 (.proj 3) (.v 9)), (.v 8)]))))))
      (.br (.o2 .lti (.int 0) (.v 5))
        (.req (.o2 .lei (.o1 .len (.o2 .app (.v 8) (.cons (.int 65533) .nil))) (.int 1099511627776)) (.call 0 [(.o2 .sidx (.o2 .cat (.v 0) (.v 1)) (.v 3))]
          (.br (.o2 .lti (.o2 .sidx (.o2 .cat (.v 0) (.v 1)) (.v 3)) (.int 128))
            (.req (.o2 .lei (.o1 .len (.o2 .app (.o2 .app (.v 8) (.cons (.int 65533) .nil)) (.cons (.o1 (.wrap .i32) (.o2 .sidx (.o2 .cat (.v 0) (.v 1)) (.v 3))) .nil))) (.int 1099511627776)) (.back 0 [(.v 3), (.o2 (.add .i64) (.v 3) (.int 1)), (.o1 (.proj 0) (.v 9)), (.o1 (.proj 1) (.v 9)), (.o1 (.proj 2) (.v 9)), (.o1 (.proj 3) (.v 9)), (.o2 .app (.o2 .app (.v 8) (.cons (.int 65533) .nil)) (.cons (.o1 (.wrap .i32) (.o2 .sidx (.o2 .cat (.v 0) (.v 1)) (.v 3))) .nil))]))
            (.br (.o2 .eqi (.o1 (.proj 1) (.v 9)) (.int 0))
              (.req (.o2 .lei (.o1 .len (.o2 .app (.o2 .app (.v 8) (.cons (.int 65533) .nil)) (.cons (.int 65533) .nil))) (.int 1099511627776)) (.back 0 [(.v 3), (.o2 (.add .i64) (.v 3) (.int 1)), (.o1 (.proj 0) (.v 9)), (.o1 (.proj 1) (.v 9)), (.o1 (.proj 2) (.v 9)), (.o1 (.proj 3) (.v 9)), (.o2 .app (.o2 .app (.v 8) (.cons (.int 65533) .nil)) (.cons (.int 65533) .nil))]))
              (.back 0 [(.v 3), (.o2 (.add .i64) (.v 3) (.int 1)), (.o1 (.proj 0) (.v 9)), (.o1 (.proj 1) (.v 9)), (.o1 (.proj 2) (.v 9)), (.o1 (.proj 3) (.v 9)), (.o2 .app (.v 8) (.cons (.int 65533) .nil))])))))
        (.call 0 [(.o2 .sidx (.o2 .cat (.v 0) (.v 1)) (.v 3))]
          (.br (.o2 .lti (.o2 .sidx (.o2 .cat (.v 0) (.v 1)) (.v 3)) (.int 128))
            (.req (.o2 .lei (.o1 .len (.o2 .app (.v 8) (.cons (.o1 (.wrap .i32) (.o2 .sidx (.o2 .cat (.v 0) (.v 1)) (.v 3))) .nil))) (.int 1099511627776)) (.back 0 [(.v 3), (.o2 (.add .i64) (.v 3) (.int 1)), (.o1 (.proj 0) (.v 9)), (.o1 (.proj 1) (.v 9)), (.o1 (.proj 2) (.v 9)), (.o1 (.proj 3) (.v 9)), (.o2 .app (.v 8) (.cons (.o1 (.wrap .i32) (.o2 .sidx (.o2 .cat (.v 0) (.v 1)) (.v 3))) .nil))]))
            (.br (.o2 .eqi (.o1 (.proj 1) (.v 9)) (.int 0))
              (.req (.o2 .lei (.o1 .len (.o2 .app (.v 8) (.cons (.int 65533) .nil))) (.int 1099511627776)) (.back 0 [(.v 3), (.o2 (.add .i64) (.v 3) (.int 1)), (.o1 (.proj 0) (.v 9)), (.o1 (.proj 1) (.v 9)), (.o1 (.proj 2) (.v 9)), (.o1 (.proj 3) (.v 9)), (.o2 .app (.v 8) (.cons (.int 65533) .nil))]))
              (.back 0 [(.v 3), (.o2 (.add .i64) (.v 3) (.int 1)), (.o1 (.proj 0) (.v 9)), (.o1 (.proj 1) (.v 9)), (.o1 (.proj 2) (.v 9)), (.o1 (.proj 3) (.v 9)), (.v 8)]))))))))
    (.br (.o2 .eqi (.v 5) (.int 0))
      (.ret (.o1 .agg (.cons (.v 8) (.cons (.str []) .nil))))
      (.req (.o2 .lei (.int 0) (.v 2)) (.req (.o2 .lei (.v 2) (.o1 .slen (.o2 .cat (.v 0) (.v 1)))) (.ret (.o1 .agg (.cons (.v 8) (.cons (.o3 .ssub (.o2 .cat (.v 0) (.v 1)) (.v 2) (.o1 .slen (.o2 .cat (.v 0) (.v 1)))) .nil))))))))))
set_option maxRecDepth 100000 in
theorem tree_utf8stream_Decode : fnTree cx_utf8stream_Decode 4 sg_utf8stream_Decode Try.f8 (Try.f8.body.getD .skip) = tr_utf8stream_Decode := by kernel_rfl
theorem cxok_utf8stream_Decode {Γ : CEnv} (hg : ∀ n, Γ.glob n = globT n) (hs : ∀ s ∈ cx_utf8stream_Decode.sigs, Contract Try.prog Γ gtab s (Γ.pre s.no) (Γ.post s.no)) : CxOk cx_utf8stream_Decode Γ := ⟨by kernel_rfl, hs, fun x hx => by cases hx⟩
theorem contract_utf8stream_Decode {Γ : CEnv} (hg : ∀ n, Γ.glob n = globT n) (hs : ∀ s ∈ cx_utf8stream_Decode.sigs, Contract Try.prog Γ gtab s (Γ.pre s.no) (Γ.post s.no)) (k : Nat) {pre : List TV → Prop} {post : List TV → TV → Prop} (h : ∀ ts, ts.length = 2 → pre ts → tr_utf8stream_Decode.den Γ (post ts) ts []) : Contract Try.prog Γ gtab (sn_utf8stream_Decode k) pre post :=
  Contract.renum (contract_of (cxok_utf8stream_Decode hg hs) 4 sg_utf8stream_Decode Try.func8 (by kernel_rfl) (by kernel_rfl) fun ts hl hp => by rw [tree_utf8stream_Decode]; exact h ts hl hp) k

/-! narrator/utf8stream.Finish -/
def sg_utf8stream_Finish : Sig := ⟨11, 0, [(false, [.str])], [(false, [((.slice false [(.int .i32)]), some 21)])]⟩
def sn_utf8stream_Finish (k : Nat) : Sig := ⟨sg_utf8stream_Finish.f, k, sg_utf8stream_Finish.args, sg_utf8stream_Finish.res⟩
def hd_utf8stream_Finish : List (FuncId × Nat × Head) := []
def pl_utf8stream_Finish : List (FuncId × Nat × Nat × List (Bool × Nat)) := []
noncomputable def cx_utf8stream_Finish : Cx := ⟨Try.prog, gtab, [sn_utf8stream_Decode 0], [], hd_utf8stream_Finish, pl_utf8stream_Finish⟩
def tr_utf8stream_Finish : Tree := (.call 0 [(.str []), (.v 0)]
  (.br (.o1 .no (.o2 .eqs (.o1 (.proj 1) (.v 1)) (.str [])))
    (.req (.o2 .lei (.o1 .len (.o2 .app (.o1 (.proj 0) (.v 1)) (.cons (.int 65533) .nil))) (.int 1099511627776)) (.ret (.o2 .app (.o1 (.proj 0) (.v 1)) (.cons (.int 65533) .nil))))
    (.ret (.o1 (.proj 0) (.v 1)))))
set_option maxRecDepth 100000 in
theorem tree_utf8stream_Finish : fnTree cx_utf8stream_Finish 4 sg_utf8stream_Finish Try.f11 (Try.f11.body.getD .skip) = tr_utf8stream_Finish := by kernel_rfl
theorem cxok_utf8stream_Finish {Γ : CEnv} (hg : ∀ n, Γ.glob n = globT n) (hs : ∀ s ∈ cx_utf8stream_Finish.sigs, Contract Try.prog Γ gtab s (Γ.pre s.no) (Γ.post s.no)) : CxOk cx_utf8stream_Finish Γ := ⟨by kernel_rfl, hs, fun x hx => by cases hx⟩
theorem contract_utf8stream_Finish {Γ : CEnv} (hg : ∀ n, Γ.glob n = globT n) (hs : ∀ s ∈ cx_utf8stream_Finish.sigs, Contract Try.prog Γ gtab s (Γ.pre s.no) (Γ.post s.no)) (k : Nat) {pre : List TV → Prop} {post : List TV → TV → Prop} (h : ∀ ts, ts.length = 1 → pre ts → tr_utf8stream_Finish.den Γ (post ts) ts []) : Contract Try.prog Γ gtab (sn_utf8stream_Finish k) pre post :=
  Contract.renum (contract_of (cxok_utf8stream_Finish hg hs) 4 sg_utf8stream_Finish Try.func11 (by kernel_rfl) (by kernel_rfl) fun ts hl hp => by rw [tree_utf8stream_Finish]; exact h ts hl hp) k

/-! narrator/narratorref01.limits -/
def sg_ref01_limits : Sig := ⟨14, 0, [(false, [(.slice false [(.int .u8)])])], [(false, [((.int .u8), none)]), (false, [((.int .u8), none)]), (false, [((.int .i64), none)])]⟩
def sn_ref01_limits (k : Nat) : Sig := ⟨sg_ref01_limits.f, k, sg_ref01_limits.args, sg_ref01_limits.res⟩
def hd_ref01_limits : List (FuncId × Nat × Head) := []
def pl_ref01_limits : List (FuncId × Nat × Nat × List (Bool × Nat)) := []
noncomputable def cx_ref01_limits : Cx := ⟨Try.prog, gtab, [], [], hd_ref01_limits, pl_ref01_limits⟩
def tr_ref01_limits : Tree := (.br (.o2 .eqi (.o1 .len (.v 0)) (.int 0))
  (.ret (.o1 .agg (.cons (.int 0) (.cons (.int 255) (.cons (.int 0) .nil)))))
  (.req (.o2 .lti (.int 0) (.o1 .len (.v 0))) (.br (.o2 .lei (.int 194) (.o2 .idx (.v 0) (.int 0)))
    (.req (.o2 .lti (.int 0) (.o1 .len (.v 0))) (.br (.o2 .lei (.o2 .idx (.v 0) (.int 0)) (.int 223))
      (.br (.o2 .eqi (.o1 .len (.v 0)) (.int 1))
        (.req (.o2 .lti (.int 0) (.o1 .len (.v 0))) (.br (.o2 .eqi (.o2 .idx (.v 0) (.int 0)) (.int 224))
          (.ret (.o1 .agg (.cons (.int 160) (.cons (.int 191) (.cons (.int 2) .nil)))))
          (.br (.o2 .eqi (.o2 .idx (.v 0) (.int 0)) (.int 237))
            (.ret (.o1 .agg (.cons (.int 128) (.cons (.int 159) (.cons (.int 2) .nil)))))
            (.br (.o2 .eqi (.o2 .idx (.v 0) (.int 0)) (.int 240))
              (.ret (.o1 .agg (.cons (.int 144) (.cons (.int 191) (.cons (.int 2) .nil)))))
              (.br (.o2 .eqi (.o2 .idx (.v 0) (.int 0)) (.int 244))
                (.ret (.o1 .agg (.cons (.int 128) (.cons (.int 143) (.cons (.int 2) .nil)))))
                (.ret (.o1 .agg (.cons (.int 128) (.cons (.int 191) (.cons (.int 2) .nil))))))))))
        (.ret (.o1 .agg (.cons (.int 128) (.cons (.int 191) (.cons (.int 2) .nil))))))
      (.req (.o2 .lti (.int 0) (.o1 .len (.v 0))) (.br (.o2 .lei (.int 224) (.o2 .idx (.v 0) (.int 0)))
        (.req (.o2 .lti (.int 0) (.o1 .len (.v 0))) (.br (.o2 .lei (.o2 .idx (.v 0) (.int 0)) (.int 239))
          (.br (.o2 .eqi (.o1 .len (.v 0)) (.int 1))
            (.req (.o2 .lti (.int 0) (.o1 .len (.v 0))) (.br (.o2 .eqi (.o2 .idx (.v 0) (.int 0)) (.int 224))
              (.ret (.o1 .agg (.cons (.int 160) (.cons (.int 191) (.cons (.int 3) .nil)))))
              (.br (.o2 .eqi (.o2 .idx (.v 0) (.int 0)) (.int 237))
                (.ret (.o1 .agg (.cons (.int 128) (.cons (.int 159) (.cons (.int 3) .nil)))))
                (.br (.o2 .eqi (.o2 .idx (.v 0) (.int 0)) (.int 240))
                  (.ret (.o1 .agg (.cons (.int 144) (.cons (.int 191) (.cons (.int 3) .nil)))))
                  (.br (.o2 .eqi (.o2 .idx (.v 0) (.int 0)) (.int 244))
                    (.ret (.o1 .agg (.cons (.int 128) (.cons (.int 143) (.cons (.int 3) .nil)))))
                    (.ret (.o1 .agg (.cons (.int 128) (.cons (.int 191) (.cons (.int 3) .nil))))))))))
            (.ret (.o1 .agg (.cons (.int 128) (.cons (.int 191) (.cons (.int 3) .nil))))))
          (.req (.o2 .lti (.int 0) (.o1 .len (.v 0))) (.br (.o2 .lei (.int 240) (.o2 .idx (.v 0) (.int 0)))
            (.req (.o2 .lti (.int 0) (.o1 .len (.v 0))) (.br (.o2 .lei (.o2 .idx (.v 0) (.int 0)) (.int 244))
              (.br (.o2 .eqi (.o1 .len (.v 0)) (.int 1))
                (.req (.o2 .lti (.int 0) (.o1 .len (.v 0))) (.br (.o2 .eqi (.o2 .idx (.v 0) (.int 0)) (.int 224))
                  (.ret (.o1 .agg (.cons (.int 160) (.cons (.int 191) (.cons (.int 4) .nil)))))
                  (.br (.o2 .eqi (.o2 .idx (.v 0) (.int 0)) (.int 237))
                    (.ret (.o1 .agg (.cons (.int 128) (.cons (.int 159) (.cons (.int 4) .nil)))))
                    (.br (.o2 .eqi (.o2 .idx (.v 0) (.int 0)) (.int 240))
                      (.ret (.o1 .agg (.cons (.int 144) (.cons (.int 191) (.cons (.int 4) .nil)))))
                      (.br (.o2 .eqi (.o2 .idx (.v 0) (.int 0)) (.int 244))
                        (.ret (.o1 .agg (.cons (.int 128) (.cons (.int 143) (.cons (.int 4) .nil)))))
                        (.ret (.o1 .agg (.cons (.int 128) (.cons (.int 191) (.cons (.int 4) .nil))))))))))
                (.ret (.o1 .agg (.cons (.int 128) (.cons (.int 191) (.cons (.int 4) .nil))))))
              (.br (.o2 .eqi (.o1 .len (.v 0)) (.int 1))
                (.req (.o2 .lti (.int 0) (.o1 .len (.v 0))) (.br (.o2 .eqi (.o2 .idx (.v 0) (.int 0)) (.int 224))
                  (.ret (.o1 .agg (.cons (.int 160) (.cons (.int 191) (.cons (.int 0) .nil)))))
                  (.br (.o2 .eqi (.o2 .idx (.v 0) (.int 0)) (.int 237))
                    (.ret (.o1 .agg (.cons (.int 128) (.cons (.int 159) (.cons (.int 0) .nil)))))
                    (.br (.o2 .eqi (.o2 .idx (.v 0) (.int 0)) (.int 240))
                      (.ret (.o1 .agg (.cons (.int 144) (.cons (.int 191) (.cons (.int 0) .nil)))))
                      (.br (.o2 .eqi (.o2 .idx (.v 0) (.int 0)) (.int 244))
                        (.ret (.o1 .agg (.cons (.int 128) (.cons (.int 143) (.cons (.int 0) .nil)))))
                        (.ret (.o1 .agg (.cons (.int 128) (.cons (.int 191) (.cons (.int 0) .nil))))))))))
                (.ret (.o1 .agg (.cons (.int 128) (.cons (.int 191) (.cons (.int 0) .nil))))))))
            (.br (.o2 .eqi (.o1 .len (.v 0)) (.int 1))
              (.req (.o2 .lti (.int 0) (.o1 .len (.v 0))) (.br (.o2 .eqi (.o2 .idx (.v 0) (.int 0)) (.int 224))
                (.ret (.o1 .agg (.cons (.int 160) (.cons (.int 191) (.cons (.int 0) .nil)))))
                (.br (.o2 .eqi (.o2 .idx (.v 0) (.int 0)) (.int 237))
                  (.ret (.o1 .agg (.cons (.int 128) (.cons (.int 159) (.cons (.int 0) .nil)))))
                  (.br (.o2 .eqi (.o2 .idx (.v 0) (.int 0)) (.int 240))
                    (.ret (.o1 .agg (.cons (.int 144) (.cons (.int 191) (.cons (.int 0) .nil)))))
                    (.br (.o2 .eqi (.o2 .idx (.v 0) (.int 0)) (.int 244))
                      (.ret (.o1 .agg (.cons (.int 128) (.cons (.int 143) (.cons (.int 0) .nil)))))
                      (.ret (.o1 .agg (.cons (.int 128) (.cons (.int 191) (.cons (.int 0) .nil))))))))))
              (.ret (.o1 .agg (.cons (.int 128) (.cons (.int 191) (.cons (.int 0) .nil))))))))))
        (.req (.o2 .lti (.int 0) (.o1 .len (.v 0))) (.br (.o2 .lei (.int 240) (.o2 .idx (.v 0) (.int 0)))
          (.req (.o2 .lti (.int 0) (.o1 .len (.v 0))) (.br (.o2 .lei (.o2 .idx (.v 0) (.int 0)) (.int 244))
            (.br (.o2 .eqi (.o1 .len (.v 0)) (.int 1))
              (.req (.o2 .lti (.int 0) (.o1 .len (.v 0))) (.br (.o2 .eqi (.o2 .idx (.v 0) (.int 0)) (.int 224))
                (.ret (.o1 .agg (.cons (.int 160) (.cons (.int 191) (.cons (.int 4) .nil)))))
                (.br (.o2 .eqi (.o2 .idx (.v 0) (.int 0)) (.int 237))
                  (.ret (.o1 .agg (.cons (.int 128) (.cons (.int 159) (.cons (.int 4) .nil)))))
                  (.br (.o2 .eqi (.o2 .idx (.v 0) (.int 0)) (.int 240))
                    (.ret (.o1 .agg (.cons (.int 144) (.cons (.int 191) (.cons (.int 4) .nil)))))
                    (.br (.o2 .eqi (.o2 .idx (.v 0) (.int 0)) (.int 244))
                      (.ret (.o1 .agg (.cons (.int 128) (.cons (.int 143) (.cons (.int 4) .nil)))))
                      (.ret (.o1 .agg (.cons (.int 128) (.cons (.int 191) (.cons (.int 4) .nil))))))))))
              (.ret (.o1 .agg (.cons (.int 128) (.cons (.int 191) (.cons (.int 4) .nil))))))
            (.br (.o2 .eqi (.o1 .len (.v 0)) (.int 1))
              (.req (.o2 .lti (.int 0) (.o1 .len (.v 0))) (.br (.o2 .eqi (.o2 .idx (.v 0) (.int 0)) (.int 224))
                (.ret (.o1 .agg (.cons (.int 160) (.cons (.int 191) (.cons (.int 0) .nil)))))
                (.br (.o2 .eqi (.o2 .idx (.v 0) (.int 0)) (.int 237))
                  (.ret (.o1 .agg (.cons (.int 128) (.cons (.int 159) (.cons (.int 0) .nil)))))
                  (.br (.o2 .eqi (.o2 .idx (.v 0) (.int 0)) (.int 240))
                    (.ret (.o1 .agg (.cons (.int 144) (.cons (.int 191) (.cons (.int 0) .nil)))))
                    (.br (.o2 .eqi (.o2 .idx (.v 0) (.int 0)) (.int 244))
                      (.ret (.o1 .agg (.cons (.int 128) (.cons (.int 143) (.cons (.int 0) .nil)))))
                      (.ret (.o1 .agg (.cons (.int 128) (.cons (.int 191) (.cons (.int 0) .nil))))))))))
              (.ret (.o1 .agg (.cons (.int 128) (.cons (.int 191) (.cons (.int 0) .nil))))))))
          (.br (.o2 .eqi (.o1 .len (.v 0)) (.int 1))
            (.req (.o2 .lti (.int 0) (.o1 .len (.v 0))) (.br (.o2 .eqi (.o2 .idx (.v 0) (.int 0)) (.int 224))
              (.ret (.o1 .agg (.cons (.int 160) (.cons (.int 191) (.cons (.int 0) .nil)))))
              (.br (.o2 .eqi (.o2 .idx (.v 0) (.int 0)) (.int 237))
                (.ret (.o1 .agg (.cons (.int 128) (.cons (.int 159) (.cons (.int 0) .nil)))))
                (.br (.o2 .eqi (.o2 .idx (.v 0) (.int 0)) (.int 240))
                  (.ret (.o1 .agg (.cons (.int 144) (.cons (.int 191) (.cons (.int 0) .nil)))))
                  (.br (.o2 .eqi (.o2 .idx (.v 0) (.int 0)) (.int 244))
                    (.ret (.o1 .agg (.cons (.int 128) (.cons (.int 143) (.cons (.int 0) .nil)))))
                    (.ret (.o1 .agg (.cons (.int 128) (.cons (.int 191) (.cons (.int 0) .nil))))))))))
            (.ret (.o1 .agg (.cons (.int 128) (.cons (.int 191) (.cons (.int 0) .nil))))))))))))
    (.req (.o2 .lti (.int 0) (.o1 .len (.v 0))) (.br (.o2 .lei (.int 224) (.o2 .idx (.v 0) (.int 0)))
      (.req (.o2 .lti (.int 0) (.o1 .len (.v 0))) (.br (.o2 .lei (.o2 .idx (.v 0) (.int 0)) (.int 239))
        (.br (.o2 .eqi (.o1 .len (.v 0)) (.int 1))
          (.req (.o2 .lti (.int 0) (.o1 .len (.v 0))) (.br (.o2 .eqi (.o2 .idx (.v 0) (.int 0)) (.int 224))
            (.ret (.o1 .agg (.cons (.int 160) (.cons (.int 191) (.cons (.int 3) .nil)))))
            (.br (.o2 .eqi (.o2 .idx (.v 0) (.int 0)) (.int 237))
              (.ret (.o1 .agg (.cons (.int 128) (.cons (.int 159) (.cons (.int 3) .nil)))))
              (.br (.o2 .eqi (.o2 .idx (.v 0) (.int 0)) (.int 240))
                (.ret (.o1 .agg (.cons (.int 144) (.cons (.int 191) (.cons (.int 3) .nil)))))
                (.br (.o2 .eqi (.o2 .idx (.v 0) (.int 0)) (.int 244))
                  (.ret (.o1 .agg (.cons (.int 128) (.cons (.int 143) (.cons (.int 3) .nil)))))
                  (.ret (.o1 .agg (.cons (.int 128) (.cons (.int 191) (.cons (.int 3) .nil))))))))))
          (.ret (.o1 .agg (.cons (.int 128) (.cons (.int 191) (.cons (.int 3) .nil))))))
        (.req (.o2 .lti (.int 0) (.o1 .len (.v 0))) (.br (.o2 .lei (.int 240) (.o2 .idx (.v 0) (.int 0)))
          (.req (.o2 .lti (.int 0) (.o1 .len (.v 0))) (.br (.o2 .lei (.o2 .idx (.v 0) (.int 0)) (.int 244))
            (.br (.o2 .eqi (.o1 .len (.v 0)) (.int 1))
              (.req (.o2 .lti (.int 0) (.o1 .len (.v 0))) (.br (.o2 .eqi (.o2 .idx (.v 0) (.int 0)) (.int 224))
                (.ret (.o1 .agg (.cons (.int 160) (.cons (.int 191) (.cons (.int 4) .nil)))))
                (.br (.o2 .eqi (.o2 .idx (.v 0) (.int 0)) (.int 237))
                  (.ret (.o1 .agg (.cons (.int 128) (.cons (.int 159) (.cons (.int 4) .nil)))))
                  (.br (.o2 .eqi (.o2 .idx (.v 0) (.int 0)) (.int 240))
                    (.ret (.o1 .agg (.cons (.int 144) (.cons (.int 191) (.cons (.int 4) .nil)))))
                    (.br (.o2 .eqi (.o2 .idx (.v 0) (.int 0)) (.int 244))
                      (.ret (.o1 .agg (.cons (.int 128) (.cons (.int 143) (.cons (.int 4) .nil)))))
                      (.ret (.o1 .agg (.cons (.int 128) (.cons (.int 191) (.cons (.int 4) .nil))))))))))
              (.ret (.o1 .agg (.cons (.int 128) (.cons (.int 191) (.cons (.int 4) .nil))))))
            (.br (.o2 .eqi (.o1 .len (.v 0)) (.int 1))
              (.req (.o2 .lti (.int 0) (.o1 .len (.v 0))) (.br (.o2 .eqi (.o2 .idx (.v 0) (.int 0)) (.int 224))
                (.ret (.o1 .agg (.cons (.int 160) (.cons (.int 191) (.cons (.int 0) .nil)))))
                (.br (.o2 .eqi (.o2 .idx (.v 0) (.int 0)) (.int 237))
                  (.ret (.o1 .agg (.cons (.int 128) (.cons (.int 159) (.cons (.int 0) .nil)))))
                  (.br (.o2 .eqi (.o2 .idx (.v 0) (.int 0)) (.int 240))
                    (.ret (.o1 .agg (.cons (.int 144) (.cons (.int 191) (.cons (.int 0) .nil)))))
                    (.br (.o2 .eqi (.o2 .idx (.v 0) (.int 0)) (.int 244))
                      (.ret (.o1 .agg (.cons (.int 128) (.cons (.int 143) (.cons (.int 0) .nil)))))
                      (.ret (.o1 .agg (.cons (.int 128) (.cons (.int 191) (.cons (.int 0) .nil))))))))))
              (.ret (.o1 .agg (.cons (.int 128) (.cons (.int 191) (.cons (.int 0) .nil))))))))
          (.br (.o2 .eqi (.o1 .len (.v 0)) (.int 1))
            (.req (.o2 .lti (.int 0) (.o1 .len (.v 0))) (.br (.o2 .eqi (.o2 .idx (.v 0) (.int 0)) (.int 224))
              (.ret (.o1 .agg (.cons (.int 160) (.cons (.int 191) (.cons (.int 0) .nil)))))
              (.br (.o2 .eqi (.o2 .idx (.v 0) (.int 0)) (.int 237))
                (.ret (.o1 .agg (.cons (.int 128) (.cons (.int 159) (.cons (.int 0) .nil)))))
                (.br (.o2 .eqi (.o2 .idx (.v 0) (.int 0)) (.int 240))
                  (.ret (.o1 .agg (.cons (.int 144) (.cons (.int 191) (.cons (.int 0) .nil)))))
                  (.br (.o2 .eqi (.o2 .idx (.v 0) (.int 0)) (.int 244))
                    (.ret (.o1 .agg (.cons (.int 128) (.cons (.int 143) (.cons (.int 0) .nil)))))
                    (.ret (.o1 .agg (.cons (.int 128) (.cons (.int 191) (.cons (.int 0) .nil))))))))))
            (.ret (.o1 .agg (.cons (.int 128) (.cons (.int 191) (.cons (.int 0) .nil))))))))))
      (.req (.o2 .lti (.int 0) (.o1 .len (.v 0))) (.br (.o2 .lei (.int 240) (.o2 .idx (.v 0) (.int 0)))
        (.req (.o2 .lti (.int 0) (.o1 .len (.v 0))) (.br (.o2 .lei (.o2 .idx (.v 0) (.int 0)) (.int 244))
          (.br (.o2 .eqi (.o1 .len (.v 0)) (.int 1))
            (.req (.o2 .lti (.int 0) (.o1 .len (.v 0))) (.br (.o2 .eqi (.o2 .idx (.v 0) (.int 0)) (.int 224))
              (.ret (.o1 .agg (.cons (.int 160) (.cons (.int 191) (.cons (.int 4) .nil)))))
              (.br (.o2 .eqi (.o2 .idx (.v 0) (.int 0)) (.int 237))
                (.ret (.o1 .agg (.cons (.int 128) (.cons (.int 159) (.cons (.int 4) .nil)))))
                (.br (.o2 .eqi (.o2 .idx (.v 0) (.int 0)) (.int 240))
                  (.ret (.o1 .agg (.cons (.int 144) (.cons (.int 191) (.cons (.int 4) .nil)))))
                  (.br (.o2 .eqi (.o2 .idx (.v 0) (.int 0)) (.int 244))
                    (.ret (.o1 .agg (.cons (.int 128) (.cons (.int 143) (.cons (.int 4) .nil)))))
                    (.ret (.o1 .agg (.cons (.int 128) (.cons (.int 191) (.cons (.int 4) .nil))))))))))
            (.ret (.o1 .agg (.cons (.int 128) (.cons (.int 191) (.cons (.int 4) .nil))))))
          (.br (.o2 .eqi (.o1 .len (.v 0)) (.int 1))
            (.req (.o2 .lti (.int 0) (.o1 .len (.v 0))) (.br (.o2 .eqi (.o2 .idx (.v 0) (.int 0)) (.int 224))
              (.ret (.o1 .agg (.cons (.int 160) (.cons (.int 191) (.cons (.int 0) .nil)))))
              (.br (.o2 .eqi (.o2 .idx (.v 0) (.int 0)) (.int 237))
                (.ret (.o1 .agg (.cons (.int 128) (.cons (.int 159) (.cons (.int 0) .nil)))))
                (.br (.o2 .eqi (.o2 .idx (.v 0) (.int 0)) (.int 240))
                  (.ret (.o1 .agg (.cons (.int 144) (.cons (.int 191) (.cons (.int 0) .nil)))))
                  (.br (.o2 .eqi (.o2 .idx (.v 0) (.int 0)) (.int 244))
                    (.ret (.o1 .agg (.cons (.int 128) (.cons (.int 143) (.cons (.int 0) .nil)))))
                    (.ret (.o1 .agg (.cons (.int 128) (.cons (.int 191) (.cons (.int 0) .nil))))))))))
            (.ret (.o1 .agg (.cons (.int 128) (.cons (.int 191) (.cons (.int 0) .nil))))))))
        (.br (.o2 .eqi (.o1 .len (.v 0)) (.int 1))
          (.req (.o2 .lti (.int 0) (.o1 .len (.v 0))) (.br (.o2 .eqi (.o2 .idx (.v 0) (.int 0)) (.int 224))
            (.ret (.o1 .agg (.cons (.int 160) (.cons (.int 191) (.cons (.int 0) .nil)))))
            (.br (.o2 .eqi (.o2 .idx (.v 0) (.int 0)) (.int 237))
              (.ret (.o1 .agg (.cons (.int 128) (.cons (.int 159) (.cons (.int 0) .nil)))))
              (.br (.o2 .eqi (.o2 .idx (.v 0) (.int 0)) (.int 240))
                (.ret (.o1 .agg (.cons (.int 144) (.cons (.int 191) (.cons (.int 0) .nil)))))
                (.br (.o2 .eqi (.o2 .idx (.v 0) (.int 0)) (.int 244))
                  (.ret (.o1 .agg (.cons (.int 128) (.cons (.int 143) (.cons (.int 0) .nil)))))
                  (.ret (.o1 .agg (.cons (.int 128) (.cons (.int 191) (.cons (.int 0) .nil))))))))))
          (.ret (.o1 .agg (.cons (.int 128) (.cons (.int 191) (.cons (.int 0) .nil)))))))))))))
set_option maxRecDepth 100000 in
theorem tree_ref01_limits : fnTree cx_ref01_limits 4 sg_ref01_limits Try.f14 (Try.f14.body.getD .skip) = tr_ref01_limits := by kernel_rfl
theorem cxok_ref01_limits {Γ : CEnv} (hg : ∀ n, Γ.glob n = globT n) (hs : ∀ s ∈ cx_ref01_limits.sigs, Contract Try.prog Γ gtab s (Γ.pre s.no) (Γ.post s.no)) : CxOk cx_ref01_limits Γ := ⟨by kernel_rfl, hs, fun x hx => by cases hx⟩
theorem contract_ref01_limits {Γ : CEnv} (hg : ∀ n, Γ.glob n = globT n) (hs : ∀ s ∈ cx_ref01_limits.sigs, Contract Try.prog Γ gtab s (Γ.pre s.no) (Γ.post s.no)) (k : Nat) {pre : List TV → Prop} {post : List TV → TV → Prop} (h : ∀ ts, ts.length = 1 → pre ts → tr_ref01_limits.den Γ (post ts) ts []) : Contract Try.prog Γ gtab (sn_ref01_limits k) pre post :=
  Contract.renum (contract_of (cxok_ref01_limits hg hs) 4 sg_ref01_limits Try.func14 (by kernel_rfl) (by kernel_rfl) fun ts hl hp => by rw [tree_ref01_limits]; exact h ts hl hp) k

/-! narrator/narratorref01.value -/
def sg_ref01_value : Sig := ⟨15, 0, [(false, [(.slice false [(.int .u8)])])], [(false, [((.int .i32), none)])]⟩
def sn_ref01_value (k : Nat) : Sig := ⟨sg_ref01_value.f, k, sg_ref01_value.args, sg_ref01_value.res⟩
def hd_ref01_value : List (FuncId × Nat × Head) := [(15, 10, ⟨[0, 3, 4], [], [4, 3], [], []⟩)]
def pl_ref01_value : List (FuncId × Nat × Nat × List (Bool × Nat)) := []
noncomputable def cx_ref01_value : Cx := ⟨Try.prog, gtab, [], [], hd_ref01_value, pl_ref01_value⟩
def tr_ref01_value : Tree := (.br (.o2 .eqi (.o1 .len (.v 0)) (.int 2))
  (.req (.o2 .lti (.int 0) (.o1 .len (.v 0))) (.loop [(.o2 (.sub .i32) (.o1 (.wrap .i32) (.o2 .idx (.v 0) (.int 0))) (.int 192)), (.int 1)]
    (.br (.o2 .lti (.v 2) (.o1 .len (.v 0)))
      (.req (.o2 .lei (.int 0) (.v 2)) (.req (.o2 .lti (.v 2) (.o1 .len (.v 0))) (.back 0 [(.o2 (.sub .i32) (.o2 (.add .i32) (.o2 (.mul .i32) (.v 1) (.int 64)) (.o1 (.wrap .i32) (.o2 .idx (.v 0) (.v 2)))) (.int 128)), (.o2 (.add .i64) (.v 2) (.int 1))])))
      (.ret (.v 1)))))
  (.br (.o2 .eqi (.o1 .len (.v 0)) (.int 3))
    (.req (.o2 .lti (.int 0) (.o1 .len (.v 0))) (.loop [(.o2 (.sub .i32) (.o1 (.wrap .i32) (.o2 .idx (.v 0) (.int 0))) (.int 224)), (.int 1)]
      (.br (.o2 .lti (.v 2) (.o1 .len (.v 0)))
        (.req (.o2 .lei (.int 0) (.v 2)) (.req (.o2 .lti (.v 2) (.o1 .len (.v 0))) (.back 0 [(.o2 (.sub .i32) (.o2 (.add .i32) (.o2 (.mul .i32) (.v 1) (.int 64)) (.o1 (.wrap .i32) (.o2 .idx (.v 0) (.v 2)))) (.int 128)), (.o2 (.add .i64) (.v 2) (.int 1))])))
        (.ret (.v 1)))))
    (.br (.o2 .eqi (.o1 .len (.v 0)) (.int 4))
      (.req (.o2 .lti (.int 0) (.o1 .len (.v 0))) (.loop [(.o2 (.sub .i32) (.o1 (.wrap .i32) (.o2 .idx (.v 0) (.int 0))) (.int 240)), (.int 1)]
        (.br (.o2 .lti (.v 2) (.o1 .len (.v 0)))
          (.req (.o2 .lei (.int 0) (.v 2)) (.req (.o2 .lti (.v 2) (.o1 .len (.v 0))) (.back 0 [(.o2 (.sub .i32) (.o2 (.add .i32) (.o2 (.mul .i32) (.v 1) (.int 64)) (.o1 (.wrap .i32) (.o2 .idx (.v 0) (.v 2)))) (.int 128)), (.o2 (.add .i64) (.v 2) (.int 1))])))
          (.ret (.v 1)))))
      (.loop [(.int 0), (.int 1)]
        (.br (.o2 .lti (.v 2) (.o1 .len (.v 0)))
          (.req (.o2 .lei (.int 0) (.v 2)) (.req (.o2 .lti (.v 2) (.o1 .len (.v 0))) (.back 0 [(.o2 (.sub .i32) (.o2 (.add .i32) (.o2 (.mul .i32) (.v 1) (.int 64)) (.o1 (.wrap .i32) (.o2 .idx (.v 0) (.v 2)))) (.int 128)), (.o2 (.add .i64) (.v 2) (.int 1))])))
          (.ret (.v 1)))))))
set_option maxRecDepth 100000 in
theorem tree_ref01_value : fnTree cx_ref01_value 4 sg_ref01_value Try.f15 (Try.f15.body.getD .skip) = tr_ref01_value := by kernel_rfl
theorem cxok_ref01_value {Γ : CEnv} (hg : ∀ n, Γ.glob n = globT n) (hs : ∀ s ∈ cx_ref01_value.sigs, Contract Try.prog Γ gtab s (Γ.pre s.no) (Γ.post s.no)) : CxOk cx_ref01_value Γ := ⟨by kernel_rfl, hs, fun x hx => by cases hx⟩
theorem contract_ref01_value {Γ : CEnv} (hg : ∀ n, Γ.glob n = globT n) (hs : ∀ s ∈ cx_ref01_value.sigs, Contract Try.prog Γ gtab s (Γ.pre s.no) (Γ.post s.no)) (k : Nat) {pre : List TV → Prop} {post : List TV → TV → Prop} (h : ∀ ts, ts.length = 1 → pre ts → tr_ref01_value.den Γ (post ts) ts []) : Contract Try.prog Γ gtab (sn_ref01_value k) pre post :=
  Contract.renum (contract_of (cxok_ref01_value hg hs) 4 sg_ref01_value Try.func15 (by kernel_rfl) (by kernel_rfl) fun ts hl hp => by rw [tree_ref01_value]; exact h ts hl hp) k

/-! narrator/narratorref01.Decode -/
def sg_ref01_Decode : Sig := ⟨10, 0, [(false, [.str]), (false, [.str])], [(false, [((.slice false [(.int .i32)]), some 21)]), (false, [(.str, none)])]⟩
def sn_ref01_Decode (k : Nat) : Sig := ⟨sg_ref01_Decode.f, k, sg_ref01_Decode.args, sg_ref01_Decode.res⟩
def hd_ref01_Decode : List (FuncId × Nat × Head) := [(10, 5, ⟨[6, 7, 8, 9], [.slot 7 true 21 false [(.int .i32)], .slot 8 true 5 false [(.int .u8)]], [9], [1, 0], []⟩)]
def pl_ref01_Decode : List (FuncId × Nat × Nat × List (Bool × Nat)) := [(10, (24, (5, [(true, 0), (true, 1), (true, 3), (false, 2), (false, 4)])))]
noncomputable def cx_ref01_Decode : Cx := ⟨Try.prog, gtab, [sn_ref01_limits 0, sn_ref01_value 1], [], hd_ref01_Decode, pl_ref01_Decode⟩
def tr_ref01_Decode : Tree := (.req (.o2 .lei (.o1 .slen (.o2 .cat (.v 0) (.v 1))) (.int 9223372036854775807)) (.loop [(.int 0), .nil, .nil]
  (.br (.o2 .lti (.v 2) (.o1 .slen (.o2 .cat (.v 0) (.v 1))))
    (.req (.o2 .lei (.int 0) (.v 2)) (.req (.o2 .lti (.v 2) (.o1 .slen (.o2 .cat (.v 0) (.v 1)))) (.br (.o2 .eqi (.o1 .len (.v 4)) (.int 0))
      (.call 0 [(.cons (.o2 .sidx (.o2 .cat (.v 0) (.v 1)) (.v 2)) .nil)]
        (.br (.o2 .lti (.o2 .sidx (.o2 .cat (.v 0) (.v 1)) (.v 2)) (.int 128))
          (.req (.o2 .lei (.o1 .len (.o2 .app (.v 3) (.cons (.o1 (.wrap .i32) (.o2 .sidx (.o2 .cat (.v 0) (.v 1)) (.v 2))) .nil))) (.int 1099511627776)) (.back 0 [(.o2 (.add .i64) (.v 2) (.int 1)), (.o2 .app (.v 3) (.cons (.o1 (.wrap .i32) (.o2 .sidx (.o2 .cat (.v 0) (.v 1)) (.v 2))) .nil)), (.v 4)]))
          (.br (.o2 .lti (.int 0) (.o1 (.proj 2) (.v 5)))
            (.req (.o2 .lei (.o1 .len (.o2 .app (.v 4) (.cons (.o2 .sidx (.o2 .cat (.v 0) (.v 1)) (.v 2)) .nil))) (.int 1099511627776)) (.back 0 [(.o2 (.add .i64) (.v 2) (.int 1)), (.v 3), (.o2 .app (.v 4) (.cons (.o2 .sidx (.o2 .cat (.v 0) (.v 1)) (.v 2)) .nil))]))
            (.req (.o2 .lei (.o1 .len (.o2 .app (.v 3) (.cons (.int 65533) .nil))) (.int 1099511627776)) (.back 0 [(.o2 (.add .i64) (.v 2) (.int 1)), (.o2 .app (.v 3) (.cons (.int 65533) .nil)), (.v 4)])))))
      (.call 0 [(.v 4)]
        (.br (.o2 .lti (.o2 .sidx (.o2 .cat (.v 0) (.v 1)) (.v 2)) (.o1 (.proj 0) (.v 5)))
          (.req (.o2 .lei (.o1 .len (.o2 .app (.v 3) (.cons (.int 65533) .nil))) (.int 1099511627776)) (.back 0 [(.v 2), (.o2 .app (.v 3) (.cons (.int 65533) .nil)), .nil]))
          (.br (.o2 .lti (.o1 (.proj 1) (.v 5)) (.o2 .sidx (.o2 .cat (.v 0) (.v 1)) (.v 2)))
            (.req (.o2 .lei (.o1 .len (.o2 .app (.v 3) (.cons (.int 65533) .nil))) (.int 1099511627776)) (.back 0 [(.v 2), (.o2 .app (.v 3) (.cons (.int 65533) .nil)), .nil]))
            (.req (.o2 .lei (.o1 .len (.o2 .app (.v 4) (.cons (.o2 .sidx (.o2 .cat (.v 0) (.v 1)) (.v 2)) .nil))) (.int 1099511627776)) (.br (.o2 .eqi (.o1 .len (.o2 .app (.v 4) (.cons (.o2 .sidx (.o2 .cat (.v 0) (.v 1)) (.v 2)) .nil))) (.o1 (.proj 2) (.v 5)))
              (.call 1 [(.o2 .app (.v 4) (.cons (.o2 .sidx (.o2 .cat (.v 0) (.v 1)) (.v 2)) .nil))]
                (.req (.o2 .lei (.o1 .len (.o2 .app (.v 3) (.cons (.v 6) .nil))) (.int 1099511627776)) (.back 0 [(.o2 (.add .i64) (.v 2) (.int 1)), (.o2 .app (.v 3) (.cons (.v 6) .nil)), .nil])))
              (.back 0 [(.o2 (.add .i64) (.v 2) (.int 1)), (.v 3), (.o2 .app (.v 4) (.cons (.o2 .sidx (.o2 .cat (.v 0) (.v 1)) (.v 2)) .nil))])))))))))
    (.ret (.o1 .agg (.cons (.v 3) (.cons (.o1 .strOf (.v 4)) .nil)))))))
set_option maxRecDepth 100000 in
theorem tree_ref01_Decode : fnTree cx_ref01_Decode 4 sg_ref01_Decode Try.f10 (Try.f10.body.getD .skip) = tr_ref01_Decode := by kernel_rfl
theorem cxok_ref01_Decode {Γ : CEnv} (hg : ∀ n, Γ.glob n = globT n) (hs : ∀ s ∈ cx_ref01_Decode.sigs, Contract Try.prog Γ gtab s (Γ.pre s.no) (Γ.post s.no)) : CxOk cx_ref01_Decode Γ := ⟨by kernel_rfl, hs, fun x hx => by cases hx⟩
theorem contract_ref01_Decode {Γ : CEnv} (hg : ∀ n, Γ.glob n = globT n) (hs : ∀ s ∈ cx_ref01_Decode.sigs, Contract Try.prog Γ gtab s (Γ.pre s.no) (Γ.post s.no)) (k : Nat) {pre : List TV → Prop} {post : List TV → TV → Prop} (h : ∀ ts, ts.length = 2 → pre ts → tr_ref01_Decode.den Γ (post ts) ts []) : Contract Try.prog Γ gtab (sn_ref01_Decode k) pre post :=
  Contract.renum (contract_of (cxok_ref01_Decode hg hs) 4 sg_ref01_Decode Try.func10 (by kernel_rfl) (by kernel_rfl) fun ts hl hp => by rw [tree_ref01_Decode]; exact h ts hl hp) k

/-! narrator/narratorref01.Finish -/
def sg_ref01_Finish : Sig := ⟨12, 0, [(false, [.str])], [(false, [((.slice false [(.int .i32)]), some 21)])]⟩
def sn_ref01_Finish (k : Nat) : Sig := ⟨sg_ref01_Finish.f, k, sg_ref01_Finish.args, sg_ref01_Finish.res⟩
def hd_ref01_Finish : List (FuncId × Nat × Head) := []
def pl_ref01_Finish : List (FuncId × Nat × Nat × List (Bool × Nat)) := []
noncomputable def cx_ref01_Finish : Cx := ⟨Try.prog, gtab, [sn_ref01_Decode 0], [], hd_ref01_Finish, pl_ref01_Finish⟩
def tr_ref01_Finish : Tree := (.call 0 [(.str []), (.v 0)]
  (.br (.o1 .no (.o2 .eqs (.o1 (.proj 1) (.v 1)) (.str [])))
    (.req (.o2 .lei (.o1 .len (.o2 .app (.o1 (.proj 0) (.v 1)) (.cons (.int 65533) .nil))) (.int 1099511627776)) (.ret (.o2 .app (.o1 (.proj 0) (.v 1)) (.cons (.int 65533) .nil))))
    (.ret (.o1 (.proj 0) (.v 1)))))
set_option maxRecDepth 100000 in
theorem tree_ref01_Finish : fnTree cx_ref01_Finish 4 sg_ref01_Finish Try.f12 (Try.f12.body.getD .skip) = tr_ref01_Finish := by kernel_rfl
theorem cxok_ref01_Finish {Γ : CEnv} (hg : ∀ n, Γ.glob n = globT n) (hs : ∀ s ∈ cx_ref01_Finish.sigs, Contract Try.prog Γ gtab s (Γ.pre s.no) (Γ.post s.no)) : CxOk cx_ref01_Finish Γ := ⟨by kernel_rfl, hs, fun x hx => by cases hx⟩
theorem contract_ref01_Finish {Γ : CEnv} (hg : ∀ n, Γ.glob n = globT n) (hs : ∀ s ∈ cx_ref01_Finish.sigs, Contract Try.prog Γ gtab s (Γ.pre s.no) (Γ.post s.no)) (k : Nat) {pre : List TV → Prop} {post : List TV → TV → Prop} (h : ∀ ts, ts.length = 1 → pre ts → tr_ref01_Finish.den Γ (post ts) ts []) : Contract Try.prog Γ gtab (sn_ref01_Finish k) pre post :=
  Contract.renum (contract_of (cxok_ref01_Finish hg hs) 4 sg_ref01_Finish Try.func12 (by kernel_rfl) (by kernel_rfl) fun ts hl hp => by rw [tree_ref01_Finish]; exact h ts hl hp) k

/-! narrator/narratorref01.Same -/
def sg_ref01_Same : Sig := ⟨9, 0, [(false, [(.slice false [(.int .i32)])]), (false, [(.slice false [(.int .i32)])])], [(false, [(.bool, none)])]⟩
def sn_ref01_Same (k : Nat) : Sig := ⟨sg_ref01_Same.f, k, sg_ref01_Same.args, sg_ref01_Same.res⟩
def hd_ref01_Same : List (FuncId × Nat × Head) := [(9, 4, ⟨[0, 1, 5], [], [5], [], []⟩)]
def pl_ref01_Same : List (FuncId × Nat × Nat × List (Bool × Nat)) := [(9, (6, (9, [(true, 0), (true, 1), (true, 2), (true, 3), (true, 4), (true, 5), (true, 6), (true, 7), (true, 8)])))]
noncomputable def cx_ref01_Same : Cx := ⟨Try.prog, gtab, [], [], hd_ref01_Same, pl_ref01_Same⟩
def tr_ref01_Same : Tree := (.br (.o1 .no (.o2 .eqi (.o1 .len (.v 0)) (.o1 .len (.v 1))))
  (.ret (.bool false))
  (.loop [(.int 0)]
    (.br (.o2 .lti (.v 2) (.o1 .len (.v 0)))
      (.req (.o2 .lei (.int 0) (.v 2)) (.req (.o2 .lti (.v 2) (.o1 .len (.v 0))) (.req (.o2 .lei (.int 0) (.v 2)) (.req (.o2 .lti (.v 2) (.o1 .len (.v 1))) (.br (.o1 .no (.o2 .eqi (.o2 .idx (.v 0) (.v 2)) (.o2 .idx (.v 1) (.v 2))))
        (.ret (.bool false))
        (.back 0 [(.o2 (.add .i64) (.v 2) (.int 1))]))))))
      (.ret (.bool true)))))
set_option maxRecDepth 100000 in
theorem tree_ref01_Same : fnTree cx_ref01_Same 4 sg_ref01_Same Try.f9 (Try.f9.body.getD .skip) = tr_ref01_Same := by kernel_rfl
theorem cxok_ref01_Same {Γ : CEnv} (hg : ∀ n, Γ.glob n = globT n) (hs : ∀ s ∈ cx_ref01_Same.sigs, Contract Try.prog Γ gtab s (Γ.pre s.no) (Γ.post s.no)) : CxOk cx_ref01_Same Γ := ⟨by kernel_rfl, hs, fun x hx => by cases hx⟩
theorem contract_ref01_Same {Γ : CEnv} (hg : ∀ n, Γ.glob n = globT n) (hs : ∀ s ∈ cx_ref01_Same.sigs, Contract Try.prog Γ gtab s (Γ.pre s.no) (Γ.post s.no)) (k : Nat) {pre : List TV → Prop} {post : List TV → TV → Prop} (h : ∀ ts, ts.length = 2 → pre ts → tr_ref01_Same.den Γ (post ts) ts []) : Contract Try.prog Γ gtab (sn_ref01_Same k) pre post :=
  Contract.renum (contract_of (cxok_ref01_Same hg hs) 4 sg_ref01_Same Try.func9 (by kernel_rfl) (by kernel_rfl) fun ts hl hp => by rw [tree_ref01_Same]; exact h ts hl hp) k

/-! narrator/narratorlaw01.awake -/
def sg_law01_awake : Sig := ⟨7, 0, [], [(false, [(.bool, none)])]⟩
def sn_law01_awake (k : Nat) : Sig := ⟨sg_law01_awake.f, k, sg_law01_awake.args, sg_law01_awake.res⟩
def hd_law01_awake : List (FuncId × Nat × Head) := []
def pl_law01_awake : List (FuncId × Nat × Nat × List (Bool × Nat)) := []
noncomputable def cx_law01_awake : Cx := ⟨Try.prog, gtab, [sn_utf8stream_Decode 0, sn_ref01_Same 1], [], hd_law01_awake, pl_law01_awake⟩
def tr_law01_awake : Tree := (.call 0 [(.str []), (.str [226, 130, 97, 226])]
  (.call 0 [(.o1 (.proj 1) (.v 0)), (.str [130, 172])]
    (.call 1 [(.o1 (.proj 0) (.v 0)), (.cons (.int 65533) (.cons (.int 97) .nil))]
      (.br (.v 2)
        (.br (.o2 .eqs (.o1 (.proj 1) (.v 0)) (.str [226]))
          (.call 1 [(.o1 (.proj 0) (.v 1)), (.cons (.int 8364) .nil)]
            (.br (.v 3)
              (.ret (.o2 .eqs (.o1 (.proj 1) (.v 1)) (.str [])))
              (.ret (.bool false))))
          (.ret (.bool false)))
        (.ret (.bool false))))))
set_option maxRecDepth 100000 in
theorem tree_law01_awake : fnTree cx_law01_awake 4 sg_law01_awake Try.f7 (Try.f7.body.getD .skip) = tr_law01_awake := by kernel_rfl
theorem cxok_law01_awake {Γ : CEnv} (hg : ∀ n, Γ.glob n = globT n) (hs : ∀ s ∈ cx_law01_awake.sigs, Contract Try.prog Γ gtab s (Γ.pre s.no) (Γ.post s.no)) : CxOk cx_law01_awake Γ := ⟨by kernel_rfl, hs, fun x hx => by cases hx⟩
theorem contract_law01_awake {Γ : CEnv} (hg : ∀ n, Γ.glob n = globT n) (hs : ∀ s ∈ cx_law01_awake.sigs, Contract Try.prog Γ gtab s (Γ.pre s.no) (Γ.post s.no)) (k : Nat) {pre : List TV → Prop} {post : List TV → TV → Prop} (h : ∀ ts, ts.length = 0 → pre ts → tr_law01_awake.den Γ (post ts) ts []) : Contract Try.prog Γ gtab (sn_law01_awake k) pre post :=
  Contract.renum (contract_of (cxok_law01_awake hg hs) 4 sg_law01_awake Try.func7 (by kernel_rfl) (by kernel_rfl) fun ts hl hp => by rw [tree_law01_awake]; exact h ts hl hp) k

/-! narrator/narratorlaw01.Utf8streamSplit -/
def sg_law01_Utf8streamSplit : Sig := ⟨3, 0, [(false, [.str]), (false, [(.int .u16)])], [(false, [(.bool, none)])]⟩
def sn_law01_Utf8streamSplit (k : Nat) : Sig := ⟨sg_law01_Utf8streamSplit.f, k, sg_law01_Utf8streamSplit.args, sg_law01_Utf8streamSplit.res⟩
def hd_law01_Utf8streamSplit : List (FuncId × Nat × Head) := []
def pl_law01_Utf8streamSplit : List (FuncId × Nat × Nat × List (Bool × Nat)) := []
noncomputable def cx_law01_Utf8streamSplit : Cx := ⟨Try.prog, gtab, [sn_utf8stream_Decode 0, sn_ref01_Same 1, sn_law01_awake 2], [], hd_law01_Utf8streamSplit, pl_law01_Utf8streamSplit⟩
def tr_law01_Utf8streamSplit : Tree := (.br (.o2 .lti (.int 300) (.o1 .slen (.v 0)))
  (.call 2 []
    (.ret (.v 2)))
  (.req (.o1 .no (.o2 .eqi (.o2 (.add .i64) (.o1 .slen (.v 0)) (.int 1)) (.int 0))) (.req (.o2 .lei (.int 0) (.o2 .rem (.o1 (.wrap .i64) (.v 1)) (.o2 (.add .i64) (.o1 .slen (.v 0)) (.int 1)))) (.req (.o2 .lei (.o2 .rem (.o1 (.wrap .i64) (.v 1)) (.o2 (.add .i64) (.o1 .slen (.v 0)) (.int 1))) (.o1 .slen (.v 0))) (.call 0 [(.str []), (.o3 .ssub (.v 0) (.int 0) (.o2 .rem (.o1 (.wrap .i64) (.v 1)) (.o2 (.add .i64) (.o1 .slen (.v 0)) (.int 1))))]
    (.req (.o2 .lei (.int 0) (.o2 .rem (.o1 (.wrap .i64) (.v 1)) (.o2 (.add .i64) (.o1 .slen (.v 0)) (.int 1)))) (.req (.o2 .lei (.o2 .rem (.o1 (.wrap .i64) (.v 1)) (.o2 (.add .i64) (.o1 .slen (.v 0)) (.int 1))) (.o1 .slen (.v 0))) (.call 0 [(.o1 (.proj 1) (.v 2)), (.o3 .ssub (.v 0) (.o2 .rem (.o1 (.wrap .i64) (.v 1)) (.o2 (.add .i64) (.o1 .slen (.v 0)) (.int 1))) (.o1 .slen (.v 0)))]
      (.call 0 [(.str []), (.v 0)]
        (.req (.o2 .lei (.o1 .len (.o2 .app .nil (.o1 (.proj 0) (.v 2)))) (.int 1099511627776)) (.req (.o2 .lei (.o1 .len (.o2 .app (.o2 .app .nil (.o1 (.proj 0) (.v 2))) (.o1 (.proj 0) (.v 3)))) (.int 1099511627776)) (.call 1 [(.o2 .app (.o2 .app .nil (.o1 (.proj 0) (.v 2))) (.o1 (.proj 0) (.v 3))), (.o1 (.proj 0) (.v 4))]
          (.br (.v 5)
            (.br (.o2 .eqs (.o1 (.proj 1) (.v 3)) (.o1 (.proj 1) (.v 4)))
              (.call 2 []
                (.ret (.v 6)))
              (.ret (.bool false)))
            (.ret (.bool false)))))))))))))))
set_option maxRecDepth 100000 in
theorem tree_law01_Utf8streamSplit : fnTree cx_law01_Utf8streamSplit 4 sg_law01_Utf8streamSplit Try.f3 (Try.f3.body.getD .skip) = tr_law01_Utf8streamSplit := by kernel_rfl
theorem cxok_law01_Utf8streamSplit {Γ : CEnv} (hg : ∀ n, Γ.glob n = globT n) (hs : ∀ s ∈ cx_law01_Utf8streamSplit.sigs, Contract Try.prog Γ gtab s (Γ.pre s.no) (Γ.post s.no)) : CxOk cx_law01_Utf8streamSplit Γ := ⟨by kernel_rfl, hs, fun x hx => by cases hx⟩
theorem contract_law01_Utf8streamSplit {Γ : CEnv} (hg : ∀ n, Γ.glob n = globT n) (hs : ∀ s ∈ cx_law01_Utf8streamSplit.sigs, Contract Try.prog Γ gtab s (Γ.pre s.no) (Γ.post s.no)) (k : Nat) {pre : List TV → Prop} {post : List TV → TV → Prop} (h : ∀ ts, ts.length = 2 → pre ts → tr_law01_Utf8streamSplit.den Γ (post ts) ts []) : Contract Try.prog Γ gtab (sn_law01_Utf8streamSplit k) pre post :=
  Contract.renum (contract_of (cxok_law01_Utf8streamSplit hg hs) 4 sg_law01_Utf8streamSplit Try.func3 (by kernel_rfl) (by kernel_rfl) fun ts hl hp => by rw [tree_law01_Utf8streamSplit]; exact h ts hl hp) k

/-! narrator/narratorlaw01.Utf8streamDecode -/
def sg_law01_Utf8streamDecode : Sig := ⟨4, 0, [(false, [.str]), (false, [.str])], [(false, [(.bool, none)])]⟩
def sn_law01_Utf8streamDecode (k : Nat) : Sig := ⟨sg_law01_Utf8streamDecode.f, k, sg_law01_Utf8streamDecode.args, sg_law01_Utf8streamDecode.res⟩
def hd_law01_Utf8streamDecode : List (FuncId × Nat × Head) := []
def pl_law01_Utf8streamDecode : List (FuncId × Nat × Nat × List (Bool × Nat)) := []
noncomputable def cx_law01_Utf8streamDecode : Cx := ⟨Try.prog, gtab, [sn_utf8stream_Decode 0, sn_utf8stream_Finish 1, sn_ref01_Decode 2, sn_ref01_Finish 3, sn_ref01_Same 4, sn_law01_awake 5], [], hd_law01_Utf8streamDecode, pl_law01_Utf8streamDecode⟩
def tr_law01_Utf8streamDecode : Tree := (.br (.o2 .lti (.int 300) (.o2 (.add .i64) (.o1 .slen (.v 0)) (.o1 .slen (.v 1))))
  (.call 5 []
    (.ret (.v 2)))
  (.call 0 [(.v 0), (.v 1)]
    (.call 2 [(.v 0), (.v 1)]
      (.call 4 [(.o1 (.proj 0) (.v 2)), (.o1 (.proj 0) (.v 3))]
        (.br (.v 4)
          (.br (.o2 .eqs (.o1 (.proj 1) (.v 2)) (.o1 (.proj 1) (.v 3)))
            (.call 1 [(.v 0)]
              (.call 3 [(.v 0)]
                (.call 4 [(.v 5), (.v 6)]
                  (.br (.v 7)
                    (.call 5 []
                      (.ret (.v 8)))
                    (.ret (.bool false))))))
            (.ret (.bool false)))
          (.ret (.bool false)))))))
set_option maxRecDepth 100000 in
theorem tree_law01_Utf8streamDecode : fnTree cx_law01_Utf8streamDecode 4 sg_law01_Utf8streamDecode Try.f4 (Try.f4.body.getD .skip) = tr_law01_Utf8streamDecode := by kernel_rfl
theorem cxok_law01_Utf8streamDecode {Γ : CEnv} (hg : ∀ n, Γ.glob n = globT n) (hs : ∀ s ∈ cx_law01_Utf8streamDecode.sigs, Contract Try.prog Γ gtab s (Γ.pre s.no) (Γ.post s.no)) : CxOk cx_law01_Utf8streamDecode Γ := ⟨by kernel_rfl, hs, fun x hx => by cases hx⟩
theorem contract_law01_Utf8streamDecode {Γ : CEnv} (hg : ∀ n, Γ.glob n = globT n) (hs : ∀ s ∈ cx_law01_Utf8streamDecode.sigs, Contract Try.prog Γ gtab s (Γ.pre s.no) (Γ.post s.no)) (k : Nat) {pre : List TV → Prop} {post : List TV → TV → Prop} (h : ∀ ts, ts.length = 2 → pre ts → tr_law01_Utf8streamDecode.den Γ (post ts) ts []) : Contract Try.prog Γ gtab (sn_law01_Utf8streamDecode k) pre post :=
  Contract.renum (contract_of (cxok_law01_Utf8streamDecode hg hs) 4 sg_law01_Utf8streamDecode Try.func4 (by kernel_rfl) (by kernel_rfl) fun ts hl hp => by rw [tree_law01_Utf8streamDecode]; exact h ts hl hp) k

/-! narrator/narratorlaw01.Utf8streamPending -/
def sg_law01_Utf8streamPending : Sig := ⟨5, 0, [(false, [.str])], [(false, [(.bool, none)])]⟩
def sn_law01_Utf8streamPending (k : Nat) : Sig := ⟨sg_law01_Utf8streamPending.f, k, sg_law01_Utf8streamPending.args, sg_law01_Utf8streamPending.res⟩
def hd_law01_Utf8streamPending : List (FuncId × Nat × Head) := []
def pl_law01_Utf8streamPending : List (FuncId × Nat × Nat × List (Bool × Nat)) := []
noncomputable def cx_law01_Utf8streamPending : Cx := ⟨Try.prog, gtab, [sn_utf8stream_Decode 0, sn_utf8stream_Finish 1, sn_ref01_Same 2, sn_law01_awake 3], [], hd_law01_Utf8streamPending, pl_law01_Utf8streamPending⟩
def tr_law01_Utf8streamPending : Tree := (.br (.o2 .lti (.int 300) (.o1 .slen (.v 0)))
  (.call 3 []
    (.ret (.v 1)))
  (.call 0 [(.str []), (.v 0)]
    (.call 0 [(.str []), (.o1 (.proj 1) (.v 1))]
      (.br (.o2 .lti (.int 3) (.o1 .slen (.o1 (.proj 1) (.v 1))))
        (.ret (.bool false))
        (.br (.o2 .lti (.o1 .slen (.v 0)) (.o1 .slen (.o1 (.proj 1) (.v 1))))
          (.ret (.bool false))
          (.req (.o2 .lei (.int 0) (.o2 (.sub .i64) (.o1 .slen (.v 0)) (.o1 .slen (.o1 (.proj 1) (.v 1))))) (.req (.o2 .lei (.o2 (.sub .i64) (.o1 .slen (.v 0)) (.o1 .slen (.o1 (.proj 1) (.v 1)))) (.o1 .slen (.v 0))) (.br (.o1 .no (.o2 .eqs (.o3 .ssub (.v 0) (.o2 (.sub .i64) (.o1 .slen (.v 0)) (.o1 .slen (.o1 (.proj 1) (.v 1)))) (.o1 .slen (.v 0))) (.o1 (.proj 1) (.v 1))))
            (.ret (.bool false))
            (.br (.o1 .no (.o2 .eqi (.o1 .len (.o1 (.proj 0) (.v 2))) (.int 0)))
              (.ret (.bool false))
              (.br (.o1 .no (.o2 .eqs (.o1 (.proj 1) (.v 2)) (.o1 (.proj 1) (.v 1))))
                (.ret (.bool false))
                (.br (.o2 .lti (.o1 .slen (.v 0)) (.o1 .len (.o1 (.proj 0) (.v 1))))
                  (.ret (.bool false))
                  (.call 1 [(.o1 (.proj 1) (.v 1))]
                    (.br (.o2 .eqs (.o1 (.proj 1) (.v 1)) (.str []))
                      (.br (.o2 .eqi (.o1 .len (.v 3)) (.int 0))
                        (.call 3 []
                          (.ret (.v 4)))
                        (.ret (.bool false)))
                      (.call 2 [(.v 3), (.cons (.int 65533) .nil)]
                        (.br (.v 4)
                          (.call 3 []
                            (.ret (.v 5)))
                          (.ret (.bool false)))))))))))))))))
set_option maxRecDepth 100000 in
theorem tree_law01_Utf8streamPending : fnTree cx_law01_Utf8streamPending 4 sg_law01_Utf8streamPending Try.f5 (Try.f5.body.getD .skip) = tr_law01_Utf8streamPending := by kernel_rfl
theorem cxok_law01_Utf8streamPending {Γ : CEnv} (hg : ∀ n, Γ.glob n = globT n) (hs : ∀ s ∈ cx_law01_Utf8streamPending.sigs, Contract Try.prog Γ gtab s (Γ.pre s.no) (Γ.post s.no)) : CxOk cx_law01_Utf8streamPending Γ := ⟨by kernel_rfl, hs, fun x hx => by cases hx⟩
theorem contract_law01_Utf8streamPending {Γ : CEnv} (hg : ∀ n, Γ.glob n = globT n) (hs : ∀ s ∈ cx_law01_Utf8streamPending.sigs, Contract Try.prog Γ gtab s (Γ.pre s.no) (Γ.post s.no)) (k : Nat) {pre : List TV → Prop} {post : List TV → TV → Prop} (h : ∀ ts, ts.length = 1 → pre ts → tr_law01_Utf8streamPending.den Γ (post ts) ts []) : Contract Try.prog Γ gtab (sn_law01_Utf8streamPending k) pre post :=
  Contract.renum (contract_of (cxok_law01_Utf8streamPending hg hs) 4 sg_law01_Utf8streamPending Try.func5 (by kernel_rfl) (by kernel_rfl) fun ts hl hp => by rw [tree_law01_Utf8streamPending]; exact h ts hl hp) k

/-! narrator/narratorlaw01.Utf8streamSynchronizes -/
def sg_law01_Utf8streamSynchronizes : Sig := ⟨6, 0, [(false, [.str]), (false, [.str]), (false, [(.int .u8)])], [(false, [(.bool, none)])]⟩
def sn_law01_Utf8streamSynchronizes (k : Nat) : Sig := ⟨sg_law01_Utf8streamSynchronizes.f, k, sg_law01_Utf8streamSynchronizes.args, sg_law01_Utf8streamSynchronizes.res⟩
def hd_law01_Utf8streamSynchronizes : List (FuncId × Nat × Head) := []
def pl_law01_Utf8streamSynchronizes : List (FuncId × Nat × Nat × List (Bool × Nat)) := []
noncomputable def cx_law01_Utf8streamSynchronizes : Cx := ⟨Try.prog, gtab, [sn_utf8stream_Decode 0, sn_utf8stream_Finish 1, sn_ref01_Same 2, sn_law01_awake 3], [], hd_law01_Utf8streamSynchronizes, pl_law01_Utf8streamSynchronizes⟩
def tr_law01_Utf8streamSynchronizes : Tree := (.br (.o2 .lti (.int 300) (.o2 (.add .i64) (.o1 .slen (.v 0)) (.o1 .slen (.v 1))))
  (.call 3 []
    (.ret (.v 3)))
  (.call 0 [(.str []), (.v 0)]
    (.call 0 [(.str []), (.v 1)]
      (.req (.o2 .lei (.o1 .len (.o2 .app .nil (.o1 (.proj 0) (.v 3)))) (.int 1099511627776)) (.call 1 [(.o1 (.proj 1) (.v 3))]
        (.req (.o2 .lei (.o1 .len (.o2 .app (.o2 .app .nil (.o1 (.proj 0) (.v 3))) (.v 5))) (.int 1099511627776)) (.req (.o2 .lei (.o1 .len (.o2 .app (.o2 .app (.o2 .app .nil (.o1 (.proj 0) (.v 3))) (.v 5)) (.cons (.o1 (.wrap .i32) (.o2 .rem (.v 2) (.int 128))) .nil))) (.int 1099511627776)) (.req (.o2 .lei (.o1 .len (.o2 .app (.o2 .app (.o2 .app (.o2 .app .nil (.o1 (.proj 0) (.v 3))) (.v 5)) (.cons (.o1 (.wrap .i32) (.o2 .rem (.v 2) (.int 128))) .nil)) (.o1 (.proj 0) (.v 4)))) (.int 1099511627776)) (.req (.o2 .lei (.o1 .slen (.o2 .cat (.v 0) (.o1 .ofRune (.o1 (.wrap .i32) (.o2 .rem (.v 2) (.int 128)))))) (.int 9223372036854775807)) (.req (.o2 .lei (.o1 .slen (.o2 .cat (.o2 .cat (.v 0) (.o1 .ofRune (.o1 (.wrap .i32) (.o2 .rem (.v 2) (.int 128))))) (.v 1))) (.int 9223372036854775807)) (.call 0 [(.str []), (.o2 .cat (.o2 .cat (.v 0) (.o1 .ofRune (.o1 (.wrap .i32) (.o2 .rem (.v 2) (.int 128))))) (.v 1))]
          (.call 2 [(.o1 (.proj 0) (.v 6)), (.o2 .app (.o2 .app (.o2 .app (.o2 .app .nil (.o1 (.proj 0) (.v 3))) (.v 5)) (.cons (.o1 (.wrap .i32) (.o2 .rem (.v 2) (.int 128))) .nil)) (.o1 (.proj 0) (.v 4)))]
            (.br (.v 7)
              (.br (.o2 .eqs (.o1 (.proj 1) (.v 6)) (.o1 (.proj 1) (.v 4)))
                (.call 3 []
                  (.ret (.v 8)))
                (.ret (.bool false)))
              (.ret (.bool false)))))))))))))))
set_option maxRecDepth 100000 in
theorem tree_law01_Utf8streamSynchronizes : fnTree cx_law01_Utf8streamSynchronizes 4 sg_law01_Utf8streamSynchronizes Try.f6 (Try.f6.body.getD .skip) = tr_law01_Utf8streamSynchronizes := by kernel_rfl
theorem cxok_law01_Utf8streamSynchronizes {Γ : CEnv} (hg : ∀ n, Γ.glob n = globT n) (hs : ∀ s ∈ cx_law01_Utf8streamSynchronizes.sigs, Contract Try.prog Γ gtab s (Γ.pre s.no) (Γ.post s.no)) : CxOk cx_law01_Utf8streamSynchronizes Γ := ⟨by kernel_rfl, hs, fun x hx => by cases hx⟩
theorem contract_law01_Utf8streamSynchronizes {Γ : CEnv} (hg : ∀ n, Γ.glob n = globT n) (hs : ∀ s ∈ cx_law01_Utf8streamSynchronizes.sigs, Contract Try.prog Γ gtab s (Γ.pre s.no) (Γ.post s.no)) (k : Nat) {pre : List TV → Prop} {post : List TV → TV → Prop} (h : ∀ ts, ts.length = 3 → pre ts → tr_law01_Utf8streamSynchronizes.den Γ (post ts) ts []) : Contract Try.prog Γ gtab (sn_law01_Utf8streamSynchronizes k) pre post :=
  Contract.renum (contract_of (cxok_law01_Utf8streamSynchronizes hg hs) 4 sg_law01_Utf8streamSynchronizes Try.func6 (by kernel_rfl) (by kernel_rfl) fun ts hl hp => by rw [tree_law01_Utf8streamSynchronizes]; exact h ts hl hp) k
end Go.Proofs.Ytmepjceepakdlaa

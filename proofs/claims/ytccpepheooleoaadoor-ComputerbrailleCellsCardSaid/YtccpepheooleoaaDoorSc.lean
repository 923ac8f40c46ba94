/- Symbolic runs, part c: operands, and the operations that touch no memory. -/
import Derived.Test.YtccpepheooleoaaDoorSb
namespace Go.Proofs.YtccpepheooleoaaDoor
set_option linter.unusedSimpArgs false
set_option linter.unusedVariables false
set_option linter.unusedSectionVars false
open Go.RowKit

def ofConst : Value → SC
  | .int k n => .int k (.int n)
  | .bool b => .bool (.bool b)
  | .string s => .str (.str s.data.toList)
  | .slice none 0 0 => .nil
  | v => .lit v
def ofConstV : Value → SV
  | .agg cs => .agg (cs.toList.map ofConst)
  | v => .sc (ofConst v)
def gfind : GT → Nat → Option (Bool × List CT)
  | [], _ => none
  | (g, ag, cs) :: r, n => if Nat.beq g n then some (ag, cs) else gfind r n
theorem gfind_mem : ∀ {gt : GT} {n : Nat} {ag : Bool} {cs : List CT}, gfind gt n = some (ag, cs) → (n, ag, cs) ∈ gt
  | [], _, _, _, h => by simp [gfind] at h
  | (g, ag', cs') :: r, n, ag, cs, h => by
    simp only [gfind] at h
    split at h
    · rename_i he
      simp only [Nat.beq_eq] at he
      simp only [Option.some.injEq, Prod.mk.injEq] at h
      rw [← he, ← h.1, ← h.2]
      exact List.mem_cons_self
    · exact List.mem_cons_of_mem _ (gfind_mem h)
def SS.top (st : SS) : List SV := match st.frames with | [] => [] | f :: _ => f
def ev (gt : GT) (st : SS) : Operand → SV
  | .tmp t => (st.top[t]?).getD (.sc .undef)
  | .const v => ofConstV v
  | .func f => .sc (.fn f [])
  | .global g => match gfind gt g with
    | some (ag, cs) => .sc (.pel false ag cs (.glob g) (.int 0) 0)
    | none => .sc .undef

section
variable {Γ : CEnv} {gt : GT} {ρ : List TV} {B : Nat} {G : Nat → Prop} {st : SS} {as : List Value} {vss : List (Array Value)} {w : World} {P : Program}

theorem RepC_ofConst (hp : List Blk) (as : List Value) (M Mf : Mem) (v : Value) : RepC Γ ρ hp as M Mf (ofConst v) v := by
  unfold ofConst
  split
  · rfl
  · rfl
  · simp only [RepC, E.den, asStr_str]
  · rfl
  · rfl
theorem RepV_ofConst (hp : List Blk) (as : List Value) (M Mf : Mem) (v : Value) : RepV Γ ρ hp as M Mf (ofConstV v) v := by
  unfold ofConstV
  split
  · rename_i cs
    refine ⟨cs, rfl, by simp, fun i x y hx hy => ?_⟩
    rw [List.getElem?_map, hy] at hx
    simp only [Option.map_some, Option.some.injEq] at hx
    rw [← hx]
    exact RepC_ofConst _ _ _ _ y
  · exact RepC_ofConst _ _ _ _ _

/-- The present frame's values stand for the present machine's slots. -/
theorem ev_rep {a : Act} (r : Rel Γ gt ρ B G st as (a.tmps :: vss) w) (x : Operand) : RepV Γ ρ st.heap as (stable w G) (fresh w G B) (ev gt st x) (a.eval x) := by
  cases x with
  | tmp t =>
    unfold ev SS.top Act.eval
    have hf := r.frames
    cases hfr : st.frames with
    | nil => rw [hfr] at hf; have := hf.1; simp at this
    | cons f fs =>
      rw [hfr] at hf
      have h0 := hf.2 0 f a.tmps rfl rfl
      dsimp only
      cases ht : f[t]? with
      | none => simp only [Option.getD_none]; exact trivial
      | some s =>
        obtain ⟨v, hv, hr⟩ := h0.get ht
        simp only [Option.getD_some]
        have : a.tmps.getD t undef = v := by
          have h2 : a.tmps[t]? = some v := by simpa using hv
          simp [Array.getD_eq_getD_getElem?, h2]
        rw [this]
        exact hr
  | const v => exact RepV_ofConst _ _ _ _ v
  | func f => exact ⟨[], rfl, All2.nil⟩
  | global g =>
    unfold ev Act.eval
    dsimp only
    cases hg : gfind gt g with
    | none => exact trivial
    | some x =>
      obtain ⟨ag, cs⟩ := x
      have h := r.globs g ag cs (gfind_mem hg)
      refine ⟨g, 0, _, h.1, by simp [E.den, TV.asInt], by simpa [E.den, TV.asInt] using h.2, by simp [E.den, TV.asInt]⟩

/-! ### What an operation gives -/
structure Out where
  req : List E
  val : SV
  heap : List Blk
  wr : Bool

def Holds (Γ : CEnv) (ρ : List TV) (l : List E) : Prop := ∀ e ∈ l, (e.den Γ ρ).asBool = true

def Done (P : Program) (Γ : CEnv) (gt : GT) (ρ : List TV) (B : Nat) (st : SS) (vss : List (Array Value)) (w : World) (out : Out) (res : Result Value) : Prop :=
  ∃ v as' G' w', res = .ok v w' ∧ Rel Γ gt ρ B G' { st with heap := out.heap } as' vss w' ∧ RepV Γ ρ out.heap as' (stable w' G') (fresh w' G' B) out.val v ∧ Below B w w' ∧ (out.wr = false → Below w.heap.size w w')

theorem Done.pure (r : Rel Γ gt ρ B G st as vss w) {val : SV} {req : List E} {wr : Bool} {res : Result Value} {v : Value} (h : res = .ok v w) (hv : RepV Γ ρ st.heap as (stable w G) (fresh w G B) val v) :
    Done P Γ gt ρ B st vss w ⟨req, val, st.heap, wr⟩ res := ⟨v, as, G, w, h, r, hv, Below.refl _ _, fun _ => Below.refl _ _⟩

def pureO (st : SS) (val : SV) : Option Out := some ⟨[], val, st.heap, false⟩
def pureR (st : SS) (req : List E) (val : SC) : Option Out := some ⟨req, .sc val, st.heap, false⟩

/-! ### Types -/
def isAggD : TypeDesc → Bool
  | .struct _ | .array _ _ => true
  | _ => false
def aggP (P : Program) (t : TypeId) : Option Bool := (P.underlying t).map isAggD
def sizeP (P : Program) (t : TypeId) : Option Nat := (P.info? t).map (·.size)
theorem run_isAgg {t : TypeId} {b : Bool} (h : aggP P t = some b) : (isAgg t).run P w = .ok b w := by
  unfold aggP at h
  cases hu : P.underlying t with
  | none => rw [hu] at h; cases h
  | some d =>
    rw [hu] at h
    simp only [Option.map_some, Option.some.injEq] at h
    unfold isAgg
    simp only [Sem.run_bind, run_underlying hu, Result.andThen_ok]
    rw [← h]
    cases d <;> rfl
theorem run_sizeOf {t : TypeId} {n : Nat} (h : sizeP P t = some n) : (sizeOf t).run P w = .ok n w := by
  unfold sizeP at h
  cases hu : P.info? t with
  | none => rw [hu] at h; cases h
  | some i =>
    rw [hu] at h
    simp only [Option.map_some, Option.some.injEq] at h
    simp [sizeOf, typeInfo, hu, h]

/-! ### Binary operations -/
def maxI : Int := 9223372036854775807
def mkNo (e : E) : E := mk1 .no e
def sInt (op : BinOp) (k : IntKind) (a b : E) : Option (List E × SC) := match op with
  | .add => some ([], .int k (mk2 (.add k) a b))
  | .sub => some ([], .int k (mk2 (.sub k) a b))
  | .mul => some ([], .int k (mk2 (.mul k) a b))
  | .quo => some ([mkNo (mk2 .eqi b (.int 0))], .int k (mk2 (.quo k) a b))
  | .rem => some ([mkNo (mk2 .eqi b (.int 0))], .int k (mk2 .rem a b))
  | .and => some ([], .int k (mk2 (.and k) a b))
  | .or => some ([], .int k (mk2 (.or k) a b))
  | .xor => some ([], .int k (mk2 (.xor k) a b))
  | .andNot => some ([], .int k (mk2 (.andNot k) a b))
  | .eql => some ([], .bool (mk2 .eqi a b))
  | .neq => some ([], .bool (mkNo (mk2 .eqi a b)))
  | .lss => some ([], .bool (mk2 .lti a b))
  | .leq => some ([], .bool (mk2 .lei a b))
  | .gtr => some ([], .bool (mk2 .lti b a))
  | .geq => some ([], .bool (mk2 .lei b a))
  | _ => none
def sStr (op : BinOp) (a b : E) : Option (List E × SC) := match op with
  | .add => some ([mk2 .lei (mk1 .slen (mk2 .cat a b)) (.int maxI)], .str (mk2 .cat a b))
  | .eql => some ([], .bool (mk2 .eqs a b))
  | .neq => some ([], .bool (mkNo (mk2 .eqs a b)))
  | .lss => some ([], .bool (mk2 .lts a b))
  | .geq => some ([], .bool (mkNo (mk2 .lts a b)))
  | _ => none
def isBoolT (P : Program) (t : TypeId) : Bool := match P.underlying t with | some .bool => true | _ => false
def isSliceT (P : Program) (t : TypeId) : Bool := match P.underlying t with | some (.slice _) => true | _ => false
def sBin (P : Program) (op : BinOp) (t : TypeId) (x y : SC) : Option (List E × SC) := match x, y with
  | .int k a, .int k' b => match op with
    | .shl => some ([mk2 .lei (.int 0) b], .int k (mk2 (.shl k) a b))
    | .shr => some ([mk2 .lei (.int 0) b], .int k (mk2 (.shr k) a b))
    | op => if keq k k' then sInt op k a b else none
  | .str a, .str b => sStr op a b
  | .bool a, .bool b => if isBoolT P t then (match op with
    | .eql => some ([], .bool (mk2 .eqb a b))
    | .neq => some ([], .bool (mkNo (mk2 .eqb a b)))
    | _ => none) else none
  | .nil, .nil => if isSliceT P t then (match op with
    | .eql => some ([], .bool (.bool true))
    | .neq => some ([], .bool (.bool false))
    | _ => none) else none
  | _, _ => none

theorem holds_one {e : E} {Γ : CEnv} {ρ : List TV} (h : Holds Γ ρ [e]) : (e.den Γ ρ).asBool = true := h e (by simp)

theorem bytes_add (x y : List UInt8) : (⟨x.toArray⟩ : ByteArray) ++ ⟨y.toArray⟩ = ⟨(x ++ y).toArray⟩ := by
  apply ByteArray.ext
  rw [ByteArray.data_append]
  simp
theorem bytes_size (x : List UInt8) : (⟨x.toArray⟩ : ByteArray).size = x.length := by simp [ByteArray.size]
theorem bytes_toList (x : List UInt8) : (⟨x.toArray⟩ : ByteArray).toList = x := by
  rw [ByteArray.toList_eq]

theorem mk2_bool {p : P2} {a b : E} : ((mk2 p a b).den Γ ρ) = p.den (a.den Γ ρ) (b.den Γ ρ) := mk2_den p a b
theorem mkNo_den {e : E} : ((mkNo e).den Γ ρ) = .bool (!(e.den Γ ρ).asBool) := mk1_den .no e

theorem run_eqGuard_int (op : BinOp) (t : TypeId) (x y : Operand) (k k' : IntKind) (a b : Int) : (eqGuard op t x y (.int k a) (.int k' b)).run P w = .ok () w := by
  unfold eqGuard; split <;> rfl
theorem run_eqGuard_bool (op : BinOp) (t : TypeId) (x y : Operand) (a b : Bool) : (eqGuard op t x y (.bool a) (.bool b)).run P w = .ok () w := by
  unfold eqGuard; split <;> rfl
theorem run_eqGuard_str (op : BinOp) (t : TypeId) (x y : Operand) (a b : ByteArray) : (eqGuard op t x y (.string a) (.string b)).run P w = .ok () w := by
  unfold eqGuard; split <;> rfl
theorem run_eqGuard_slice (op : BinOp) (t : TypeId) (x y : Operand) (a b : Option Addr) (l c l' c' : Nat) : (eqGuard op t x y (.slice a l c) (.slice b l' c')).run P w = .ok () w := by
  unfold eqGuard; split <;> rfl

theorem run_equalIn_bool (d : Nat) {t : TypeId} (hu : P.underlying t = some .bool) (p q : Bool) : (Op.equalIn (d + 1) t (.bool p) (.bool q)).run P w = .ok (p == q) w := by
  simp only [Op.equalIn, Sem.run_bind, run_underlying hu, Result.andThen_ok]
  rfl
theorem run_equalIn_nils (d : Nat) {t e : TypeId} (hu : P.underlying t = some (.slice e)) : (Op.equalIn (d + 1) t (.slice none 0 0) (.slice none 0 0)).run P w = .ok true w := by
  simp only [Op.equalIn, Sem.run_bind, run_underlying hu, Result.andThen_ok]
  rfl
theorem binOp_shl (t : TypeId) (k k' : IntKind) (a b : Int) : binOp .shl t (.int k a) (.int k' b) = Op.shift .shl k a k' b := rfl
theorem binOp_shr (t : TypeId) (k k' : IntKind) (a b : Int) : binOp .shr t (.int k a) (.int k' b) = Op.shift .shr k a k' b := rfl
def intOp (op : BinOp) (k : IntKind) (a b : Int) : Sem Value := match op with
  | .add | .sub | .mul => Op.intArith op k a b
  | .quo | .rem => Op.intDiv op k a b
  | .and | .or | .xor | .andNot => Op.intBits op k a b
  | _ => Op.intCmp op a b
theorem binOp_int (op : BinOp) (t : TypeId) (k : IntKind) (a b : Int) (h1 : op ≠ .shl) (h2 : op ≠ .shr) : binOp op t (.int k a) (.int k b) = intOp op k a b := by
  have e : (if k ≠ k then (stuck "BinOp: operands of different kinds" : Sem Value) else intOp op k a b) = intOp op k a b := if_neg (fun h => h rfl)
  rw [← e]
  cases op <;> first | exact absurd rfl h1 | exact absurd rfl h2 | rfl
theorem binOp_str (op : BinOp) (t : TypeId) (a b : ByteArray) : binOp op t (.string a) (.string b) = Op.stringOp op a b := by cases op <;> rfl
theorem run_shift (op : BinOp) (k k' : IntKind) (a b : Int) (h : 0 ≤ b) (hop : op = .shl ∨ op = .shr) :
    (Op.shift op k a k' b).run P w = .ok (.int k (if op = .shl then shlOp k a b else shrOp k a b)) w := by
  unfold Op.shift
  rw [if_neg (by omega)]
  rcases hop with rfl | rfl <;> rfl
theorem sInt_sound {op : BinOp} {k : IntKind} {a b : E} {req : List E} {s : SC} {hp : List Blk} {as : List Value} {M Mf : Mem} (h : sInt op k a b = some (req, s)) (hq : Holds Γ ρ req) :
    ∃ z, (∀ w : World, (intOp op k (a.den Γ ρ).asInt (b.den Γ ρ).asInt).run P w = .ok z w) ∧ RepC Γ ρ hp as M Mf s z := by
  cases op <;> simp only [sInt, Option.some.injEq, Prod.mk.injEq, reduceCtorEq] at h
  all_goals
    obtain ⟨rfl, rfl⟩ := h
    first
    | (refine ⟨_, fun w => ?_, rfl⟩
       simp only [mk2_den, mkNo_den, P2.den, asInt_int, asBool_bool]
       rfl)
    | (have h0 := holds_one hq
       rw [mkNo_den, mk2_den] at h0
       simp only [P2.den, E.den, asBool_bool, asInt_int, Bool.not_eq_true', beq_eq_false_iff_ne, ne_eq] at h0
       refine ⟨_, fun w => ?_, rfl⟩
       simp only [mk2_den, P2.den, asInt_int, intOp, Op.intDiv, if_neg h0]
       rfl)
theorem sStr_sound {op : BinOp} {a b : E} {req : List E} {s : SC} {hp : List Blk} {as : List Value} {M Mf : Mem} (h : sStr op a b = some (req, s)) (hq : Holds Γ ρ req) :
    ∃ z, (∀ w : World, (Op.stringOp op ⟨(a.den Γ ρ).asStr.toArray⟩ ⟨(b.den Γ ρ).asStr.toArray⟩).run P w = .ok z w) ∧ RepC Γ ρ hp as M Mf s z := by
  cases op <;> simp only [sStr, Option.some.injEq, Prod.mk.injEq, reduceCtorEq] at h
  case add =>
    obtain ⟨rfl, rfl⟩ := h
    have h0 := holds_one hq
    simp only [mk2_den, mk1_den, P2.den, P1.den, E.den, asBool_bool, asInt_int, asStr_str, decide_eq_true_eq, maxI, List.length_append] at h0
    refine ⟨_, fun w => ?_, rfl⟩
    rw [run_string_add_sum w _ _ (by simp only [bytes_size]; omega), bytes_add, mk2_den]
    rfl
  all_goals
    obtain ⟨rfl, rfl⟩ := h
    refine ⟨_, fun w => ?_, rfl⟩
    simp only [Op.stringOp, bytes_toList, mk2_den, mkNo_den, P2.den, asBool_bool]
    rfl

theorem sBin_sound {op : BinOp} {t : TypeId} {x y : SC} {xo yo : Operand} {req : List E} {s : SC} {hp : List Blk} {as : List Value} {M Mf : Mem} {u v : Value} (h : sBin P op t x y = some (req, s))
    (hx : RepC Γ ρ hp as M Mf x u) (hy : RepC Γ ρ hp as M Mf y v) (hq : Holds Γ ρ req) :
    ∃ z, (∀ w : World, (do eqGuard op t xo yo u v; binOp op t u v : Sem Value).run P w = .ok z w) ∧ RepC Γ ρ hp as M Mf s z := by
  unfold sBin at h
  split at h
  · rename_i k a k' b
    simp only [RepC] at hx hy
    subst hx hy
    split at h
    · simp only [Option.some.injEq, Prod.mk.injEq] at h
      obtain ⟨rfl, rfl⟩ := h
      have h0 := holds_one hq
      rw [mk2_den] at h0
      have h0 : (0 : Int) ≤ (b.den Γ ρ).asInt := of_decide_eq_true h0
      refine ⟨_, fun w => ?_, rfl⟩
      simp only [Sem.run_bind, run_eqGuard_int, Result.andThen_ok, mk2_den, P2.den, asInt_int, binOp_shl, run_shift _ _ _ _ _ h0 (.inl rfl), if_true]
    · simp only [Option.some.injEq, Prod.mk.injEq] at h
      obtain ⟨rfl, rfl⟩ := h
      have h0 := holds_one hq
      rw [mk2_den] at h0
      have h0 : (0 : Int) ≤ (b.den Γ ρ).asInt := of_decide_eq_true h0
      refine ⟨_, fun w => ?_, rfl⟩
      simp only [Sem.run_bind, run_eqGuard_int, Result.andThen_ok, mk2_den, P2.den, asInt_int, binOp_shr, run_shift _ _ _ _ _ h0 (.inr rfl)]
      rw [if_neg (by simp)]
    · rename_i n1 n2
      split at h
      · rename_i hk
        have hkk := keq_eq hk
        subst hkk
        obtain ⟨z, k1, k2⟩ := sInt_sound (P := P) (hp := hp) (as := as) (M := M) (Mf := Mf) h hq
        refine ⟨z, fun w => ?_, k2⟩
        simp only [Sem.run_bind, run_eqGuard_int, Result.andThen_ok, binOp_int op t k _ _ (fun e => n1 e) (fun e => n2 e), k1]
      · cases h
  · rename_i a b
    simp only [RepC] at hx hy
    subst hx hy
    obtain ⟨z, k1, k2⟩ := sStr_sound (P := P) (hp := hp) (as := as) (M := M) (Mf := Mf) h hq
    refine ⟨z, fun w => ?_, k2⟩
    simp only [Sem.run_bind, run_eqGuard_str, Result.andThen_ok, binOp_str, k1]
  · rename_i a b
    simp only [RepC] at hx hy
    subst hx hy
    split at h
    · rename_i ht
      unfold isBoolT at ht
      split at ht
      · rename_i hu
        have he : ∀ (w : World) (p q : Bool), (Op.equal t (.bool p) (.bool q)).run P w = .ok (p == q) w := fun w p q => run_equalIn_bool 9999 hu p q
        cases op <;> simp only [Option.some.injEq, Prod.mk.injEq, reduceCtorEq] at h
        all_goals
          obtain ⟨rfl, rfl⟩ := h
          refine ⟨_, fun w => ?_, rfl⟩
          simp [run_eqGuard_bool, binOp, he, mk2_den, mkNo_den, P2.den, asBool_bool]
      · cases ht
    · cases h
  · simp only [RepC] at hx hy
    subst hx hy
    split at h
    · rename_i ht
      unfold isSliceT at ht
      split at ht
      · rename_i el hu
        have he : ∀ w : World, (Op.equal t (.slice none 0 0) (.slice none 0 0)).run P w = .ok true w := fun w => run_equalIn_nils 9999 hu
        cases op <;> simp only [Option.some.injEq, Prod.mk.injEq, reduceCtorEq] at h
        all_goals
          obtain ⟨rfl, rfl⟩ := h
          refine ⟨_, fun w => ?_, rfl⟩
          simp [run_eqGuard_slice, binOp, he, E.den, TV.asBool]
      · cases ht
    · cases h
  · cases h

/-! ### One operand -/
def sUn (op : UnOp) (x : SC) : Option SC := match op, x with
  | .neg, .int k a => some (.int k (mk1 (.neg k) a))
  | .xor, .int k a => some (.int k (mk1 (.com k) a))
  | .not, .bool a => some (.bool (mkNo a))
  | _, _ => none
theorem sUn_sound {op : UnOp} {x s : SC} {hp : List Blk} {as : List Value} {M Mf : Mem} {u : Value} (h : sUn op x = some s) (hx : RepC Γ ρ hp as M Mf x u) :
    ∃ z, (∀ w : World, (Op.unary op u).run P w = .ok z w) ∧ RepC Γ ρ hp as M Mf s z := by
  unfold sUn at h
  split at h <;> first | (cases h; done) | skip
  all_goals
    simp only [RepC] at hx
    subst hx
    simp only [Option.some.injEq] at h
    subst h
    refine ⟨_, fun w => ?_, rfl⟩
    simp only [mk1_den, mkNo_den, P1.den, asInt_int, asBool_bool]
    rfl
end
end Go.Proofs.YtccpepheooleoaaDoor

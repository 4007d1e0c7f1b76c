/- The operations that a function's code is made of, over a symbolic state. -/
import Derived.Test.YtijahemmbooblaaGo
namespace Go.Lun

/-- What is known of a type. -/
class Ty (P : Program) (t : TypeId) (d : outParam TypeDesc) (z : outParam Value) (sz by_ : outParam Nat) : Prop where
  und : P.underlying t = some d
  info : ∃ i, P.info? t = some i ∧ i.zero = some z ∧ i.size = sz ∧ i.bytes = by_

section
variable {P : Program} {t : TypeId} {d : TypeDesc} {z : Value} {sz by_ : Nat} {w : World}
theorem run_und [h : Ty P t d z sz by_] : (underlying t).run P w = .ok d w := by
  simp [underlying, h.und]
theorem run_info [h : Ty P t d z sz by_] : ∃ i : TypeInfo, (typeInfo t).run P w = .ok i w ∧ i.zero = some z ∧ i.size = sz ∧ i.bytes = by_ := by
  obtain ⟨i, h1, h2⟩ := h.info
  exact ⟨i, by simp [typeInfo, h1], h2⟩
theorem run_size [h : Ty P t d z sz by_] : (sizeOf t).run P w = .ok sz w := by
  obtain ⟨i, h1, _, h3, _⟩ := run_info (P := P) (t := t) (w := w)
  simp [sizeOf, h1, h3]
theorem run_zero [h : Ty P t d z sz by_] : (zeroValue t).run P w = .ok z w := by
  obtain ⟨i, h1, h2, _⟩ := run_info (P := P) (t := t) (w := w)
  simp [zeroValue, h1, h2]
def aggD : TypeDesc → Bool
  | .struct _ | .array _ _ => true
  | _ => false
theorem run_isAgg [h : Ty P t d z sz by_] : (isAgg t).run P w = .ok (aggD d) w := by
  simp only [isAgg, Sem.run_bind, run_und, Result.andThen_ok]
  cases d <;> rfl
end

/-- A field's place in its struct. -/
class Fld (P : Program) (s : TypeId) (f : Nat) (k : outParam Nat) : Prop where
  run : ∀ (a : Addr) (w : World), (Instr.fieldAt s (.pointer (some a)) f).run P w = .ok (.pointer (some (a.add k))) w

theorem Fld.of {P : Program} {s : TypeId} {f : Nat} {fields : Array Field} {z : Value} {sz by_ : Nat} [Ty P s (.struct fields) z sz by_] {fl : Field} {d : TypeDesc} {z' : Value} {sz' by' : Nat}
    (hf : fields[f]? = some fl) (h : Ty P fl.type d z' sz' by') (hs : Nat.beq sz' 0 = false) : Fld P s f fl.offset := ⟨fun a w => by
  have h0 := of_beq_ff hs
  simp [Instr.fieldAt, run_und, hf, Instr.sureAddr, fieldPlace, run_size (h := h), h0]⟩

/-- The places of a struct's fields, and how many cells each has. -/
class Plcs (P : Program) (t : TypeId) (l : outParam (List (Nat × Nat))) : Prop where
  run : ∃ fields, P.underlying t = some (.struct fields) ∧ ∀ w, ((fields.mapM fun f => do pure (f.offset, ← sizeOf f.type) : Sem (Array (Nat × Nat)))).run P w = .ok ⟨l⟩ w

theorem run_mapM_fields {P : Program} {w : World} : ∀ {l : List Field} {ps : List (Nat × Nat)}, l.length = ps.length → (∀ (i : Nat) (f : Field) (p : Nat × Nat), l[i]? = some f → ps[i]? = some p → f.offset = p.1 ∧ (sizeOf f.type).run P w = .ok p.2 w) →
    ((l.mapM fun f => do pure (f.offset, ← sizeOf f.type) : Sem (List (Nat × Nat)))).run P w = .ok ps w
  | [], [], _, _ => rfl
  | f :: l, (a, b) :: ps, hl, h => by
    have h0 := h 0 f (a, b) rfl rfl
    have ih := run_mapM_fields (P := P) (w := w) (l := l) (ps := ps) (by simpa using hl) (fun i g p hg hp => h (i + 1) g p (by simpa using hg) (by simpa using hp))
    rw [List.mapM_cons]
    simp only [Sem.run_bind, h0.2, Result.andThen_ok, Sem.run_pure, ih, h0.1]

theorem Plcs.of {P : Program} {t : TypeId} {fs : List Field} {ps : List (Nat × Nat)} {z : Value} {sz by_ : Nat} (h : Ty P t (.struct ⟨fs⟩) z sz by_)
    (hs : fs.length = ps.length ∧ ∀ (w : World) (i : Nat) (f : Field) (p : Nat × Nat), fs[i]? = some f → ps[i]? = some p → f.offset = p.1 ∧ (sizeOf f.type).run P w = .ok p.2 w) : Plcs P t ps := ⟨_, h.und, fun w => by
  have := run_mapM_fields (P := P) (w := w) hs.1 (hs.2 w)
  rw [List.mapM_toArray, Sem.run_map, this]
  rfl⟩

section
variable {P : Program} {n : Nat} {ds : List Deferred} {F : Fr} {L : List Asrt} {env : Env} {Q : Post} {ops : Array Oper} {rest : List Oper}
variable {dt : Option Tmp} {ty : TypeId} {pos : String} {af : Array Edge} {g : Option (Nat × Bool)}

theorem add_none (b off k : Nat) : (Addr.mk b off none).add k = ⟨b, off + k, none⟩ := by
  unfold Addr.add; split
  · rename_i h; subst h; rfl
  · rfl

theorem y_move {x : Operand} {v : Value} (hx : ev env x = some v) : Yld P n ds F L env ⟨dt, .move x, ty, pos, af, g⟩ (v) := .mk fun w a _ k => by simp [execOp, k.ev hx]
theorem y_assign {x : Operand} {v : Value} (hx : ev env x = some v) : Yld P n ds F L env ⟨dt, .assign x, ty, pos, af, g⟩ (v) := .mk fun w a _ k => by simp [execOp, k.ev hx]
theorem y_pick_t {c x y : Operand} {v : Value} (hc : ev env c = some (.bool true)) (hx : ev env x = some v) : Yld P n ds F L env ⟨dt, .pick c x y, ty, pos, af, g⟩ (v) := .mk fun w a _ k => by simp [execOp, k.ev hc, k.ev hx, asBool]
theorem y_pick_f {c x y : Operand} {v : Value} (hc : ev env c = some (.bool false)) (hy : ev env y = some v) : Yld P n ds F L env ⟨dt, .pick c x y, ty, pos, af, g⟩ (v) := .mk fun w a _ k => by simp [execOp, k.ev hc, k.ev hy, asBool]
theorem y_nilCheck {x : Operand} {a0 : Addr} (hx : ev env x = some (.pointer (some a0))) : Yld P n ds F L env ⟨dt, .nilCheck x, ty, pos, af, g⟩ (.pointer (some a0)) := .mk fun w a _ k => by simp [execOp, k.ev hx]
theorem y_nilCheck_fn {x : Operand} {f : FuncId} {p q : Array Value} (hx : ev env x = some (.func (.func f) p q)) : Yld P n ds F L env ⟨dt, .nilCheck x, ty, pos, af, g⟩ (.func (.func f) p q) := .mk fun w a _ k => by simp [execOp, k.ev hx]
theorem y_extract {x : Operand} {vs : List Value} {i : Nat} {v : Value} (hx : ev env x = some (.tuple ⟨vs⟩)) (hv : vs[i]? = some v) : Yld P n ds F L env ⟨dt, .extract x i, ty, pos, af, g⟩ (v) := .mk fun w a _ k => by simp [execOp, k.ev hx, Instr.extract, hv]
theorem y_fieldAddr0 {s : TypeId} {x : Operand} {f k0 b : Nat} [hf : Fld P s f k0] (hx : ev env x = some (.pointer (some ⟨b, 0, none⟩))) : Yld P n ds F L env ⟨dt, .fieldAddr s x f, ty, pos, af, g⟩ (.pointer (some ⟨b, k0, none⟩)) := .mk fun w a _ k => by simp [execOp, k.ev hx, hf.run, add_none]
theorem y_fieldAddr {s : TypeId} {x : Operand} {f k0 b off : Nat} [hf : Fld P s f k0] (hx : ev env x = some (.pointer (some ⟨b, off, none⟩))) : Yld P n ds F L env ⟨dt, .fieldAddr s x f, ty, pos, af, g⟩ (.pointer (some ⟨b, off + k0, none⟩)) := .mk fun w a _ k => by simp [execOp, k.ev hx, hf.run, add_none]
theorem y_makeFunc {fn : Fn} {first cap : Array Operand} {vs us : List Value} (h1 : evs env first.toList = some vs) (h2 : evs env cap.toList = some us) : Yld P n ds F L env ⟨dt, .makeFunc fn first cap, ty, pos, af, g⟩ (.func fn ⟨vs⟩ ⟨us⟩) := .mk fun w a _ k => by simp [execOp, Instr.makeFunc, k.evsA h1, k.evsA h2]

/-! #### Numbers -/

theorem y_arith {op : BinOp} {xt yt : TypeId} {x y : Operand} {k0 : IntKind} {a0 b0 c0 : Int} (hx : ev env x = some (.int k0 a0)) (hy : ev env y = some (.int k0 b0))
    (hop : (match op with | .add => c0 = a0 + b0 | .sub => c0 = a0 - b0 | .mul => c0 = a0 * b0 | _ => False)) : Yld P n ds F L env ⟨dt, .binOp op xt x y yt, ty, pos, af, g⟩ (.int k0 (k0.wrap c0)) := .mk fun w a _ k => by cases op <;> simp at hop <;> subst hop <;> simp [execOp, k.ev hx, k.ev hy, eqGuard, binOp, Op.intArith]

theorem wrap_i64 {c : Int} (h1 : -9223372036854775808 ≤ c) (h2 : c ≤ 9223372036854775807) : IntKind.i64.wrap c = c := by
  have e : (2 : Int) ^ 64 = 18446744073709551616 := by decide
  have e' : (2 : Int) ^ (64 - 1) = 9223372036854775808 := by decide
  unfold IntKind.wrap
  simp only [IntKind.bits, IntKind.signed, e, e', Bool.true_and, decide_eq_true_eq]
  split <;> omega

theorem y_arith64 {op : BinOp} {xt yt : TypeId} {x y : Operand} {a0 b0 c0 : Int} (hx : ev env x = some (.int .i64 a0)) (hy : ev env y = some (.int .i64 b0))
    (hop : (match op with | .add => c0 = a0 + b0 | .sub => c0 = a0 - b0 | .mul => c0 = a0 * b0 | _ => False)) (h1 : -9223372036854775808 ≤ c0 ∧ c0 ≤ 9223372036854775807) : Yld P n ds F L env ⟨dt, .binOp op xt x y yt, ty, pos, af, g⟩ (.int .i64 c0) := by
  have := y_arith (P := P) (n := n) (ds := ds) (F := F) (L := L) (dt := dt) (ty := ty) (pos := pos) (af := af) (g := g) (xt := xt) (yt := yt) hx hy hop
  rwa [wrap_i64 h1.1 h1.2] at this

def cmpI (op : BinOp) (a b : Int) : Option Bool :=
  match op with
  | .eql => some (decide (a = b))
  | .neq => some (!decide (a = b))
  | .lss => some (decide (a < b))
  | .leq => some (decide (a ≤ b))
  | .gtr => some (decide (b < a))
  | .geq => some (decide (b ≤ a))
  | _ => none

theorem y_cmp {op : BinOp} {xt yt : TypeId} {x y : Operand} {k0 : IntKind} {a0 b0 : Int} {c : Bool} (hx : ev env x = some (.int k0 a0)) (hy : ev env y = some (.int k0 b0))
    (hop : cmpI op a0 b0 = some c) : Yld P n ds F L env ⟨dt, .binOp op xt x y yt, ty, pos, af, g⟩ (.bool c) := .mk fun w a _ k => by
  have ex := k.ev hx
  have ey := k.ev hy
  cases op <;> first | (cases hop; done) | (injection hop with hop; subst hop; simp [execOp, ex, ey, eqGuard, binOp, Op.intCmp, bne]; try rfl)

section
variable {xt yt : TypeId} {x y : Operand} {k0 : IntKind} {a0 b0 : Int}
theorem y_eql_t (hx : ev env x = some (.int k0 a0)) (hy : ev env y = some (.int k0 b0)) (h : a0 = b0) : Yld P n ds F L env ⟨dt, .binOp .eql xt x y yt, ty, pos, af, g⟩ (.bool true) := y_cmp hx hy (by simp [cmpI, h])
theorem y_eql_f (hx : ev env x = some (.int k0 a0)) (hy : ev env y = some (.int k0 b0)) (h : a0 ≠ b0) : Yld P n ds F L env ⟨dt, .binOp .eql xt x y yt, ty, pos, af, g⟩ (.bool false) := y_cmp hx hy (by simp [cmpI, h])
theorem y_neq_t (hx : ev env x = some (.int k0 a0)) (hy : ev env y = some (.int k0 b0)) (h : a0 ≠ b0) : Yld P n ds F L env ⟨dt, .binOp .neq xt x y yt, ty, pos, af, g⟩ (.bool true) := y_cmp hx hy (by simp [cmpI, h])
theorem y_neq_f (hx : ev env x = some (.int k0 a0)) (hy : ev env y = some (.int k0 b0)) (h : a0 = b0) : Yld P n ds F L env ⟨dt, .binOp .neq xt x y yt, ty, pos, af, g⟩ (.bool false) := y_cmp hx hy (by simp [cmpI, h])
theorem y_lss_t (hx : ev env x = some (.int k0 a0)) (hy : ev env y = some (.int k0 b0)) (h : a0 < b0) : Yld P n ds F L env ⟨dt, .binOp .lss xt x y yt, ty, pos, af, g⟩ (.bool true) := y_cmp hx hy (by simp [cmpI, h])
theorem y_lss_f (hx : ev env x = some (.int k0 a0)) (hy : ev env y = some (.int k0 b0)) (h : b0 ≤ a0) : Yld P n ds F L env ⟨dt, .binOp .lss xt x y yt, ty, pos, af, g⟩ (.bool false) := y_cmp hx hy (by simp [cmpI]; omega)
theorem y_leq_t (hx : ev env x = some (.int k0 a0)) (hy : ev env y = some (.int k0 b0)) (h : a0 ≤ b0) : Yld P n ds F L env ⟨dt, .binOp .leq xt x y yt, ty, pos, af, g⟩ (.bool true) := y_cmp hx hy (by simp [cmpI, h])
theorem y_leq_f (hx : ev env x = some (.int k0 a0)) (hy : ev env y = some (.int k0 b0)) (h : b0 < a0) : Yld P n ds F L env ⟨dt, .binOp .leq xt x y yt, ty, pos, af, g⟩ (.bool false) := y_cmp hx hy (by simp [cmpI]; omega)
theorem y_gtr_t (hx : ev env x = some (.int k0 a0)) (hy : ev env y = some (.int k0 b0)) (h : b0 < a0) : Yld P n ds F L env ⟨dt, .binOp .gtr xt x y yt, ty, pos, af, g⟩ (.bool true) := y_cmp hx hy (by simp [cmpI, h])
theorem y_gtr_f (hx : ev env x = some (.int k0 a0)) (hy : ev env y = some (.int k0 b0)) (h : a0 ≤ b0) : Yld P n ds F L env ⟨dt, .binOp .gtr xt x y yt, ty, pos, af, g⟩ (.bool false) := y_cmp hx hy (by simp [cmpI]; omega)
theorem y_geq_t (hx : ev env x = some (.int k0 a0)) (hy : ev env y = some (.int k0 b0)) (h : b0 ≤ a0) : Yld P n ds F L env ⟨dt, .binOp .geq xt x y yt, ty, pos, af, g⟩ (.bool true) := y_cmp hx hy (by simp [cmpI, h])
theorem y_geq_f (hx : ev env x = some (.int k0 a0)) (hy : ev env y = some (.int k0 b0)) (h : a0 < b0) : Yld P n ds F L env ⟨dt, .binOp .geq xt x y yt, ty, pos, af, g⟩ (.bool false) := y_cmp hx hy (by simp [cmpI]; omega)
end

theorem y_not {xt : TypeId} {x : Operand} {b : Bool} (hx : ev env x = some (.bool b)) : Yld P n ds F L env ⟨dt, .unOp .not xt x, ty, pos, af, g⟩ (.bool (!b)) := .mk fun w a _ k => by simp [execOp, k.ev hx, Op.unary]

theorem y_shr {xt yt : TypeId} {x y : Operand} {k0 k1 : IntKind} {a0 b0 : Int} (u m : Nat) (hx : ev env x = some (.int k0 a0)) (hy : ev env y = some (.int k1 b0)) (ha : a0 = (u : Int)) (hb : b0 = (m : Int)) (hm : m ≤ k0.bits) :
    Yld P n ds F L env ⟨dt, .binOp .shr xt x y yt, ty, pos, af, g⟩ (.int k0 ((u / 2 ^ m : Nat) : Int)) := .mk fun w a _ k => by
  have ex := k.ev hx
  have ey := k.ev hy
  subst ha; subst hb
  have h0 : ¬ ((m : Int) < 0) := by omega
  have h1 : min (m : Int).toNat k0.bits = m := by simp; omega
  have h2 : ((u : Int).fdiv (2 ^ m)) = ((u / 2 ^ m : Nat) : Int) := by
    rw [Int.fdiv_eq_ediv_of_nonneg _ (Int.pow_nonneg (by omega))]
    simp
  simp only [execOp, ex, ey, eqGuard, binOp, Op.shift, Sem.run_bind, h0, if_false, h1]
  simp [h2]
theorem y_and1 {xt yt : TypeId} {x y : Operand} {a0 : Int} (u : Nat) (hx : ev env x = some (.int .u8 a0)) (hy : ev env y = some (.int .u8 1)) (ha : a0 = (u : Int)) (hu : u < 256) :
    Yld P n ds F L env ⟨dt, .binOp .and xt x y yt, ty, pos, af, g⟩ (.int .u8 ((u % 2 : Nat) : Int)) := .mk fun w a _ k => by
  have ex := k.ev hx
  have ey := k.ev hy
  subst ha
  have h1 : (BitVec.ofInt IntKind.u8.bits (u : Int) &&& BitVec.ofInt IntKind.u8.bits 1).toNat = u % 2 := by
    have : IntKind.u8.bits = 8 := rfl
    rw [this]
    rw [BitVec.toNat_and]
    have e1 : (BitVec.ofInt 8 (u : Int)).toNat = u := by rw [BitVec.ofInt_natCast, BitVec.toNat_ofNat]; omega
    have e2 : (BitVec.ofInt 8 1).toNat = 1 := by decide
    rw [e1, e2, Nat.and_one_is_mod]
  have h2 : IntKind.u8.wrap ((u % 2 : Nat) : Int) = ((u % 2 : Nat) : Int) := by
    have e : (2 : Int) ^ 8 = 256 := by decide
    unfold IntKind.wrap
    simp only [IntKind.bits, IntKind.signed, e, Bool.false_and, Bool.false_eq_true, if_false]
    omega
  simp only [execOp, ex, ey, eqGuard, binOp, Op.intBits, Sem.run_bind, h1, h2]
  simp

theorem wrap_u64 {c : Int} (h1 : 0 ≤ c) (h2 : c ≤ 18446744073709551615) : IntKind.u64.wrap c = c := by
  have e : (2 : Int) ^ 64 = 18446744073709551616 := by decide
  unfold IntKind.wrap
  simp only [IntKind.bits, IntKind.signed, e, Bool.false_and, Bool.false_eq_true, if_false]
  omega
theorem y_conv_u64 {src dst : TypeId} {x : Operand} {k0 : IntKind} {d0 : TypeDesc} {z0 z1 : Value} {s0 b0 s1 b1 : Nat} {a0 : Int} [Ty P src d0 z0 s0 b0] [Ty P dst (.int .u64) z1 s1 b1] (hx : ev env x = some (.int k0 a0)) (h : 0 ≤ a0 ∧ a0 ≤ 18446744073709551615) :
    Yld P n ds F L env ⟨dt, .convert src dst x, ty, pos, af, g⟩ (.int .u64 a0) := .mk fun w a _ k => by
  simp [execOp, k.ev hx, convert, run_und, Conv.intToInt, wrap_u64 h.1 h.2]

theorem y_conv_int {src dst : TypeId} {x : Operand} {k0 k1 : IntKind} {d0 : TypeDesc} {z0 z1 : Value} {s0 b0 s1 b1 : Nat} {a0 : Int} [Ty P src d0 z0 s0 b0] [Ty P dst (.int k1) z1 s1 b1] (hx : ev env x = some (.int k0 a0)) : Yld P n ds F L env ⟨dt, .convert src dst x, ty, pos, af, g⟩ (.int k1 (k1.wrap a0)) := .mk fun w a _ k => by simp [execOp, k.ev hx, convert, run_und, Conv.intToInt]

end
end Go.Lun

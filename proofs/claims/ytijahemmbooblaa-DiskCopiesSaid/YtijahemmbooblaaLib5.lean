/- Comparing pointers, slices and truths. -/
import Derived.Test.YtijahemmbooblaaLib4
namespace Go.Lun
section
variable {P : Program} {n : Nat} {ds : List Deferred} {F : Fr} {L : List Asrt} {env : Env}
variable {dt : Option Tmp} {ty : TypeId} {pos : String} {af : Array Edge} {g : Option (Nat × Bool)}

theorem run_eqIn_p {t e : TypeId} {z : Value} {s1 b1 : Nat} {p : Option Addr} {w : World} (d : Nat) [Ty P t (.pointer e) z s1 b1] : (Op.equalIn (d + 1) t (.pointer p) (.pointer none)).run P w = .ok p.isNone w := by
  unfold Op.equalIn
  simp only [Sem.run_bind, run_und, Result.andThen_ok]
  cases p <;> rfl
theorem run_eqIn_b {t : TypeId} {z : Value} {s1 b1 : Nat} {p q : Bool} {w : World} (d : Nat) [Ty P t .bool z s1 b1] : (Op.equalIn (d + 1) t (.bool p) (.bool q)).run P w = .ok (p == q) w := by
  unfold Op.equalIn
  simp only [Sem.run_bind, run_und, Result.andThen_ok]
  rfl
theorem run_eqIn_s {t e : TypeId} {z : Value} {s1 b1 l c l' c' : Nat} {p : Option Addr} {w : World} (d : Nat) [Ty P t (.slice e) z s1 b1] : (Op.equalIn (d + 1) t (.slice p l c) (.slice none l' c')).run P w = .ok p.isNone w := by
  unfold Op.equalIn
  simp only [Sem.run_bind, run_und, Result.andThen_ok]
  cases p <;> rfl
theorem eq_depth (t : TypeId) (x y : Value) : Op.equal t x y = Op.equalIn (9999 + 1) t x y := rfl

/-- Two values that are compared, by what is known of their being equal. -/
theorem y_eql_of {xt yt : TypeId} {x y : Operand} {a b : Value} {c : Bool} (hx : ev env x = some a) (hy : ev env y = some b) (hg : eqGuard .eql xt x y a b = pure ()) (hb : binOp .eql xt a b = (do pure (.bool (← Op.equal xt a b))))
    (h : ∀ w, (Op.equal xt a b).run P w = .ok c w) : Yld P n ds F L env ⟨dt, .binOp .eql xt x y yt, ty, pos, af, g⟩ (.bool c) := .mk fun w t s k => by
  have e1 := k.ev hx
  have e2 := k.ev hy
  simp only [execOp, e1, e2, hg, hb, Sem.run_bind, Sem.run_pure, Result.andThen_ok, h]
theorem y_neq_of {xt yt : TypeId} {x y : Operand} {a b : Value} {c : Bool} (hx : ev env x = some a) (hy : ev env y = some b) (hg : eqGuard .neq xt x y a b = pure ()) (hb : binOp .neq xt a b = (do pure (.bool (!(← Op.equal xt a b)))))
    (h : ∀ w, (Op.equal xt a b).run P w = .ok c w) : Yld P n ds F L env ⟨dt, .binOp .neq xt x y yt, ty, pos, af, g⟩ (.bool (!c)) := .mk fun w t s k => by
  have e1 := k.ev hx
  have e2 := k.ev hy
  simp only [execOp, e1, e2, hg, hb, Sem.run_bind, Sem.run_pure, Result.andThen_ok, h]

theorem y_eql_nil {xt yt e : TypeId} {x y : Operand} {z : Value} {s1 b1 : Nat} {p : Option Addr} [Ty P xt (.pointer e) z s1 b1] (hx : ev env x = some (.pointer p)) (hy : ev env y = some (.pointer none)) :
    Yld P n ds F L env ⟨dt, .binOp .eql xt x y yt, ty, pos, af, g⟩ (.bool p.isNone) := y_eql_of hx hy rfl rfl fun w => by rw [eq_depth]; exact run_eqIn_p _
theorem y_neq_nil {xt yt e : TypeId} {x y : Operand} {z : Value} {s1 b1 : Nat} {p : Option Addr} [Ty P xt (.pointer e) z s1 b1] (hx : ev env x = some (.pointer p)) (hy : ev env y = some (.pointer none)) :
    Yld P n ds F L env ⟨dt, .binOp .neq xt x y yt, ty, pos, af, g⟩ (.bool (!p.isNone)) := y_neq_of hx hy rfl rfl fun w => by rw [eq_depth]; exact run_eqIn_p _
theorem y_eql_bool {xt yt : TypeId} {x y : Operand} {z : Value} {s1 b1 : Nat} {p q : Bool} [Ty P xt .bool z s1 b1] (hx : ev env x = some (.bool p)) (hy : ev env y = some (.bool q)) :
    Yld P n ds F L env ⟨dt, .binOp .eql xt x y yt, ty, pos, af, g⟩ (.bool (p == q)) := y_eql_of hx hy rfl rfl fun w => by rw [eq_depth]; exact run_eqIn_b _
theorem y_neq_bool {xt yt : TypeId} {x y : Operand} {z : Value} {s1 b1 : Nat} {p q : Bool} [Ty P xt .bool z s1 b1] (hx : ev env x = some (.bool p)) (hy : ev env y = some (.bool q)) :
    Yld P n ds F L env ⟨dt, .binOp .neq xt x y yt, ty, pos, af, g⟩ (.bool (!(p == q))) := y_neq_of hx hy rfl rfl fun w => by rw [eq_depth]; exact run_eqIn_b _
theorem y_eql_snil {xt yt e : TypeId} {x y : Operand} {z : Value} {s1 b1 : Nat} {p : Option Addr} {l c l' c' : Nat} [Ty P xt (.slice e) z s1 b1] (hx : ev env x = some (.slice p l c)) (hy : ev env y = some (.slice none l' c')) :
    Yld P n ds F L env ⟨dt, .binOp .eql xt x y yt, ty, pos, af, g⟩ (.bool p.isNone) := y_eql_of hx hy rfl rfl fun w => by rw [eq_depth]; exact run_eqIn_s _

theorem y_quo {xt yt : TypeId} {x y : Operand} {a0 b0 : Int} (u m : Nat) (hx : ev env x = some (.int .i64 a0)) (hy : ev env y = some (.int .i64 b0)) (ha : a0 = (u : Int)) (hb : b0 = (m : Int)) (hm : 0 < m) (hu : u ≤ 9223372036854775807) :
    Yld P n ds F L env ⟨dt, .binOp .quo xt x y yt, ty, pos, af, g⟩ (.int .i64 ((u / m : Nat) : Int)) := .mk fun w a _ k => by
  have ex := k.ev hx
  have ey := k.ev hy
  subst ha; subst hb
  have h0 : ¬ ((m : Int) = 0) := by omega
  have h1 : u / m ≤ u := Nat.div_le_self _ _
  have h2 : (u : Int).tdiv (m : Int) = ((u / m : Nat) : Int) := Int.ofNat_tdiv u m
  have g1 : (0 : Int) ≤ ((u / m : Nat) : Int) := Int.natCast_nonneg _
  have g2 : ((u / m : Nat) : Int) ≤ (u : Int) := by exact_mod_cast h1
  have h3 : IntKind.i64.wrap ((u / m : Nat) : Int) = ((u / m : Nat) : Int) := wrap_i64 (by omega) (by omega)
  simp only [execOp, ex, ey, eqGuard, binOp, Op.intDiv, Sem.run_bind, h0, if_false, h2, h3]
  rfl
theorem y_rem {xt yt : TypeId} {x y : Operand} {k0 : IntKind} {a0 b0 : Int} (u m : Nat) (hx : ev env x = some (.int k0 a0)) (hy : ev env y = some (.int k0 b0)) (ha : a0 = (u : Int)) (hb : b0 = (m : Int)) (hm : 0 < m) :
    Yld P n ds F L env ⟨dt, .binOp .rem xt x y yt, ty, pos, af, g⟩ (.int k0 ((u % m : Nat) : Int)) := .mk fun w a _ k => by
  have ex := k.ev hx
  have ey := k.ev hy
  subst ha; subst hb
  have h0 : ¬ ((m : Int) = 0) := by omega
  have h2 : (u : Int).tmod (m : Int) = ((u % m : Nat) : Int) := Int.ofNat_tmod u m
  simp only [execOp, ex, ey, eqGuard, binOp, Op.intDiv, Sem.run_bind, h0, if_false, h2]
  simp
theorem y_conv_i64 {src dst : TypeId} {x : Operand} {k0 : IntKind} {d0 : TypeDesc} {z0 z1 : Value} {s0 b0 s1 b1 : Nat} {a0 : Int} [Ty P src d0 z0 s0 b0] [Ty P dst (.int .i64) z1 s1 b1] (hx : ev env x = some (.int k0 a0)) (h : -9223372036854775808 ≤ a0 ∧ a0 ≤ 9223372036854775807) :
    Yld P n ds F L env ⟨dt, .convert src dst x, ty, pos, af, g⟩ (.int .i64 a0) := by
  have := y_conv_int (P := P) (n := n) (ds := ds) (F := F) (L := L) (dt := dt) (ty := ty) (pos := pos) (af := af) (g := g) (src := src) (dst := dst) (k1 := .i64) hx
  rwa [wrap_i64 h.1 h.2] at this
theorem y_len_str {x : Operand} {t : TypeId} {z : Value} {sz by_ : Nat} {l : List UInt8} [Ty P t .string z sz by_] (hx : ev env x = some (str l)) :
    Yld P n ds F L env ⟨dt, .call ⟨.builtin .len, #[x], #[t]⟩, ty, pos, af, g⟩ (.int .i64 (l.length : Int)) := y_len_string (s := ⟨⟨l⟩⟩) hx
theorem wrap_u8 (i : Nat) : IntKind.u8.wrap (i : Int) = ((UInt8.ofNat i).toNat : Int) := by
  have e : (2 : Int) ^ 8 = 256 := by decide
  unfold IntKind.wrap
  simp only [IntKind.bits, IntKind.signed, e, Bool.false_and, Bool.false_eq_true, if_false]
  have : (UInt8.ofNat i).toNat = i % 256 := by simp
  rw [this]; omega
end
instance {c : UInt8} : CellsV (byteV c) [byteV c] := ⟨rfl, by simp [byteV, Value.oneCell']⟩
instance {l : List UInt8} : CellsV (str l) [str l] := ⟨rfl, by simp [str, Value.oneCell']⟩
theorem SetN.one {l : List Value} {i : Nat} {v : Value} (h : i < l.length) : SetN l i [v] (l.set i v) := ⟨by simp; omega, rfl⟩
end Go.Lun

/- Slices, maps, builtins: the rest of the operations. -/
import Derived.Test.YtijahemmbooblaaPl
namespace Go.Lun

section
variable {P : Program} {n : Nat} {ds : List Deferred} {F : Fr} {L : List Asrt} {env : Env} {Q : Post} {ops : Array Oper} {rest : List Oper}
variable {dt : Option Tmp} {d : Tmp} {ty : TypeId} {pos : String} {af : Array Edge} {g : Option (Nat × Bool)}

theorem run_builtin {b : Builtin} {args : Array Operand} {ats : Array TypeId} {vs : List Value} {a : Act} (k : Ok n ds env a) (h : evs env args.toList = some vs) :
    execOp a.eval ⟨dt, .call ⟨.builtin b, args, ats⟩, ty, pos, af, g⟩ = builtin b ats ty (args.map fun | .const _ => true | _ => false) ⟨vs⟩ := by
  simp only [execOp, resolve, k.evsA h]
  rfl

theorem y_len_slice {x : Operand} {t : TypeId} {e : TypeId} {z : Value} {sz by_ : Nat} {a0 : Option Addr} {len cap : Nat} [Ty P t (.slice e) z sz by_] (hx : ev env x = some (.slice a0 len cap)) :
    Yld P n ds F L env ⟨dt, .call ⟨.builtin .len, #[x], #[t]⟩, ty, pos, af, g⟩ (.int .i64 (len : Int)) := .mk fun w a s k => by
  rw [run_builtin k (vs := [.slice a0 len cap]) (by simp [evs, hx])]
  simp [builtin, Builtin.len_, run_und, goInt]
theorem y_len_string {x : Operand} {t : TypeId} {z : Value} {sz by_ : Nat} {s : ByteArray} [Ty P t .string z sz by_] (hx : ev env x = some (.string s)) :
    Yld P n ds F L env ⟨dt, .call ⟨.builtin .len, #[x], #[t]⟩, ty, pos, af, g⟩ (.int .i64 (s.size : Int)) := .mk fun w a _ k => by
  rw [run_builtin k (vs := [.string s]) (by simp [evs, hx])]
  simp [builtin, Builtin.len_, run_und, goInt]
theorem y_max {x y : Operand} {ats : Array TypeId} {k0 : IntKind} {a0 b0 : Int} (hx : ev env x = some (.int k0 a0)) (hy : ev env y = some (.int k0 b0)) :
    Yld P n ds F L env ⟨dt, .call ⟨.builtin .max, #[x, y], ats⟩, ty, pos, af, g⟩ (.int k0 (max a0 b0)) := .mk fun w a _ k => by
  rw [run_builtin k (vs := [.int k0 a0, .int k0 b0]) (by simp [evs, hx, hy])]
  simp only [builtin, Builtin.max_, Builtin.max2, List.foldlM, Sem.run_bind, Sem.run_pure, Result.andThen_ok, pure_bind, bind_pure]
  have : max a0 b0 = if b0 > a0 then b0 else a0 := by split <;> omega
  rw [this]
theorem y_min {x y : Operand} {ats : Array TypeId} {k0 : IntKind} {a0 b0 : Int} (hx : ev env x = some (.int k0 a0)) (hy : ev env y = some (.int k0 b0)) :
    Yld P n ds F L env ⟨dt, .call ⟨.builtin .min, #[x, y], ats⟩, ty, pos, af, g⟩ (.int k0 (min a0 b0)) := .mk fun w a _ k => by
  rw [run_builtin k (vs := [.int k0 a0, .int k0 b0]) (by simp [evs, hx, hy])]
  simp only [builtin, Builtin.min_, Builtin.min2, List.foldlM, Sem.run_bind, Sem.run_pure, Result.andThen_ok, pure_bind, bind_pure]
  have : min a0 b0 = if b0 < a0 then b0 else a0 := by split <;> omega
  rw [this]

/-! #### Addresses of elements, parts of slices -/

theorem y_indexAddr {x ix : Operand} {t e : TypeId} {z z' : Value} {s1 b1 sz by_ b off len cap : Nat} {kd : IntKind} {i0 : Int} (i : Nat) {d' : TypeDesc} [Ty P t (.slice e) z s1 b1] [Ty P e d' z' sz by_]
    (hx : ev env x = some (.slice (some ⟨b, off, none⟩) len cap)) (hi : ev env ix = some (.int kd i0)) (h0 : i0 = (i : Int)) (h1 : i < len) :
    Yld P n ds F L env ⟨dt, .indexAddr t x ix, ty, pos, af, g⟩ (.pointer (some ⟨b, off + i * sz, none⟩)) := .mk fun w a _ k => by
  have e1 := k.ev hx
  have e2 := k.ev hi
  subst h0
  have h2 : (0 : Int) ≤ (i : Int) ∧ (i : Int) < (len : Int) := ⟨by omega, by omega⟩
  simp [execOp, e1, e2, Instr.indexAt, asIntOf, run_und, h2, run_size, add_none, h1]

/-- A slice's bound as a number. -/
def bndE (env : Env) : Option Operand → Nat → Option Int
  | none, dflt => some dflt
  | some x, _ => match ev env x with
    | some (.int _ i) => some i
    | _ => none

theorem run_sliceBound {P : Program} {w : World} {kd : IntKind} {i y : Nat} {c : BoundsCode} (h : i ≤ y) : (Instr.sliceBound (.int kd (i : Int)) y c).run P w = .ok i w := by
  have h2 : (0 : Int) ≤ (i : Int) ∧ (i : Int) ≤ (y : Int) := ⟨by omega, by omega⟩
  simp [Instr.sliceBound, asIntOf, h2, h]

theorem y_slice {x : Operand} {lo hi mx : Option Operand} {t e : TypeId} {z z' : Value} {s1 b1 sz by_ b off len cap : Nat} {d' : TypeDesc} (l h m : Nat) [Ty P t (.slice e) z s1 b1] [Ty P e d' z' sz by_]
    (hx : ev env x = some (.slice (some ⟨b, off, none⟩) len cap)) (hl : bndE env lo 0 = some (l : Int)) (hh : bndE env hi len = some (h : Int)) (hm : bndE env mx cap = some (m : Int))
    (hmh : mx.isSome = true → hi.isSome = true) (hlh : l ≤ h) (hhm : h ≤ m) (hmc : m ≤ cap) :
    Yld P n ds F L env ⟨dt, .slice t x lo hi mx, ty, pos, af, g⟩ (.slice (some ⟨b, if m = l then off else off + l * sz, none⟩) (h - l) (m - l)) := .mk fun w a _ k => by
  have e1 := k.ev hx
  have el : ∀ o, lo = some o → ∃ kd, a.eval o = .int kd (l : Int) := fun o ho => by
    subst ho
    simp only [bndE] at hl
    cases hv : ev env o with
    | none => rw [hv] at hl; cases hl
    | some v => rw [hv] at hl; cases v <;> simp at hl; subst hl; exact ⟨_, k.ev hv⟩
  have eh : ∀ o, hi = some o → ∃ kd, a.eval o = .int kd (h : Int) := fun o ho => by
    subst ho
    simp only [bndE] at hh
    cases hv : ev env o with
    | none => rw [hv] at hh; cases hh
    | some v => rw [hv] at hh; cases v <;> simp at hh; subst hh; exact ⟨_, k.ev hv⟩
  have em : ∀ o, mx = some o → ∃ kd, a.eval o = .int kd (m : Int) := fun o ho => by
    subst ho
    simp only [bndE] at hm
    cases hv : ev env o with
    | none => rw [hv] at hm; cases hm
    | some v => rw [hv] at hm; cases v <;> simp at hm; subst hm; exact ⟨_, k.ev hv⟩
  have key : (Instr.sliceBounds true len cap (lo.map a.eval) (hi.map a.eval) (mx.map a.eval)).run P w = .ok (l, h, m) w := by
    unfold Instr.sliceBounds
    cases mx with
    | none =>
      have : m = cap := by simp [bndE] at hm; omega
      subst this
      cases hi with
      | none =>
        have : h = len := by simp [bndE] at hh; omega
        subst this
        cases lo with
        | none => have : l = 0 := by simp [bndE] at hl; omega
                  subst this; simp
        | some o => obtain ⟨kd, e⟩ := el o rfl; simp [e, run_sliceBound hlh]
      | some oh =>
        obtain ⟨kh, e'⟩ := eh oh rfl
        cases lo with
        | none => have : l = 0 := by simp [bndE] at hl; omega
                  subst this; simp [e', run_sliceBound hhm]
        | some o => obtain ⟨kd, e⟩ := el o rfl; simp [e, e', run_sliceBound hhm, run_sliceBound hlh]
    | some om =>
      obtain ⟨km, e''⟩ := em om rfl
      cases hi with
      | none => exact absurd (hmh rfl) (by simp)
      | some oh =>
        obtain ⟨kh, e'⟩ := eh oh rfl
        cases lo with
        | none => have : l = 0 := by simp [bndE] at hl; omega
                  subst this; simp [e', e'', run_sliceBound hmc, run_sliceBound hhm]
        | some o => obtain ⟨kd, e⟩ := el o rfl; simp [e, e', e'', run_sliceBound hmc, run_sliceBound hhm, run_sliceBound hlh]
  simp only [execOp, Sem.run_bind, Sem.run_pure, Instr.sliceAt, run_und, Result.andThen_ok, e1, Instr.slice, key, run_size]
  by_cases hml : m = l
  · subst hml; simp
  · simp [hml, add_none]

theorem y_slice_at {x : Operand} {lo hi mx : Option Operand} {t e : TypeId} {z z' : Value} {s1 b1 sz by_ b off len cap : Nat} {d' : TypeDesc} (l h m : Nat) [Ty P t (.slice e) z s1 b1] [Ty P e d' z' sz by_]
    (hx : ev env x = some (.slice (some ⟨b, off, none⟩) len cap)) (hl : bndE env lo 0 = some (l : Int)) (hh : bndE env hi len = some (h : Int)) (hm : bndE env mx cap = some (m : Int))
    (hmh : mx.isSome = true → hi.isSome = true) (hlh : l ≤ h) (hhm : h ≤ m) (hmc : m ≤ cap) (hne : l < m) :
    Yld P n ds F L env ⟨dt, .slice t x lo hi mx, ty, pos, af, g⟩ (.slice (some ⟨b, off + l * sz, none⟩) (h - l) (m - l)) := by
  have := y_slice (P := P) (n := n) (ds := ds) (F := F) (L := L) (dt := dt) (ty := ty) (pos := pos) (af := af) (g := g) (t := t) l h m hx hl hh hm hmh hlh hhm hmc
  rwa [if_neg (by omega)] at this

theorem y_slice_nil {x : Operand} {t e : TypeId} {z z' : Value} {s1 b1 sz by_ : Nat} {d' : TypeDesc} {lo hi mx : Option Operand} [Ty P t (.slice e) z s1 b1] [Ty P e d' z' sz by_]
    (hx : ev env x = some (.slice none 0 0)) (hl : bndE env lo 0 = some 0) (hh : bndE env hi 0 = some 0) (hm : mx = none) :
    Yld P n ds F L env ⟨dt, .slice t x lo hi mx, ty, pos, af, g⟩ (.slice none 0 0) := .mk fun w a _ k => by
  have e1 := k.ev hx
  subst hm
  have key : (Instr.sliceBounds true 0 0 (lo.map a.eval) (hi.map a.eval) none).run P w = .ok (0, 0, 0) w := by
    unfold Instr.sliceBounds
    cases hi with
    | none => cases lo with
      | none => simp
      | some o =>
        simp only [bndE] at hl
        cases hv : ev env o with
        | none => rw [hv] at hl; cases hl
        | some v =>
          rw [hv] at hl; cases v <;> simp at hl
          subst hl; simp [k.ev hv, Instr.sliceBound, asIntOf]
    | some oh =>
      simp only [bndE] at hh
      cases hv : ev env oh with
      | none => rw [hv] at hh; cases hh
      | some v =>
        rw [hv] at hh; cases v <;> simp at hh
        subst hh
        cases lo with
        | none => simp [k.ev hv, Instr.sliceBound, asIntOf]
        | some o =>
          simp only [bndE] at hl
          cases hv' : ev env o with
          | none => rw [hv'] at hl; cases hl
          | some v' =>
            rw [hv'] at hl; cases v' <;> simp at hl
            subst hl; simp [k.ev hv, k.ev hv', Instr.sliceBound, asIntOf]
  simp only [execOp, Sem.run_bind, Sem.run_pure, Instr.sliceAt, run_und, Result.andThen_ok, e1, Instr.slice, Option.map_none, key, run_size]
  simp

/-! #### New rows -/

theorem range_map_zero (z : List Value) (k : Nat) : ∀ m, ((Array.range m).map fun i => (⟨z⟩ : Array Value)[i % k]!).toList = (List.range m).map fun i => (⟨z⟩ : Array Value)[i % k]! := by
  intro m; simp

/-- m times the cells of a nought, one cell each. -/
theorem zero_one (v : Value) (m : Nat) : ((Array.range m).map fun i => (⟨[v]⟩ : Array Value)[i % (⟨[v]⟩ : Array Value).size]!) = ⟨List.replicate m v⟩ := by
  apply Array.ext'
  simp only [Array.toList_map, Array.toList_range]
  apply List.ext_getElem
  · simp
  · intro i h1 h2
    simp [Nat.mod_one]

theorem range0 (f : Nat → Value) : Array.map f (Array.range 0) = ⟨[]⟩ := by apply Array.ext'; simp

/-- make([]T, k) of elements of one cell. -/
theorem o_makeSlice1 {t e : TypeId} {l c : Operand} {z z' : Value} {s1 b1 by_ : Nat} {d' : TypeDesc} {k1 k2 : IntKind} (len cap : Nat) [Ty P t (.slice e) z s1 b1] [Ty P e d' z' 1 by_] [hz : CellsV z' [z']]
    (hl : ev env l = some (.int k1 (len : Int))) (hc : ev env c = some (.int k2 (cap : Int))) (h1 : len ≤ cap) (h2 : by_ * cap ≤ 140737488355328) (h3 : cap ≤ 140737488355328) (hd : Nat.blt d n = true)
    (h : ∀ b, OpsJ P n ds F (Blk b (.cells ⟨List.replicate cap z'⟩ e (0, 0)) :: L) ((d, .slice (some ⟨b, 0, none⟩) len cap) :: env) ops rest Q) :
    OpsJ P n ds F L env ops (⟨some d, .makeSlice t l c, ty, pos, af, none⟩ :: rest) Q :=
  o_value (X := Nat) (L' := fun b => Blk b (.cells ⟨List.replicate cap z'⟩ e (0, 0)) :: L) (v := fun b => .slice (some ⟨b, 0, none⟩) len cap) rfl hd (fun w a s k => ⟨w.heap.size, { w with heap := w.heap.push (.cells ⟨List.replicate cap z'⟩ e) }, by
    have e1 := k.ev hl
    have e2 := k.ev hc
    obtain ⟨i, hi, _, _, hb⟩ := run_info (P := P) (t := e) (w := w)
    have w1 : IntKind.i64.wrap (len : Int) = (len : Int) := wrap_i64 (by omega) (by omega)
    have w2 : IntKind.i64.wrap (cap : Int) = (cap : Int) := wrap_i64 (by omega) (by omega)
    have c1 : ¬ ((by_ : Int) * (cap : Int) > 2 ^ 48) := by
      have : (by_ : Int) * (cap : Int) ≤ 140737488355328 := by rw [← Int.natCast_mul]; exact Int.ofNat_le.2 h2
      have e3 : (2 : Int) ^ 48 = 281474976710656 := by decide
      rw [e3]; omega
    have c2 : ¬ ((cap : Int) < 0) := by omega
    have c3 : ¬ ((len : Int) < 0) := by omega
    have c4 : ¬ ((len : Int) > (cap : Int)) := by omega
    have hz' : z'.cells = ⟨[z']⟩ := hz.out.1
    simp only [execOp, e1, e2, Instr.makeSlice, Sem.run_bind, run_und, Result.andThen_ok, asInt, asIntOf, Sem.run_pure, hi, hb, w1, w2, run_askRoom, run_size, run_newObj, newRow]
    simp only [c1, c2, c3, c4, decide_false, Bool.or_false, Bool.false_eq_true, if_false, Sem.run_pure, Result.andThen_ok, Int.toNat_natCast, Nat.mul_one]
    by_cases hc0 : cap = 0
    · subst hc0
      simp only [if_true, Sem.run_bind, Result.andThen_ok, Sem.run_pure, run_size, run_newObj, Nat.zero_mul, run_askRoom, Int.toNat_natCast, Nat.mul_one]
      simp
      rw [range0]
    · simp only [hc0, if_false, Sem.run_bind, run_zero, Result.andThen_ok, Sem.run_pure, hz', zero_one, run_askRoom, run_size, run_newObj, Nat.mul_one, Int.toNat_natCast], s.new _⟩) h

theorem o_makeMap {t : TypeId} (hd : Nat.blt d n = true)
    (h : ∀ b, OpsJ P n ds F (Blk b (.map #[] 0) :: L) ((d, .map (some b)) :: env) ops rest Q) : OpsJ P n ds F L env ops (⟨some d, .makeMap t none, ty, pos, af, none⟩ :: rest) Q :=
  o_value (X := Nat) (L' := fun b => Blk b (.map #[] 0) :: L) (v := fun b => .map (some b)) rfl hd (fun w a s k => ⟨w.heap.size, { w with heap := w.heap.push (.map #[] 0) }, by
    simp [execOp, Instr.makeMap], s.new _⟩) h


/-! #### Structs by value -/

/-- A struct put together out of its fields' values, in cells. -/
class Fill (ps : List (Nat × Nat)) (l : List Value) (pvs : List (Nat × Value)) (m : outParam (List Value)) : Prop where
  out : Instr.fill (fun i => ps[i]?) ⟨l⟩ pvs = some ⟨m⟩
instance {ps : List (Nat × Nat)} {l : List Value} : Fill ps l [] l := ⟨rfl⟩
class GetP (ps : List (Nat × Nat)) (i : Nat) (off sz : outParam Nat) : Prop where
  out : ps[i]? = some (off, sz)
instance {off sz : Nat} {ps : List (Nat × Nat)} : GetP ((off, sz) :: ps) 0 off sz := ⟨rfl⟩
instance {p : Nat × Nat} {off sz : Nat} {ps : List (Nat × Nat)} {i : Nat} [h : GetP ps i off sz] : GetP (p :: ps) (i + 1) off sz := ⟨by simpa using h.out⟩
class LenL (l : List Value) (k : outParam Nat) : Prop where
  out : l.length = k
instance : LenL [] 0 := ⟨rfl⟩
instance {v : Value} {l : List Value} {k : Nat} [h : LenL l k] : LenL (v :: l) (k + 1) := ⟨by simp [h.out]⟩

theorem fold_spl : ∀ (vs l : List Value) (off j : Nat), off + j + vs.length ≤ l.length → ((vs.zipIdx j).foldl (fun (cs : Array Value) (c, j) => cs.setIfInBounds (off + j) c) ⟨l⟩) = ⟨spl l (off + j) vs⟩
  | [], _, _, _, _ => rfl
  | v :: vs, l, off, j, h => by
    simp only [List.zipIdx_cons, List.foldl_cons, spl]
    have e : (⟨l⟩ : Array Value).setIfInBounds (off + j) v = ⟨l.set (off + j) v⟩ := by apply Array.ext'; simp
    rw [e, fold_spl vs (l.set (off + j) v) off (j + 1) (by simp only [List.length_cons] at h; simp; omega)]
    rfl

instance {ps : List (Nat × Nat)} {l l1 m vs : List Value} {i off : Nat} {v : Value} {r : List (Nat × Value)} {sz : Nat} [hp : GetP ps i off sz] [hv : CellsV v vs] [hl : LenL vs sz] [hs : SetN l off vs l1] [hr : Fill ps l1 r m] :
    Fill ps l ((i, v) :: r) m := ⟨by
  have h1 := hs.out
  have h2 := fold_spl vs l off 0 (by simpa using h1.1)
  simp only [Nat.add_zero] at h2
  rw [Instr.fill]
  simp only [hp.out, hv.out.1, List.size_toArray, hl.out, bne_self_eq_false, Bool.false_or, ne_eq, not_true_eq_false, decide_false]
  have h3 : ¬ (off + sz > l.length) := by have := h1.1; rw [hl.out] at this; omega
  rw [if_neg (by simp; omega)]
  have h4 : (⟨vs⟩ : Array Value).zipIdx.foldl (fun (cs : Array Value) (x : Value × Nat) => cs.setIfInBounds (off + x.2) x.1) ⟨l⟩ = ⟨l1⟩ := by
    rw [← h1.2, ← h2, ← Array.foldl_toList]; simp
  rw [h4]
  exact hr.out⟩

def evP (env : Env) : List (Nat × Operand) → Option (List (Nat × Value))
  | [] => some []
  | (i, x) :: r => match ev env x with
    | some v => match evP env r with
      | some vs => some ((i, v) :: vs)
      | none => none
    | none => none

theorem Ok.evP {a : Act} (h : Ok n ds env a) : ∀ {l : List (Nat × Operand)} {vs : List (Nat × Value)}, evP env l = some vs → (l.map fun (i, x) => (i, a.eval x)) = vs
  | [], vs, e => by simpa [Lun.evP] using e
  | (i, x) :: r, vs, e => by
    simp only [Lun.evP] at e
    cases hx : Lun.ev env x with
    | none => rw [hx] at e; cases e
    | some v =>
      rw [hx] at e
      cases hr : Lun.evP env r with
      | none => rw [hr] at e; cases e
      | some us => rw [hr] at e; simp at e; subst e; simp [h.ev hx, h.evP hr]

theorem y_build {t : TypeId} {parts : Array (Nat × Operand)} {pvs : List (Nat × Value)} {fs : Array Field} {z : Value} {sz by_ : Nat} {zs ms : List Value} {ps : List (Nat × Nat)} [Ty P t (.struct fs) z sz by_] [hz : CellsV z zs] [hp : Plcs P t ps]
    (he : evP env parts.toList = some pvs) [hf : Fill ps zs pvs ms] : Yld P n ds F L env ⟨dt, .build t parts, ty, pos, af, g⟩ (.agg ⟨ms⟩) := .mk fun w a _ k => by
  have e1 := k.evP he
  obtain ⟨fields, hu, hrun⟩ := hp.run
  have e2 : (parts.map fun (i, x) => (i, a.eval x)) = ⟨pvs⟩ := by apply Array.ext'; simpa using e1
  have e3 : Instr.fill (fun i => (⟨ps⟩ : Array (Nat × Nat))[i]?) ⟨zs⟩ pvs = some ⟨ms⟩ := by
    have := hf.out
    simpa using this
  have hu2 : (underlying t).run P w = .ok (.struct fields) w := by simp [underlying, hu]
  have hrun' := hrun w
  simp only [execOp, Instr.build, e2, Sem.run_bind, run_zero, Result.andThen_ok, hu2, hz.out.1]
  rw [hrun']
  simp [hf.out]

/-- []T{..}: all elements in order. -/
def inOrd : Nat → List (Nat × Value) → Bool
  | _, [] => true
  | k, (i, _) :: r => Nat.beq i k && inOrd (k + 1) r
/-- The elements' cells, one behind the other. -/
class FlatC (sz : Nat) (pvs : List (Nat × Value)) (l : outParam (List Value)) : Prop where
  out : l.length = pvs.length * sz ∧ (∀ u ∈ l, u.oneCell' = true) ∧ ∀ (k : Nat) (pre post : List Value), inOrd k pvs = true → pre.length = k * sz → post.length = pvs.length * sz →
    Instr.fill (fun i => some (i * sz, sz)) ⟨pre ++ post⟩ pvs = some ⟨pre ++ l⟩
instance {sz : Nat} : FlatC sz [] [] := ⟨by simp, by simp, fun k pre post _ _ h => by simp at h; subst h; rfl⟩
class AppL (a b : List Value) (c : outParam (List Value)) : Prop where
  out : a ++ b = c
instance {b : List Value} : AppL [] b b := ⟨rfl⟩
instance {x : Value} {a b c : List Value} [h : AppL a b c] : AppL (x :: a) b (x :: c) := ⟨by simp [h.out]⟩

theorem spl_mid : ∀ (vs pre mid post : List Value), mid.length = vs.length → spl (pre ++ (mid ++ post)) pre.length vs = pre ++ (vs ++ post)
  | [], pre, mid, post, h => by
    have : mid = [] := by simpa using h
    subst this; rfl
  | v :: vs, pre, [], post, h => by simp at h
  | v :: vs, pre, m :: mid, post, h => by
    have ih := spl_mid vs (pre ++ [v]) mid post (by simpa using h)
    simp only [spl]
    have e : (pre ++ (m :: mid ++ post)).set pre.length v = (pre ++ [v]) ++ (mid ++ post) := by simp
    rw [e]
    simp only [List.length_append, List.length_cons, List.length_nil, Nat.zero_add] at ih
    rw [ih]; simp

instance {sz i : Nat} {v : Value} {vs l m : List Value} {r : List (Nat × Value)} [hv : CellsV v vs] [hl : LenL vs sz] [hr : FlatC sz r l] [ha : AppL vs l m] : FlatC sz ((i, v) :: r) m := by
  obtain ⟨h1, h2, h3⟩ := hr.out
  have hm := ha.out
  refine ⟨by rw [← hm]; simp [h1, hl.out, Nat.add_mul, Nat.add_comm], fun u hu => ?_, fun k pre post hk hpre hpost => ?_⟩
  · rw [← hm, List.mem_append] at hu
    rcases hu with hu | hu
    · exact hv.out.2 u hu
    · exact h2 u hu
  · simp only [inOrd, Bool.and_eq_true] at hk
    have hik : i = k := Nat.eq_of_beq_eq_true hk.1
    subst hik
    have hsz : sz ≤ post.length := by rw [hpost]; simp [Nat.add_mul]
    have hs := spl_mid vs pre (post.take sz) (post.drop sz) (by simp [hl.out]; omega)
    rw [List.take_append_drop] at hs
    have hf := fold_spl vs (pre ++ post) (i * sz) 0 (by simp [hl.out, hpre]; omega)
    simp only [Nat.add_zero] at hf
    rw [Instr.fill]
    simp only [hv.out.1, List.size_toArray, hl.out]
    rw [if_neg (by simp; omega)]
    have h4 : (⟨vs⟩ : Array Value).zipIdx.foldl (fun (cs : Array Value) (x : Value × Nat) => cs.setIfInBounds (i * sz + x.2) x.1) ⟨pre ++ post⟩ = ⟨pre ++ (vs ++ post.drop sz)⟩ := by
      rw [← hs, hpre, ← hf, ← Array.foldl_toList]; simp
    rw [h4]
    have := h3 (i + 1) (pre ++ vs) (post.drop sz) hk.2 (by simp [hpre, hl.out, Nat.add_mul]) (by simp [hpost, Nat.add_mul])
    simp only [List.append_assoc] at this
    rw [this, ← hm]

theorem o_buildSlice {t e : TypeId} {len : Nat} {parts : Array (Nat × Operand)} {pvs : List (Nat × Value)} {z z' : Value} {s1 b1 sz by_ : Nat} {d' : TypeDesc} {zs ms : List Value} [Ty P t (.slice e) z s1 b1] [Ty P e d' z' sz by_] [hz : CellsV z' zs] [hzl : LenL zs sz]
    (he : evP env parts.toList = some pvs) [hf : FlatC sz pvs ms] (ho : inOrd 0 pvs = true) (hl : Nat.beq pvs.length len = true) (hs : Nat.ble (len * sz) 1000 = true) (hd : Nat.blt d n = true)
    (h : ∀ b, OpsJ P n ds F (Blk b (.cells ⟨ms⟩ e (0, 0)) :: L) ((d, .slice (some ⟨b, 0, none⟩) len len) :: env) ops rest Q) :
    OpsJ P n ds F L env ops (⟨some d, .buildSlice t len parts, ty, pos, af, none⟩ :: rest) Q :=
  o_value (X := Nat) (L' := fun b => Blk b (.cells ⟨ms⟩ e (0, 0)) :: L) (v := fun b => .slice (some ⟨b, 0, none⟩) len len) rfl hd (fun w a s k => ⟨w.heap.size, { w with heap := w.heap.push (.cells ⟨ms⟩ e) }, by
    have e1 := k.evP he
    have e2 : (parts.map fun (i, x) => (i, a.eval x)) = ⟨pvs⟩ := by apply Array.ext'; simpa using e1
    have hlen : pvs.length = len := Nat.eq_of_beq_eq_true hl
    have hle : len * sz ≤ 1000 := Nat.le_of_ble_eq_true hs
    have e3 : (2 : Nat) ^ 24 = 16777216 := by decide
    have e4 : ¬ len * sz > 2 ^ 24 := by rw [e3]; omega
    simp only [execOp, Instr.buildSlice, e2, Sem.run_bind, run_und, Result.andThen_ok, run_size, e4, if_false, Sem.run_pure]
    by_cases h0 : len * sz = 0
    · have hp0 : pvs.length * sz = 0 := by rw [hlen]; exact h0
      have := hf.out.2.2 0 [] [] ho (by simp) (by simp [hp0])
      simp only [List.nil_append] at this
      simp only [h0, if_true, Sem.run_pure, Result.andThen_ok, range0]
      rw [this]
      simp [newRow]
    · have hgen : ∀ post : Array Value, post.size = len * sz → Instr.fill (fun i => some (i * sz, sz)) post pvs = some ⟨ms⟩ := fun post hp => by
        have := hf.out.2.2 0 [] post.toList ho (by simp) (by rw [hlen]; simpa using hp)
        simpa using this
      simp only [h0, if_false, Sem.run_bind, run_zero, Result.andThen_ok, Sem.run_pure]
      rw [hgen _ (by simp)]
      simp [newRow], s.new _⟩) h

end
end Go.Lun

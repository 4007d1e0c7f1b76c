/- Memory: loads, stores, new blocks, calls, results. -/
import Derived.Test.YtijahemmbooblaaOp
namespace Go.Lun

theorem cell_of {w : World} {b : Nat} {cs : List Value} {T : TypeId} {fz : Nat × Nat} (h : w.heap[b]? = some (.cells ⟨cs⟩ T fz)) (off : Nat) : w.cell? ⟨b, off, none⟩ = cs[off]? := by
  simp [World.cell?, h]
def frz (fz : Nat × Nat) (off : Nat) : Bool := decide (fz.1 ≤ off) && decide (off < fz.2)
theorem frozen_of {w : World} {b : Nat} {cs : Array Value} {T : TypeId} {fz : Nat × Nat} (h : w.heap[b]? = some (.cells cs T fz)) (off : Nat) : w.frozen? ⟨b, off, none⟩ = frz fz off := by
  obtain ⟨lo, hi⟩ := fz
  simp [World.frozen?, h, frz]
theorem shape_of {w : World} {b : Nat} {cs : Array Value} {T : TypeId} {fz : Nat × Nat} (h : w.heap[b]? = some (.cells cs T fz)) : w.shape? b = some (T, cs.size) := by
  simp [World.shape?, h]
theorem setCell_of {w : World} {b : Nat} {cs : List Value} {T : TypeId} {fz : Nat × Nat} (h : w.heap[b]? = some (.cells ⟨cs⟩ T fz)) (off : Nat) (v : Value) :
    w.setCell ⟨b, off, none⟩ v = put w b (.cells ⟨cs.set off v⟩ T fz) := by
  unfold World.setCell put
  congr 1
  apply Array.ext_getElem?
  intro i
  simp only [Array.getElem?_modify, Array.getElem?_setIfInBounds]
  by_cases e : b = i
  · subst e
    have hlt := lt_of_get h
    have h' : w.heap[b] = .cells ⟨cs⟩ T fz := by simpa [hlt] using h
    simp [hlt, h']
  · simp [e]
theorem put_self {w : World} {b : Nat} {o : Obj} (h : w.heap[b]? = some o) : put w b o = w := by
  unfold put
  have : w.heap.setIfInBounds b o = w.heap := by
    apply Array.ext_getElem?
    intro i
    rw [Array.getElem?_setIfInBounds]
    by_cases e : b = i
    · subst e
      have hlt := lt_of_get h
      rw [h]; simp [hlt]
    · simp [e]
  rw [this]
theorem put_put {w : World} {b : Nat} {o o' : Obj} : put (put w b o) b o' = put w b o' := by
  simp [put]

/-- Several cells of a list. -/
def takeN : List Value → Nat → Option (List Value)
  | _, 0 => some []
  | [], _ + 1 => none
  | v :: l, n + 1 => match takeN l n with
    | some vs => some (v :: vs)
    | none => none
def getN (cs : List Value) (off n : Nat) : Option (List Value) := takeN (cs.drop off) n

theorem takeN_get : ∀ {l : List Value} {n : Nat} {vs : List Value}, takeN l n = some vs → vs.length = n ∧ ∀ i, i < n → l[i]? = vs[i]?
  | _, 0, vs, h => by simp [takeN] at h; subst h; simp
  | [], n + 1, vs, h => by simp [takeN] at h
  | v :: l, n + 1, vs, h => by
    simp only [takeN] at h
    cases hl : takeN l n with
    | none => rw [hl] at h; cases h
    | some us =>
      rw [hl] at h; simp at h; subst h
      obtain ⟨h1, h2⟩ := takeN_get hl
      refine ⟨by simp [h1], fun i hi => ?_⟩
      cases i with
      | zero => simp
      | succ i => simpa using h2 i (by omega)

theorem takeN_take {l : List Value} {n : Nat} (h : n ≤ l.length) : takeN l n = some (l.take n) := by
  induction l generalizing n with
  | nil => simp at h; subst h; simp [takeN]
  | cons v l ih =>
    cases n with
    | zero => simp [takeN]
    | succ n => simp [takeN, ih (n := n) (by simpa using h)]

theorem run_loadFrom {P : Program} {w : World} {b off : Nat} {cs : List Value} {T : TypeId} {fz : Nat × Nat} (h : w.heap[b]? = some (.cells ⟨cs⟩ T fz)) :
    ∀ (n i : Nat) (acc : Array Value) (vs : List Value), getN cs (off + i) n = some vs → (loadCellsFrom ⟨b, off, none⟩ i n acc).run P w = .ok (acc ++ vs.toArray) w
  | 0, i, acc, vs, hv => by simp [getN, takeN] at hv; subst hv; simp [loadCellsFrom]
  | n + 1, i, acc, vs, hv => by
    unfold getN at hv
    cases hd : cs.drop (off + i) with
    | nil => rw [hd] at hv; simp [takeN] at hv
    | cons v l =>
      rw [hd] at hv
      simp only [takeN] at hv
      cases ht : takeN l n with
      | none => rw [ht] at hv; cases hv
      | some us =>
        rw [ht] at hv; simp at hv; subst hv
        have h0 : cs[off + i]? = some v := by
          have := congrArg (fun l => l[0]?) hd
          simpa using this
        have hl : cs.drop (off + (i + 1)) = l := by
          have := congrArg List.tail hd
          simpa [Nat.add_assoc] using this
        have ih := run_loadFrom (P := P) h n (i + 1) (acc.push v) us (by rw [getN, hl]; exact ht)
        simp [loadCellsFrom, add_none, cell_of h, h0, ih]

theorem run_loadCells {P : Program} {w : World} {b off n : Nat} {cs vs : List Value} {T : TypeId} {fz : Nat × Nat} (h : w.heap[b]? = some (.cells ⟨cs⟩ T fz)) (hv : getN cs off n = some vs) :
    (loadCells ⟨b, off, none⟩ n).run P w = .ok ⟨vs⟩ w := by
  have := run_loadFrom (P := P) h n 0 #[] vs (by simpa using hv)
  simpa [loadCells] using this

/-- Cells written one behind the other. -/
def spl : List Value → Nat → List Value → List Value
  | l, _, [] => l
  | l, k, v :: vs => spl (l.set k v) (k + 1) vs
theorem spl_length : ∀ (vs l : List Value) (k : Nat), (spl l k vs).length = l.length
  | [], _, _ => rfl
  | v :: vs, l, k => by simp [spl, spl_length vs]

theorem run_storeCells {P : Program} {b off : Nat} {T : TypeId} {fz : Nat × Nat} :
    ∀ (vs : List Value) (i : Nat) (w : World) (cs : List Value), w.heap[b]? = some (.cells ⟨cs⟩ T fz) → (∀ j, off + i ≤ j → j < off + i + vs.length → frz fz j = false) → off + i + vs.length ≤ cs.length →
      (∀ v ∈ vs, v.oneCell' = true) → (storeCells ⟨b, off, none⟩ vs i).run P w = .ok () (put w b (.cells ⟨spl cs (off + i) vs⟩ T fz))
  | [], i, w, cs, h, _, _, _ => by simp [storeCells, spl, put_self h]
  | v :: vs, i, w, cs, h, hf, hl, h1 => by
    simp only [List.length_cons] at hf hl
    have hc : cs[off + i]? = some cs[off + i] := List.getElem?_eq_getElem (by omega)
    have e := run_storeCells vs (i + 1) (put w b (.cells ⟨cs.set (off + i) v⟩ T fz)) (cs.set (off + i) v) (put_get (lt_of_get h)) (fun j a b => hf j (by omega) (by omega)) (by simp; omega)
      (fun u hu => h1 u (by simp [hu])) (P := P) (off := off)
    simp only [storeCells, Sem.run_bind, add_none]
    rw [run_store _ _ _ _ _ (h1 v (by simp))]
    simp only [cell_of h, hc, frozen_of h, hf (off + i) (by omega) (by omega), Bool.false_eq_true, if_false, setCell_of h, Result.andThen_ok]
    rw [e, put_put]
    rfl

section
variable {P : Program} {n : Nat} {ds : List Deferred} {F : Fr} {L : List Asrt} {env : Env} {Q : Post} {ops : Array Oper} {rest : List Oper}
variable {dt : Option Tmp} {ty : TypeId} {pos : String} {af : Array Edge} {g : Option (Nat × Bool)}

theorem y_load {t : TypeId} {x : Operand} {d : TypeDesc} {z : Value} {by_ b off : Nat} {cs : List Value} {T : TypeId} {fz : Nat × Nat} {v : Value} [Ty P t d z 1 by_] (hs : aggD d = false)
    (hx : ev env x = some (.pointer (some ⟨b, off, none⟩))) [hb : Has F L b (.cells ⟨cs⟩ T fz)] (hv : cs[off]? = some v) : Yld P n ds F L env ⟨dt, .load t x, ty, pos, af, g⟩ (v) := .mk fun w a s k => by
    have e := k.ev hx
    simp [execOp, e, Instr.loadAt, Instr.sureAddr, loadVar, run_isAgg, hs, cell_of (hb.out w s), hv]
theorem y_loadN {t : TypeId} {x : Operand} {d : TypeDesc} {z : Value} {sz by_ b off : Nat} {cs vs : List Value} {T : TypeId} {fz : Nat × Nat} [Ty P t d z sz by_] (hs : aggD d = true)
    (hx : ev env x = some (.pointer (some ⟨b, off, none⟩))) [hb : Has F L b (.cells ⟨cs⟩ T fz)] (hv : getN cs off sz = some vs) : Yld P n ds F L env ⟨dt, .load t x, ty, pos, af, g⟩ (.agg ⟨vs⟩) := .mk fun w a s k => by
    have e := k.ev hx
    simp [execOp, e, Instr.loadAt, Instr.sureAddr, loadVar, run_isAgg, hs, run_size, run_loadCells (hb.out w s) hv]

/-- A list with one place written anew. -/
class SetL (l : List Value) (i : Nat) (v : Value) (m : outParam (List Value)) : Prop where
  out : i < l.length ∧ l.set i v = m
instance {a v : Value} {l : List Value} : SetL (a :: l) 0 v (v :: l) := ⟨by simp, rfl⟩
instance {a v : Value} {l m : List Value} {i : Nat} [h : SetL l i v m] : SetL (a :: l) (i + 1) v (a :: m) := ⟨by simpa using h.out.1, by simp [h.out.2]⟩
class SetN (l : List Value) (i : Nat) (vs : List Value) (m : outParam (List Value)) : Prop where
  out : i + vs.length ≤ l.length ∧ spl l i vs = m
theorem SetN.nil' {l : List Value} {i : Nat} (h : i ≤ l.length) : SetN l i [] l := ⟨by simpa using h, rfl⟩
instance {l m : List Value} {v : Value} {i : Nat} [h : SetL l i v m] : SetN l i [v] m := ⟨by have := h.out.1; simp; omega, by simpa [spl] using h.out.2⟩
instance {l l1 m : List Value} {v u : Value} {vs : List Value} {i : Nat} [h : SetL l i v l1] [k : SetN l1 (i + 1) (u :: vs) m] : SetN l i (v :: u :: vs) m :=
  ⟨by have := k.out.1; rw [← h.out.2] at this; simp at this ⊢; omega, by rw [spl, h.out.2]; exact k.out.2⟩

/-- A value's cells. -/
class CellsV (v : Value) (l : outParam (List Value)) : Prop where
  out : v.cells = ⟨l⟩ ∧ ∀ u ∈ l, u.oneCell' = true
instance {k : IntKind} {i : Int} : CellsV (.int k i) [.int k i] := ⟨rfl, by simp [Value.oneCell']⟩
instance {b : Bool} : CellsV (.bool b) [.bool b] := ⟨rfl, by simp [Value.oneCell']⟩
instance {s : ByteArray} : CellsV (.string s) [.string s] := ⟨rfl, by simp [Value.oneCell']⟩
instance {a : Option Addr} : CellsV (.pointer a) [.pointer a] := ⟨rfl, by simp [Value.oneCell']⟩
instance {a : Option Addr} {i j : Nat} : CellsV (.slice a i j) [.slice a i j] := ⟨rfl, by simp [Value.oneCell']⟩
instance {a : Option Nat} : CellsV (.map a) [.map a] := ⟨rfl, by simp [Value.oneCell']⟩
instance {f : Fn} {a b : Array Value} : CellsV (.func f a b) [.func f a b] := ⟨rfl, by simp [Value.oneCell']⟩
instance : CellsV .nilFunc [.nilFunc] := ⟨rfl, by simp [Value.oneCell']⟩
instance : CellsV .nilIface [.nilIface] := ⟨rfl, by simp [Value.oneCell']⟩
instance {t : TypeId} {v : Value} : CellsV (.iface t v) [.iface t v] := ⟨rfl, by simp [Value.oneCell']⟩
/-- Each is one cell. -/
class Ones (l : List Value) : Prop where
  out : ∀ u ∈ l, u.oneCell' = true
instance : Ones [] := ⟨by simp⟩
instance {v : Value} {l : List Value} [h : CellsV v [v]] [k : Ones l] : Ones (v :: l) := ⟨fun u hu => by
  rcases List.mem_cons.1 hu with rfl | hu
  · exact h.out.2 u (by simp)
  · exact k.out u hu⟩
instance {l : List Value} [h : Ones l] : CellsV (.agg ⟨l⟩) l := ⟨rfl, h.out⟩

theorem o_store {t : TypeId} {x y : Operand} {d : TypeDesc} {z v : Value} {sz by_ b off : Nat} {cs cs' vs : List Value} {T : TypeId} {fz : Nat × Nat} {M : List Asrt} [Ty P t d z sz by_]
    (hx : ev env x = some (.pointer (some ⟨b, off, none⟩))) (hy : ev env y = some v) [hb : Find L b true (.cells ⟨cs⟩ T fz)] [hv : CellsV v vs] (hl : Nat.beq vs.length sz = true)
    [hset : SetN cs off vs cs'] [hu : Upd L b (.cells ⟨cs'⟩ T fz) M] (hf : ∀ j, off ≤ j → j < off + vs.length → frz fz j = false) 
    (h : OpsJ P n ds F M env ops rest Q) : OpsJ P n ds F L env ops (⟨none, .store t x y, ty, pos, af, none⟩ :: rest) Q :=
  o_void (X := Unit) (L' := fun _ => M) rfl rfl (fun w a s k => ⟨(), put w b (.cells ⟨cs'⟩ T fz), by
    have e := k.ev hx
    have e' := k.ev hy
    have hlen : vs.length = sz := Nat.eq_of_beq_eq_true hl
    have hst := run_storeCells (P := P) (off := off) vs 0 w cs (s.find hb) (by simpa using hf) (by simpa using hset.out.1) hv.out.2
    simp only [Nat.add_zero, hset.out.2] at hst
    simp [execOp, e, e', Instr.storeAt, Instr.sureAddr, storeVar, hv.out.1, run_size, hlen, hst], s.upd hu⟩) (fun _ => h)

theorem frz0 {off k : Nat} : ∀ j, off ≤ j → j < off + k → frz (0, 0) j = false := by intro j _ _; simp [frz]

theorem o_alloc {t : TypeId} {d : TypeDesc} {z : Value} {sz by_ : Nat} {vs : List Value} [Ty P t d z sz by_] [hz : CellsV z vs] (hd : fits n dt = true)
    (h : ∀ b, OpsJ P n ds F (Blk b (.cells ⟨vs⟩ t (0, 0)) :: L) (putE env dt (.pointer (some ⟨b, 0, none⟩))) ops rest Q) : OpsJ P n ds F L env ops (⟨dt, .alloc t, ty, pos, af, none⟩ :: rest) Q :=
  o_value (X := Nat) (L' := fun b => Blk b (.cells ⟨vs⟩ t (0, 0)) :: L) (v := fun b => .pointer (some ⟨b, 0, none⟩)) rfl hd (fun w a s k => ⟨w.heap.size, { w with heap := w.heap.push (.cells ⟨vs⟩ t) }, by
    simp [execOp, Instr.alloc, run_zero, newVar, newRow, hz.out.1], s.new _⟩) h
theorem o_box {t : TypeId} {x : Operand} {v : Value} {vs : List Value} (hx : ev env x = some v) [hz : CellsV v vs] (hd : fits n dt = true)
    (h : ∀ b, OpsJ P n ds F (Blk b (.cells ⟨vs⟩ t (0, 0)) :: L) (putE env dt (.pointer (some ⟨b, 0, none⟩))) ops rest Q) : OpsJ P n ds F L env ops (⟨dt, .box t x, ty, pos, af, none⟩ :: rest) Q :=
  o_value (X := Nat) (L' := fun b => Blk b (.cells ⟨vs⟩ t (0, 0)) :: L) (v := fun b => .pointer (some ⟨b, 0, none⟩)) rfl hd (fun w a s k => ⟨w.heap.size, { w with heap := w.heap.push (.cells ⟨vs⟩ t) }, by
    have e := k.ev hx
    simp [execOp, Instr.box, e, newVar, newRow, hz.out.1], s.new _⟩) h

/-! #### Calls -/

class Callee (P : Program) (f : FuncId) : Prop where
  run : ∀ (args : Array Value) (w : World), (callFunc f args).run P w = .ok (.enter f args) w

theorem Callee.of {P : Program} {f : FuncId} {fn : Func} (hf : P.funcs[f]? = some fn) (h1 : (fn.name == "runtime.NumGoroutine") = false) (h2 : fn.body.isNone = false) : Callee P f := ⟨fun args w => by
  have h1' : fn.name ≠ "runtime.NumGoroutine" := by simpa using h1
  have h2' : fn.body ≠ none := by intro e; rw [e] at h2; cases h2
  simp [callFunc, hf, h1', h2']⟩

/-- What a function does: from what it needs, a value and what it leaves. -/
structure Fn (P : Program) (f : FuncId) (args : List Value) (pre : List Asrt) (R : Value → List Asrt → Prop) : Prop where
  out : ∀ F w, St F pre w → Calls P f ⟨args⟩ w fun e w' => ∃ v L', e = .returned v ∧ R v L' ∧ St F L' w'

def FnPost (P : Program) (fn : Func) (F : Fr) (R : Value → List Asrt → Prop) : Post := bodyPost P fn fun e w' => ∃ v L', e = .returned v ∧ R v L' ∧ St F L' w'

def argEnv : Nat → List Value → Env
  | _, [] => []
  | k, v :: vs => (k, v) :: argEnv (k + 1) vs

theorem look_argEnv : ∀ {vs : List Value} {k t : Nat} {v : Value}, look (argEnv k vs) t = some v → k ≤ t ∧ vs[t - k]? = some v
  | [], k, t, v, h => by simp [argEnv, look] at h
  | u :: vs, k, t, v, h => by
    simp only [argEnv, look] at h
    by_cases e : k = t
    · subst e; simp [Nat.beq_refl] at h; subst h; simp
    · rw [beq_ff e] at h
      obtain ⟨h1, h2⟩ := look_argEnv (vs := vs) (k := k + 1) h
      have : t - k = (t - (k + 1)) + 1 := by omega
      exact ⟨by omega, by rw [this]; simpa using h2⟩

theorem fn_start {f : FuncId} {fn : Func} {c : Code} {args : List Value} {pre : List Asrt} {R : Value → List Asrt → Prop} (hf : P.funcs[f]? = some fn) (hb : fn.body = some c) (hn : fn.ntmps = n)
    (hl : Nat.ble args.length n = true) (h : ∀ F, CodeJ P n [] F pre (argEnv 0 args) c (FnPost P fn F R)) : Fn P f args pre R := .mk fun F w s => by
  refine calls_of_wp hf hb ((h F).out w _ s ⟨?_, rfl, ?_⟩)
  · have := Nat.le_of_ble_eq_true hl
    simp [hn]; omega
  · intro t v ht
    obtain ⟨_, h2⟩ := look_argEnv ht
    have hlt : t < args.length := by
      rcases Nat.lt_or_ge t args.length with h | h
      · exact h
      · simp [List.getElem?_eq_none h] at h2
    simp [Array.getElem?_append, hlt]
    simpa [hlt] using h2

def resE (env : Env) : List ResultVar → Option (List Value)
  | [] => some []
  | .tmp t :: r => match look env t with
    | some v => match resE env r with
      | some vs => some (v :: vs)
      | none => none
    | none => none
  | .cell _ _ :: _ => none
def tup : List Value → Value
  | [v] => v
  | vs => .tuple ⟨vs⟩

def resM (tmps : Array Value) : ResultVar → Sem Value
  | .tmp t => pure (tmps.getD t undef)
  | .cell a t => do loadVar t (← asAddr (tmps.getD a undef))

theorem run_resE {w : World} {a : Act} (k : Ok n ds env a) : ∀ {l : List ResultVar} {vs : List Value}, resE env l = some vs →
    (l.mapM (resM a.tmps)).run P w = .ok vs w
  | [], vs, h => by simp [resE] at h; subst h; simp
  | .tmp t :: r, vs, h => by
    simp only [resE] at h
    cases ht : look env t with
    | none => rw [ht] at h; cases h
    | some v =>
      rw [ht] at h
      cases hr : resE env r with
      | none => rw [hr] at h; cases h
      | some us =>
        rw [hr] at h; simp at h; subst h
        have ih := run_resE (w := w) k hr
        rw [List.mapM_cons]
        simp only [Sem.run_bind, Sem.run_pure, Result.andThen_ok, ih]
        simp [resM, k.val t v ht, ih]
  | .cell _ _ :: _, vs, h => by simp [resE] at h

theorem results_of {w : World} {a : Act} {fn : Func} {vs : List Value} (k : Ok n ds env a) (h : resE env fn.results.toList = some vs) : (results fn a.tmps).run P w = .ok (tup vs) w := by
  have := run_resE (P := P) (w := w) k h
  have e : results fn a.tmps = (do let vs ← fn.results.mapM (resM a.tmps); pure (if h : vs.size = 1 then vs[0] else .tuple vs)) := rfl
  rw [e, ← Array.toArray_toList (xs := fn.results), List.mapM_toArray]
  simp only [Sem.run_bind, Sem.run_map, this, Result.andThen_ok]
  cases vs with
  | nil => simp [tup]
  | cons v r => cases r <;> simp [tup]

theorem f_ret {fn : Func} {R : Value → List Asrt → Prop} {vs : List Value} (hr : resE env fn.results.toList = some vs) (hR : R (tup vs) L) : FinJ P n [] F L env .ret (FnPost P fn F R) := .mk fun w a s k =>
  bodyPost_ret (results_of k hr) k.defers ⟨_, _, rfl, hR, s⟩
theorem f_end {fn : Func} {R : Value → List Asrt → Prop} {vs : List Value} (hr : resE env fn.results.toList = some vs) (hR : R (tup vs) L) : FinJ P n [] F L env .normal (FnPost P fn F R) := .mk fun w a s k =>
  bodyPost_end (results_of k hr) k.defers ⟨_, _, rfl, hR, s⟩

theorem fn_open {f : FuncId} {args : List Value} {A : Asrt} {pre M : List Asrt} {R : Value → List Asrt → Prop} {X : Type} {φ : X → Prop} {N : X → List Asrt} [h : Opens A X φ N] (ht : Rem pre A M)
    (k : ∀ x, φ x → Fn P f args (N x ++ M) R) : Fn P f args pre R := .mk fun F w s => by
  obtain ⟨h1, h2, h3, r, hc, hf, hr, hs⟩ := s
  obtain ⟨u, v, huv, rfl, hA, hR⟩ := sep_perm ht.perm hs
  obtain ⟨x, hx, hM⟩ := h.out u hA
  exact (k x hx).out F w ⟨h1, h2, h3, _, hc, hf, hr, sep_append huv hM hR⟩

theorem fn_ent {f : FuncId} {args : List Value} {pre pre' : List Asrt} {R : Value → List Asrt → Prop} (h : Ent pre pre') (k : Fn P f args pre' R) : Fn P f args pre R := .mk fun F w s => k.out F w (s.ent h)

/-- A contract in a greater state, told otherwise. -/
theorem Fn.frame {f : FuncId} {args : List Value} {pre pre' M : List Asrt} {R R' : Value → List Asrt → Prop} (h : Fn P f args pre R) (ht : Takes pre' pre M)
    (k : ∀ v L, R v L → ∃ v' L', R' v' L' ∧ v = v' ∧ Ent (L ++ M) L') : Fn P f args pre' R' := .mk fun F w s => by
  obtain ⟨F', s', hb⟩ := s.frame ht
  refine (h.out F' w s').mono fun e w' => ?_
  rintro ⟨v, L, rfl, hR, s''⟩
  obtain ⟨v', L', hR', rfl, hE⟩ := k v L hR
  exact ⟨v, L', rfl, hR', (hb _ _ s'').ent hE⟩

theorem o_call {f : FuncId} {args : Array Operand} {ats : Array TypeId} {vs : List Value} {pre M : List Asrt} {R : Value → List Asrt → Prop} [hc : Callee P f] (hargs : evs env args.toList = some vs)
    (hf : Fn P f vs pre R) (ht : Takes L pre M) (hd : fits n dt = true) (h : ∀ v L', R v L' → OpsJ P n ds F (L' ++ M) (putE env dt v) ops rest Q) :
    OpsJ P n ds F L env ops (⟨dt, .call ⟨.value (.func f), args, ats⟩, ty, pos, af, none⟩ :: rest) Q := .mk fun w a s k => by
  refine wpList_plain rfl fun K hK => ?_
  obtain ⟨F', s', hback⟩ := s.frame ht
  have he : (execOp a.eval ⟨dt, .call ⟨.value (.func f), args, ats⟩, ty, pos, af, none⟩).run P w = .ok (.enter f ⟨vs⟩) w := by
    simp [execOp, resolve, k.evsA hargs, Act.eval, Deferred.ofValue, invoke, hc.run]
  unfold Oper.wp
  rw [he, Oper.upon_enter]
  refine (hf.out F' w s').mono fun e w' => ?_
  rintro ⟨v, L', rfl, hR, s''⟩
  exact hK _ _ ((h v L' hR).out w' _ (hback _ _ s'') (k.put hd v))

theorem o_call_val {c : Operand} {f : FuncId} {fs cs : List Value} {args : Array Operand} {ats : Array TypeId} {vs : List Value} {pre M : List Asrt} {R : Value → List Asrt → Prop} [hc : Callee P f]
    (hx : ev env c = some (.func (.func f) ⟨fs⟩ ⟨cs⟩)) (hargs : evs env args.toList = some vs)
    (hf : Fn P f (fs ++ vs ++ cs) pre R) (ht : Takes L pre M) (hd : fits n dt = true) (h : ∀ v L', R v L' → OpsJ P n ds F (L' ++ M) (putE env dt v) ops rest Q) :
    OpsJ P n ds F L env ops (⟨dt, .call ⟨.value c, args, ats⟩, ty, pos, af, none⟩ :: rest) Q := .mk fun w a s k => by
  refine wpList_plain rfl fun K hK => ?_
  obtain ⟨F', s', hback⟩ := s.frame ht
  have he : (execOp a.eval ⟨dt, .call ⟨.value c, args, ats⟩, ty, pos, af, none⟩).run P w = .ok (.enter f ⟨fs ++ vs ++ cs⟩) w := by
    have e := k.ev hx
    simp [execOp, resolve, k.evsA hargs, e, Deferred.ofValue, invoke, hc.run]
  unfold Oper.wp
  rw [he, Oper.upon_enter]
  refine (hf.out F' w s').mono fun e w' => ?_
  rintro ⟨v, L', rfl, hR, s''⟩
  exact hK _ _ ((h v L' hR).out w' _ (hback _ _ s'') (k.put hd v))

end
end Go.Lun

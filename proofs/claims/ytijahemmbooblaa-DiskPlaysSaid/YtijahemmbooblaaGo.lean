/- Judgements over a symbolic state: what is owned (a list of assertions), and what the temporaries hold (a list of pairs). -/
import Derived.Test.YtijahemmbooblaaSl
namespace Go.Lun

abbrev Env := List (Nat × Value)
def look : Env → Nat → Option Value
  | [], _ => none
  | (k, v) :: e, t => bif Nat.beq k t then some v else look e t

theorem beq_ff {a b : Nat} (h : a ≠ b) : Nat.beq a b = false := by
  cases hb : Nat.beq a b with
  | true => exact absurd (Nat.eq_of_beq_eq_true hb) h
  | false => rfl
theorem of_beq_ff {a b : Nat} (h : Nat.beq a b = false) : a ≠ b := Nat.ne_of_beq_eq_false h

structure Ok (n : Nat) (ds : List Deferred) (env : Env) (a : Act) : Prop where
  size : a.tmps.size = n
  defers : a.defers = ds
  val : ∀ t v, look env t = some v → a.tmps[t]? = some v

def ev (env : Env) : Operand → Option Value
  | .tmp t => look env t
  | .const v => some v
  | .global g => some (.pointer (some ⟨g, 0, none⟩))
  | .func f => some (.func (.func f) #[] #[])

theorem Ok.ev {n : Nat} {ds : List Deferred} {env : Env} {a : Act} (h : Ok n ds env a) {x : Operand} {v : Value} (hx : ev env x = some v) : a.eval x = v := by
  cases x with
  | tmp t => simp [Act.eval, h.val t v hx]
  | const u => simpa [Lun.ev, Act.eval] using hx
  | global g => simpa [Lun.ev, Act.eval] using hx
  | func f => simpa [Lun.ev, Act.eval] using hx

/-- Several operands' values. -/
def evs (env : Env) : List Operand → Option (List Value)
  | [] => some []
  | x :: r => match ev env x with
    | some v => match evs env r with
      | some vs => some (v :: vs)
      | none => none
    | none => none

theorem Ok.evs {n : Nat} {ds : List Deferred} {env : Env} {a : Act} (h : Ok n ds env a) : ∀ {l : List Operand} {vs : List Value}, evs env l = some vs → l.map a.eval = vs
  | [], vs, e => by simpa [Lun.evs] using e
  | x :: r, vs, e => by
    simp only [Lun.evs] at e
    cases hx : Lun.ev env x with
    | none => rw [hx] at e; cases e
    | some v =>
      rw [hx] at e
      cases hr : Lun.evs env r with
      | none => rw [hr] at e; cases e
      | some us => rw [hr] at e; simp at e; subst e; simp [h.ev hx, h.evs hr]
theorem Ok.evsA {n : Nat} {ds : List Deferred} {env : Env} {a : Act} (h : Ok n ds env a) {l : Array Operand} {vs : List Value} (e : Lun.evs env l.toList = some vs) : l.map a.eval = ⟨vs⟩ := by
  apply Array.ext'
  simp [h.evs e]

def putE (env : Env) : Option Tmp → Value → Env
  | some d, v => (d, v) :: env
  | none, _ => env
def fits (n : Nat) : Option Tmp → Bool
  | some d => Nat.blt d n
  | none => true

theorem Ok.put {n : Nat} {ds : List Deferred} {env : Env} {a : Act} (h : Ok n ds env a) {d : Option Tmp} (hd : fits n d = true) (v : Value) : Ok n ds (putE env d v) (a.put d v) := by
  cases d with
  | none => exact h
  | some d =>
    have hlt : d < n := by simpa [fits, Nat.blt_eq] using hd
    refine ⟨by simp [Act.put, h.size], h.defers, fun t u ht => ?_⟩
    simp only [putE, look] at ht
    by_cases e : d = t
    · subst e; simp [Nat.beq_refl] at ht; subst ht; simp [Act.put, h.size, hlt]
    · have hb := beq_ff e
      rw [hb] at ht
      simp [Act.put, Array.getElem?_setIfInBounds_ne e]; exact h.val t u ht

theorem Ok.weaken {n : Nat} {ds : List Deferred} {env env' : Env} {a : Act} (h : Ok n ds env a) (hw : ∀ t v, look env' t = some v → look env t = some v) : Ok n ds env' a :=
  ⟨h.size, h.defers, fun t v ht => h.val t v (hw t v ht)⟩

abbrev Post := Exit → Act → World → Prop

structure OpsJ (P : Program) (n : Nat) (ds : List Deferred) (F : Fr) (L : List Asrt) (env : Env) (ops : Array Oper) (l : List Oper) (Q : Post) : Prop where
  out : ∀ w a, St F L w → Ok n ds env a → wpList P ops Q l a w
structure CodeJ (P : Program) (n : Nat) (ds : List Deferred) (F : Fr) (L : List Asrt) (env : Env) (c : Code) (Q : Post) : Prop where
  out : ∀ w a, St F L w → Ok n ds env a → c.wp P Q a w
structure FinJ (P : Program) (n : Nat) (ds : List Deferred) (F : Fr) (L : List Asrt) (env : Env) (e : Exit) (Q : Post) : Prop where
  out : ∀ w a, St F L w → Ok n ds env a → Q e a w

section
variable {P : Program} {n : Nat} {ds : List Deferred} {F : Fr} {L : List Asrt} {env : Env} {Q : Post}

/-! ### Code -/

theorem c_seq {x y : Code} (h : CodeJ P n ds F L env x (Exit.then (y.wp P Q) Q)) : CodeJ P n ds F L env (.seq x y) Q :=
  .mk fun w a s o => wp_seq (h.out w a s o)
theorem c_skip (h : FinJ P n ds F L env .normal Q) : CodeJ P n ds F L env .skip Q := .mk fun w a s o => wp_skip (h.out w a s o)
theorem c_ret (h : FinJ P n ds F L env .ret Q) : CodeJ P n ds F L env .ret Q := .mk fun w a s o => wp_ret (h.out w a s o)
theorem c_exit {id : Nat} (h : FinJ P n ds F L env (.exit id) Q) : CodeJ P n ds F L env (.exit id) Q := .mk fun w a s o => wp_exit (h.out w a s o)
theorem c_block {id : Nat} {c : Code} (h : CodeJ P n ds F L env c (Exit.inBlock id Q)) : CodeJ P n ds F L env (.block id c) Q :=
  .mk fun w a s o => wp_block (h.out w a s o)
theorem c_cond {c : Operand} {x y : Code} {b : Bool} (hc : ev env c = some (.bool b)) (ht : b = true → CodeJ P n ds F L env x Q)
    (hf : b = false → CodeJ P n ds F L env y Q) : CodeJ P n ds F L env (.cond c x y) Q := .mk fun w a s o =>
  wp_cond_split (o.ev hc) (fun e => (ht e).out w a s o) (fun e => (hf e).out w a s o)
theorem c_true {c : Operand} {x y : Code} (hc : ev env c = some (.bool true)) (h : CodeJ P n ds F L env x Q) : CodeJ P n ds F L env (.cond c x y) Q :=
  c_cond hc (fun _ => h) (fun e => by cases e)
theorem c_false {c : Operand} {x y : Code} (hc : ev env c = some (.bool false)) (h : CodeJ P n ds F L env y Q) : CodeJ P n ds F L env (.cond c x y) Q :=
  c_cond hc (fun e => by cases e) (fun _ => h)
theorem c_region {id : Nat} {l : List Oper} (h : OpsJ P n ds F L env l.toArray l Q) : CodeJ P n ds F L env (.region id l.toArray false) Q :=
  .mk fun w a s o => wp_region_lit (h.out w a s o)

/-- From the head of a loop's next round. -/
def LoopWp (P : Program) (c : Code) (Q : Post) (a : Act) (w : World) : Prop :=
  ∀ (b : Frame) (k : List Item) (cs : List Frame), ∃ e a' w', Q e a' w' ∧ Arrives P (lone (b.at a (.inLoop c :: k)) cs w) b k cs e a' w'
/-- What a round leaves: the next round, or the loop's end. -/
def Round (P : Program) (c : Code) (Q : Post) : Post := Exit.then (LoopWp P c Q) Q

theorem round_both {c : Code} {a : Act} {w : World} (h : c.wp P (Round P c Q) a w) :
    ∀ (b : Frame) (k : List Item) (cs : List Frame), ∃ e a' w', Q e a' w' ∧ Arrives P (lone (b.at a (.code c :: .inLoop c :: k)) cs w) b k cs e a' w' := by
  intro b k cs
  obtain ⟨e, a₁, w₁, hq, harr⟩ := h b (.inLoop c :: k) cs
  cases e with
  | normal =>
    obtain ⟨e₂, a₂, w₂, hq₂, harr₂⟩ := hq b k cs
    exact ⟨e₂, a₂, w₂, hq₂, .of_steps harr harr₂⟩
  | exit id => exact ⟨_, a₁, w₁, hq, .pass (x := .inLoop c) rfl (fun _ _ => .inl (by simp)) harr⟩
  | goto l => exact ⟨_, a₁, w₁, hq, .pass (x := .inLoop c) rfl (fun _ _ => .inl (by simp)) harr⟩
  | ret => exact ⟨_, a₁, w₁, hq, .pass (x := .inLoop c) rfl (fun _ _ => .inl (by simp)) harr⟩
  | panic ch => exact ⟨_, a₁, w₁, hq, .pass (x := .inLoop c) rfl (fun _ _ => .inl (by simp)) harr⟩
  | outgrown => exact ⟨_, a₁, w₁, hq, .pass (x := .inLoop c) rfl (fun _ _ => .inl (by simp)) harr⟩

theorem c_loop {c : Code} (h : CodeJ P n ds F L env c (Round P c Q)) : CodeJ P n ds F L env (.loop c) Q := .mk fun w a s o b k cs => by
  obtain ⟨e, a', w', hq, harr⟩ := round_both (h.out w a s o) b k cs
  exact ⟨e, a', w', hq, .of_steps (.one step_loop) harr⟩
theorem f_round {c : Code} (h : CodeJ P n ds F L env c (Round P c Q)) : FinJ P n ds F L env .normal (Round P c Q) := .mk fun w a s o b k cs => by
  obtain ⟨e, a', w', hq, harr⟩ := round_both (h.out w a s o) b k cs
  exact ⟨e, a', w', hq, .of_steps (.one step_inLoop) harr⟩
theorem f_round_ret {c : Code} (h : FinJ P n ds F L env .ret Q) : FinJ P n ds F L env .ret (Round P c Q) := ⟨h.1⟩
theorem f_round_exit {c : Code} {id : Nat} (h : FinJ P n ds F L env (.exit id) Q) : FinJ P n ds F L env (.exit id) (Round P c Q) := ⟨h.1⟩

theorem f_seq {y : Code} (h : CodeJ P n ds F L env y Q) : FinJ P n ds F L env .normal (Exit.then (y.wp P Q) Q) := .mk fun w a s o => h.out w a s o
theorem f_seq_ret {K : Act → World → Prop} (h : FinJ P n ds F L env .ret Q) : FinJ P n ds F L env .ret (Exit.then K Q) := .mk fun w a s o => h.out w a s o
theorem f_seq_exit {K : Act → World → Prop} {id : Nat} (h : FinJ P n ds F L env (.exit id) Q) : FinJ P n ds F L env (.exit id) (Exit.then K Q) := .mk fun w a s o => h.out w a s o
theorem f_block {id : Nat} (h : FinJ P n ds F L env .normal Q) : FinJ P n ds F L env .normal (Exit.inBlock id Q) := .mk fun w a s o => h.out w a s o
theorem f_block_ret {id : Nat} (h : FinJ P n ds F L env .ret Q) : FinJ P n ds F L env .ret (Exit.inBlock id Q) := .mk fun w a s o => h.out w a s o
theorem f_block_here {id : Nat} (h : FinJ P n ds F L env .normal Q) : FinJ P n ds F L env (.exit id) (Exit.inBlock id Q) := .mk fun w a s o => by
  simp only [Exit.inBlock, if_true]; exact h.out w a s o
theorem f_block_out {id j : Nat} (hj : Nat.beq j id = false) (h : FinJ P n ds F L env (.exit j) Q) : FinJ P n ds F L env (.exit j) (Exit.inBlock id Q) := .mk fun w a s o => by
  have := of_beq_ff hj
  simp only [Exit.inBlock, if_neg this]; exact h.out w a s o

/-! ### A state may be told otherwise -/

theorem c_ent {c : Code} {M : List Asrt} (h : Ent L M) (k : CodeJ P n ds F M env c Q) : CodeJ P n ds F L env c Q := .mk fun w a s o => k.out w a (s.ent h) o
theorem o_ent {ops : Array Oper} {l : List Oper} {M : List Asrt} (h : Ent L M) (k : OpsJ P n ds F M env ops l Q) : OpsJ P n ds F L env ops l Q := .mk fun w a s o => k.out w a (s.ent h) o
theorem f_ent {e : Exit} {M : List Asrt} (h : Ent L M) (k : FinJ P n ds F M env e Q) : FinJ P n ds F L env e Q := .mk fun w a s o => k.out w a (s.ent h) o
theorem c_env {c : Code} {env' : Env} (h : ∀ t v, look env' t = some v → look env t = some v) (k : CodeJ P n ds F L env' c Q) : CodeJ P n ds F L env c Q :=
  .mk fun w a s o => k.out w a s (o.weaken h)

/-- A list of pairs of which only some are kept. -/
def keepE (env : Env) : List Nat → Env
  | [] => []
  | t :: r => match look env t with
    | some v => (t, v) :: keepE env r
    | none => keepE env r

theorem look_keepE {env : Env} {t : Nat} {v : Value} : ∀ {r : List Nat}, look (keepE env r) t = some v → look env t = some v
  | [], h => by cases h
  | k :: r, h => by
    simp only [keepE] at h
    cases hk : look env k with
    | none => rw [hk] at h; exact look_keepE h
    | some u =>
      rw [hk] at h
      simp only [look] at h
      by_cases e : k = t
      · subst e; simp [Nat.beq_refl] at h; subst h; exact hk
      · have hb := beq_ff e
        rw [hb] at h; exact look_keepE h

theorem c_keep {c : Code} {env' : Env} (r : List Nat) (he : keepE env r = env') (k : CodeJ P n ds F L env' c Q) : CodeJ P n ds F L env c Q :=
  c_env (fun _ _ h => look_keepE (r := r) (by rw [he]; exact h)) k

/-- A list of pairs told by another one. -/
def SubE : Env → Env → Prop
  | [], _ => True
  | (t, v) :: r, env => look env t = some v ∧ SubE r env
theorem SubE.out : ∀ {e' e : Env}, SubE e' e → ∀ t v, look e' t = some v → look e t = some v
  | [], _, _, t, v, h => by cases h
  | (k, u) :: r, e, hs, t, v, h => by
    simp only [look] at h
    by_cases ek : k = t
    · subst ek; simp [Nat.beq_refl] at h; subst h; exact hs.1
    · rw [beq_ff ek] at h; exact SubE.out hs.2 t v h

theorem c_sub {c : Code} {env' : Env} {M : List Asrt} (hL : Ent L M) (hE : SubE env' env) (k : CodeJ P n ds F M env' c Q) : CodeJ P n ds F L env c Q := c_ent hL (c_env hE.out k)

/-- A cut: what is told of the state between two pieces of code. -/
def Cut {X : Type} (n : Nat) (ds : List Deferred) (F : Fr) (M : X → List Asrt) (e : X → Env) (Q : Post) : Post
  | .normal, a, w => ∃ t, St F (M t) w ∧ Ok n ds (e t) a
  | ex, a, w => Q ex a w
theorem c_cut {X : Type} (M : X → List Asrt) (e : X → Env) {x y : Code} {Q' : Post} (h1 : CodeJ P n ds F L env x (Cut n ds F M e Q')) (h2 : ∀ t, CodeJ P n ds F (M t) (e t) y Q) : CodeJ P n ds F L env x (Exit.then (y.wp P Q) Q') := .mk fun w a s o =>
  wp_mono (h1.out w a s o) fun ex a w h => by
    cases ex with
    | normal => obtain ⟨t, hs, ho⟩ := h; exact (h2 t).out w a hs ho
    | exit _ => exact h
    | goto _ => exact h
    | ret => exact h
    | panic _ => exact h
    | outgrown => exact h
theorem f_cut {X : Type} {M : X → List Asrt} {e : X → Env} (t : X) (hL : Ent L (M t)) (hE : SubE (e t) env) : FinJ P n ds F L env .normal (Cut n ds F M e Q) := .mk fun w a s o => ⟨t, s.ent hL, o.weaken hE.out⟩

/-- A loop, by what holds at each round's head. -/
theorem c_loop_inv {c : Code} {X : Type} (I : X → Prop) (μ : X → Nat) (Lx : X → List Asrt) (ex : X → Env) (x0 : X) (h0 : I x0) (hL : Ent L (Lx x0)) (hE : SubE (ex x0) env)
    (h : ∀ x, I x → (∀ x', I x' → μ x' < μ x → CodeJ P n ds F (Lx x') (ex x') c (Round P c Q)) → CodeJ P n ds F (Lx x) (ex x) c (Round P c Q)) : CodeJ P n ds F L env (.loop c) Q := by
  have key : ∀ k x, μ x = k → I x → CodeJ P n ds F (Lx x) (ex x) c (Round P c Q) := by
    intro k
    induction k using Nat.strongRecOn with
    | _ k ih => intro x hx hI; exact h x hI fun x' hI' hlt => ih (μ x') (hx ▸ hlt) x' rfl hI'
  exact c_loop (c_sub hL hE (key _ x0 rfl h0))
theorem f_next {c : Code} {env' : Env} {M : List Asrt} (hL : Ent L M) (hE : SubE env' env) (k : CodeJ P n ds F M env' c (Round P c Q)) : FinJ P n ds F L env .normal (Round P c Q) := f_round (c_sub hL hE k)

/-- An assertion that is opened: its parts, and what holds of them. -/
class Opens (A : Asrt) (X : outParam Type) (φ : outParam (X → Prop)) (M : outParam (X → List Asrt)) : Prop where
  out : ∀ r, A r → ∃ x, φ x ∧ sep (M x) r

theorem c_open {c : Code} {A : Asrt} {R : List Asrt} {X : Type} {φ : X → Prop} {M : X → List Asrt} [h : Opens A X φ M] (ht : Rem L A R)
    (k : ∀ x, φ x → CodeJ P n ds F (M x ++ R) env c Q) : CodeJ P n ds F L env c Q := .mk fun w a s o => by
  obtain ⟨h1, h2, h3, r, hc, hf, hr, hs⟩ := s
  obtain ⟨u, v, huv, rfl, hA, hR⟩ := sep_perm ht.perm hs
  obtain ⟨x, hx, hM⟩ := h.out u hA
  exact (k x hx).out w a ⟨h1, h2, h3, _, hc, hf, hr, sep_append huv hM hR⟩ o

/-! ### Operations -/

variable {ops : Array Oper} {rest : List Oper}

theorem o_nil (h : FinJ P n ds F L env .normal Q) : OpsJ P n ds F L env ops [] Q := .mk fun w a s o => wpList_nil (h.out w a s o)

/-- An operation that leaves a value. -/
theorem o_value {X : Type} {L' : X → List Asrt} {v : X → Value} {o : Oper} (hg : o.guard = none) (hd : fits n o.dst = true)
    (hrun : ∀ w a, St F L w → Ok n ds env a → ∃ x w', (execOp a.eval o).run P w = .ok (.value (v x)) w' ∧ St F (L' x) w')
    (h : ∀ x, OpsJ P n ds F (L' x) (putE env o.dst (v x)) ops rest Q) : OpsJ P n ds F L env ops (o :: rest) Q := .mk fun w a s k => by
  refine wpList_plain hg fun K hK => ?_
  obtain ⟨x, w', hr, s'⟩ := hrun w a s k
  unfold Oper.wp
  rw [hr]
  exact hK _ _ ((h x).out w' _ s' (k.put hd _))

/-- An operation that leaves no value. -/
theorem o_void {X : Type} {L' : X → List Asrt} {o : Oper} (hg : o.guard = none) (hd : o.dst = none)
    (hrun : ∀ w a, St F L w → Ok n ds env a → ∃ x w', (execOp a.eval o).run P w = .ok .skip w' ∧ St F (L' x) w')
    (h : ∀ x, OpsJ P n ds F (L' x) env ops rest Q) : OpsJ P n ds F L env ops (o :: rest) Q := .mk fun w a s k => by
  refine wpList_plain hg fun K hK => ?_
  obtain ⟨x, w', hr, s'⟩ := hrun w a s k
  unfold Oper.wp
  rw [hr]
  refine hK _ _ ((h x).out w' _ s' ?_)
  rw [hd]; exact k

/-- What an operation yields, in every world of the state; it leaves the world as it is. -/
structure Yld (P : Program) (n : Nat) (ds : List Deferred) (F : Fr) (L : List Asrt) (env : Env) (o : Oper) (v : Value) : Prop where
  out : ∀ w a, St F L w → Ok n ds env a → (execOp a.eval o).run P w = .ok (.value v) w

theorem o_y {d : Tmp} {op : Op} {ty : TypeId} {pos : String} {af : Array Edge} {v : Value} (hy : Yld P n ds F L env ⟨some d, op, ty, pos, af, none⟩ v) (hd : Nat.blt d n = true)
    (h : OpsJ P n ds F L ((d, v) :: env) ops rest Q) : OpsJ P n ds F L env ops (⟨some d, op, ty, pos, af, none⟩ :: rest) Q :=
  o_value (X := Unit) (L' := fun _ => L) (v := fun _ => v) rfl hd (fun w a s k => ⟨(), w, hy.out w a s k, s⟩) (fun _ => h)
theorem o_y0 {op : Op} {ty : TypeId} {pos : String} {af : Array Edge} {v : Value} (hy : Yld P n ds F L env ⟨none, op, ty, pos, af, none⟩ v)
    (h : OpsJ P n ds F L env ops rest Q) : OpsJ P n ds F L env ops (⟨none, op, ty, pos, af, none⟩ :: rest) Q :=
  o_value (X := Unit) (L' := fun _ => L) (v := fun _ => v) rfl rfl (fun w a s k => ⟨(), w, hy.out w a s k, s⟩) (fun _ => h)

/-! #### Guards -/

def yieldE (env : Env) (ops : Array Oper) (j : Nat) : Option Bool :=
  match ((ops[j]?).bind (·.dst)).bind (look env) with
  | some (.bool b) => some b
  | _ => none

theorem yieldE_eq {a : Act} (k : Ok n ds env a) {j : Nat} {b : Bool} (h : yieldE env ops j = some b) : yielded ops a.tmps j = some b := by
  unfold yieldE at h; unfold yielded
  cases hj : (ops[j]?).bind (·.dst) with
  | none => rw [hj] at h; simp at h
  | some t =>
    rw [hj] at h
    simp only [Option.bind_some] at h ⊢
    cases ht : look env t with
    | none => rw [ht] at h; simp at h
    | some v => rw [ht] at h; rw [k.val t v ht]; exact h

theorem o_want {d : Option Tmp} {op : Op} {ty : TypeId} {pos : String} {af : Array Edge} {j : Nat} {b : Bool} (hy : yieldE env ops j = some b)
    (h : OpsJ P n ds F L env ops (⟨d, op, ty, pos, af, none⟩ :: rest) Q) : OpsJ P n ds F L env ops (⟨d, op, ty, pos, af, some (j, b)⟩ :: rest) Q := .mk fun w a s k => by
  have h' := h.out w a s k
  unfold wpList at h' ⊢
  simp only [Region.wanted, if_true] at h'
  rw [if_pos (by simp [Region.wanted, yieldE_eq k hy])]
  have e : (execOp a.eval ⟨d, op, ty, pos, af, some (j, b)⟩) = (execOp a.eval ⟨d, op, ty, pos, af, none⟩) := rfl
  unfold Oper.wp Oper.asks at *
  rw [e]
  exact h'

theorem o_skip {d : Tmp} {op : Op} {ty : TypeId} {pos : String} {af : Array Edge} {j : Nat} {b : Bool} (hy : yieldE env ops j = some (!b)) (hd : fits n (some d) = true)
    (h : OpsJ P n ds F L ((d, undef) :: env) ops rest Q) : OpsJ P n ds F L env ops (⟨some d, op, ty, pos, af, some (j, b)⟩ :: rest) Q := .mk fun w a s k => by
  unfold wpList
  rw [if_neg (by simp [Region.wanted, yieldE_eq k hy])]
  exact h.out w _ s (k.put hd _)

theorem o_skip0 {op : Op} {ty : TypeId} {pos : String} {af : Array Edge} {j : Nat} {b : Bool} (hy : yieldE env ops j = some (!b))
    (h : OpsJ P n ds F L env ops rest Q) : OpsJ P n ds F L env ops (⟨none, op, ty, pos, af, some (j, b)⟩ :: rest) Q := .mk fun w a s k => by
  unfold wpList
  rw [if_neg (by simp [Region.wanted, yieldE_eq k hy])]
  exact h.out w _ s k

end
end Go.Lun

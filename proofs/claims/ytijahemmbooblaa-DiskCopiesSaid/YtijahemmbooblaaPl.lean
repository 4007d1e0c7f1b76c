/- A statement whose order of evaluation is open: one order of our choice stands for all, where what is read is held. -/
import Derived.Test.YtijahemmbooblaaMem
namespace Go.Lun

theorem getD_both {listed : Array Bool} {i : Nat} (h : listed.getD i true = false) : listed.getD i false = false := by
  rcases Nat.lt_or_ge i listed.size with h' | h'
  · simp [h'] at h ⊢; exact h
  · simp [Array.getElem?_eq_none h'] at h
theorem getD_replicate_false (m j : Nat) : (Array.replicate m false).getD j false = false := by
  rcases Nat.lt_or_ge j m with h' | h'
  · simp [h']
  · simp [h']

/-- Operation i comes ahead of operation k. -/
inductive Anc (ops : Array Oper) : Nat → Nat → Prop
  | one {i k : Nat} {o : Oper} {e : Edge} : ops[k]? = some o → e ∈ o.after → Region.binds .any e = true → e.on = i → Anc ops i k
  | step {i j k : Nat} {o : Oper} {e : Edge} : Anc ops i j → ops[k]? = some o → e ∈ o.after → Region.binds .any e = true → e.on = j → Anc ops i k

def ancB (ops : Array Oper) : Nat → Nat → Nat → Bool
  | 0, _, _ => false
  | f + 1, i, k => match ops[k]? with
    | some o => o.after.any fun e => Region.binds .any e && (e.on == i || ancB ops f i e.on)
    | none => false

theorem ancB_sound {ops : Array Oper} : ∀ {f i k : Nat}, ancB ops f i k = true → Anc ops i k
  | 0, _, _, h => by simp [ancB] at h
  | f + 1, i, k, h => by
    simp only [ancB] at h
    cases ho : ops[k]? with
    | none => rw [ho] at h; cases h
    | some o =>
      rw [ho] at h
      obtain ⟨e, he, hb⟩ := Array.any_eq_true'.1 h
      simp only [Bool.and_eq_true, Bool.or_eq_true, beq_iff_eq] at hb
      rcases hb.2 with h1 | h1
      · exact .one ho he hb.1 h1
      · exact .step (ancB_sound h1) ho he hb.1 rfl

/-- Whoever is listed has all that it waits for listed. -/
def Down (ops : Array Oper) (listed : Array Bool) : Prop := ∀ k o e, ops[k]? = some o → listed.getD k false = true → e ∈ o.after → Region.binds .any e = true → listed.getD e.on false = true

theorem Down.anc {ops : Array Oper} {listed : Array Bool} (h : Down ops listed) {i k : Nat} (ha : Anc ops i k) : listed.getD k false = true → listed.getD i false = true := by
  induction ha with
  | one ho he hb hi => intro hk; subst hi; exact h _ _ _ ho hk he hb
  | step _ ho he hb hj ih => intro hk; subst hj; exact ih (h _ _ _ ho hk he hb)

theorem Down.none {ops : Array Oper} {m : Nat} : Down ops (Array.replicate m false) := fun k o e _ hk => by
  rw [getD_replicate_false] at hk; cases hk

theorem getD_set_self {listed : Array Bool} {k : Nat} (hin : listed.getD k true = false) : (listed.setIfInBounds k true).getD k false = true := by
  have : k < listed.size := by
    rcases Nat.lt_or_ge k listed.size with h | h
    · exact h
    · simp [h] at hin
  simp [this]

theorem getD_set_or {listed : Array Bool} {i k : Nat} (h : (listed.setIfInBounds i true).getD k false = true) : k = i ∨ listed.getD k false = true := by
  by_cases e : i = k
  · exact .inl e.symm
  · rw [getD_set_ne false e] at h; exact .inr h

theorem Down.set {ops : Array Oper} {listed : Array Bool} (h : Down ops listed) {i : Nat} (hi : i ∈ Region.ready .any ops listed) : Down ops (listed.setIfInBounds i true) := fun k o e ho hk he hb => by
  obtain ⟨hun, oi, hoi, hall⟩ := mem_ready.1 hi
  refine getD_set_true ?_
  rcases getD_set_or hk with rfl | hk
  · have hoo := ho.symm.trans hoi
    injection hoo with hoo; subst hoo
    exact hall e he hb
  · exact h k o e ho hk he hb

abbrev Owed := List (Nat × (World → Prop))

section
variable {P : Program} {ops : Array Oper} {Q : Post} {eff : Nat → Bool}

/-- What is owed to those who were taken first: it holds, unless an effect that waits for them has come. -/
def Obl (ops : Array Oper) (eff : Nat → Bool) (T : Owed) (listed : Array Bool) (w : World) : Prop :=
  ∀ x ∈ T, (∃ e, eff e = true ∧ listed.getD e false = true ∧ Anc ops x.1 e) ∨ x.2 w

def wpT (P : Program) (ops : Array Oper) (eff : Nat → Bool) (Q : Post) (T : Owed) : Nat → Array Bool → Act → World → Prop
  | 0, listed, a, w => Region.ready .any ops listed = [] ∧ Q .normal a w
  | f + 1, listed, a, w => (Region.ready .any ops listed = [] → Q .normal a w) ∧
    ∀ i ∈ Region.ready .any ops listed, wpOp P ops Q i (fun a' w' => Obl ops eff T (listed.setIfInBounds i true) w' ∧ wpT P ops eff Q T f (listed.setIfInBounds i true) a' w') a w

theorem wpT_any {T : Owed} : ∀ {f : Nat} {listed : Array Bool} {a : Act} {w : World}, wpT P ops eff Q T f listed a w → wpAny P .any ops Q f listed a w
  | 0, _, _, _, h => h
  | _ + 1, _, _, _, h => ⟨h.1, fun i hi => wpOp_mono (fun _ _ h' => wpT_any h'.2) (h.2 i hi)⟩

theorem Obl.set {T : Owed} {listed : Array Bool} {w : World} (h : Obl ops eff T listed w) (i : Nat) : Obl ops eff T (listed.setIfInBounds i true) w := fun x hx => by
  rcases h x hx with ⟨e, h1, h2, h3⟩ | h
  · exact .inl ⟨e, h1, getD_set_true h2, h3⟩
  · exact .inr h

theorem Obl.back {T : Owed} {listed : Array Bool} {w : World} {i : Nat} (hi : eff i = false) (h : Obl ops eff T (listed.setIfInBounds i true) w) : Obl ops eff T listed w := fun x hx => by
  rcases h x hx with ⟨e, h1, h2, h3⟩ | h
  · rcases getD_set_or h2 with rfl | h2
    · rw [hi] at h1; cases h1
    · exact .inl ⟨e, h1, h2, h3⟩
  · exact .inr h

theorem Anc.ready {listed : Array Bool} {i j : Nat} (hd : Down ops listed) (ha : Anc ops i j) (hj : j ∈ Region.ready .any ops listed) : listed.getD i false = true := by
  obtain ⟨_, oj, hoj, hall⟩ := mem_ready.1 hj
  cases ha with
  | one ho he hb hi =>
    have hoo := ho.symm.trans hoj
    injection hoo with hoo; subst hoo; subst hi
    exact hall _ he hb
  | step ha ho he hb hj' =>
    have hoo := ho.symm.trans hoj
    injection hoo with hoo; subst hoo; subst hj'
    exact hd.anc ha (hall _ he hb)

theorem unlisted {listed : Array Bool} {i : Nat} (h : listed.getD i true = false) : listed.getD i false = false := getD_both h

theorem wpT_first {i : Nat} {oi : Oper} {v : Value} {S : World → Prop} (hi : ops[i]? = some oi) (he : eff i = false) (hsel : ∀ (j : Nat) (o : Oper) cs b, ops[j]? = some o → o.op ≠ .select cs b)
    (hQ : ∀ c a w, Q (.panic c) (a.put oi.dst v) w → Q (.panic c) a w) {T : Owed} :
    ∀ (f : Nat) (listed : Array Bool) (a : Act) (w : World),
      (∀ j oj, ops[j]? = some oj → j ≠ i → listed.getD j true = false → (∀ e ∈ oj.after, Region.binds .any e = true → e.on ≠ i) → oi.apart ops oj = true) →
      Down ops listed → i ∈ Region.ready .any ops listed → YieldsIf P ops S oi v a → S w → Obl ops eff T listed w →
      wpT P ops eff Q ((i, S) :: T) f (listed.setIfInBounds i true) (a.put oi.dst v) w → wpT P ops eff Q T (f + 1) listed a w := by
  intro f
  have weaken : ∀ (f : Nat) (listed : Array Bool) (a : Act) (w : World), wpT P ops eff Q ((i, S) :: T) f listed a w → wpT P ops eff Q T f listed a w := by
    intro f
    induction f with
    | zero => intro _ _ _ h; exact h
    | succ f ih => intro listed a w h; exact ⟨h.1, fun j hj => wpOp_mono (fun _ _ h' => ⟨fun x hx => h'.1 x (List.mem_cons_of_mem _ hx), ih _ _ _ h'.2⟩) (h.2 j hj)⟩
  induction f with
  | zero =>
    intro listed a w _ hd hr hy hS hO H
    refine ⟨fun h => (by rw [h] at hr; cases hr), fun j hj => ?_⟩
    by_cases hji : j = i
    · subst hji; exact hy.wpOp hi hS ⟨hO.set _, H⟩
    · have := ready_mono hj hji
      rw [H.1] at this
      cases this
  | succ f ih =>
    intro listed a w hfree hd hr hy hS hO H
    refine ⟨fun h => (by rw [h] at hr; cases hr), fun j hj => ?_⟩
    by_cases hji : j = i
    · subst hji; exact hy.wpOp hi hS ⟨hO.set _, weaken _ _ _ _ H⟩
    · have h1 := H.2 j (ready_mono hj hji)
      obtain ⟨hjun, oj, hoj, hall⟩ := mem_ready.1 hj
      have hiun := (mem_ready.1 hr).1
      have hnot : ∀ e ∈ oj.after, Region.binds .any e = true → e.on ≠ i := fun e he hb heq => by
        have h1 := hall e he hb
        rw [heq, unlisted hiun] at h1; cases h1
      have h2 := wpOp_putIf hoj (hfree j oj hoj hji hjun hnot) (fun cs b => hsel i oi cs b hi) (fun cs b => hsel j oj cs b hoj) hQ hy h1
      have hfree' : ∀ k ok, ops[k]? = some ok → k ≠ i → (listed.setIfInBounds j true).getD k true = false →
          (∀ e ∈ ok.after, Region.binds .any e = true → e.on ≠ i) → oi.apart ops ok = true := fun k ok hk hki hun hno => by
        refine hfree k ok hk hki ?_ hno
        by_cases hjk : j = k
        · subst hjk; exact hjun
        · rw [getD_set_ne true hjk] at hun; exact hun
      refine wpOp_mono (fun a' w' h3 => ?_) h2
      obtain ⟨hy', hO', hW'⟩ := h3
      rw [Array.setIfInBounds_comm _ _ (Ne.symm hji)] at hO' hW'
      have hS' : S w' := by
        rcases hO' (i, S) (by simp) with ⟨e, g1, g2, g3⟩ | h
        · exfalso
          rcases getD_set_or g2 with rfl | g2
          · rw [he] at g1; cases g1
          · rcases getD_set_or g2 with rfl | g2
            · have := g3.ready hd hj; rw [unlisted hiun] at this; cases this
            · have := hd.anc g3 g2; rw [unlisted hiun] at this; cases this
        · exact h
      have hOT : Obl ops eff T (listed.setIfInBounds j true) w' := Obl.back he (fun x hx => hO' x (List.mem_cons_of_mem _ hx))
      exact ⟨hOT, ih (listed.setIfInBounds j true) a' w' hfree' (hd.set hj) (ready_mono hr (Ne.symm hji)) hy' hS' hOT hW'⟩

theorem wpT_sole {T : Owed} {i f : Nat} {listed : Array Bool} {a : Act} {w : World} (hr : Region.ready .any ops listed = [i])
    (h : wpOp P ops Q i (fun a' w' => Obl ops eff T (listed.setIfInBounds i true) w' ∧ wpT P ops eff Q T f (listed.setIfInBounds i true) a' w') a w) : wpT P ops eff Q T (f + 1) listed a w :=
  ⟨fun h0 => (by rw [hr] at h0; cases h0), fun j hj => by rw [hr, List.mem_singleton] at hj; subst hj; exact h⟩

end

/-- The judgement: in every world of the state, whatever order is drawn from here on. -/
structure PlJ (P : Program) (n : Nat) (ds : List Deferred) (F : Fr) (L : List Asrt) (env : Env) (ops : Array Oper) (eff : Nat → Bool) (T : Owed) (f : Nat) (listed : Array Bool) (Q : Post) : Prop where
  down : Down ops listed
  out : ∀ w a, St F L w → Ok n ds env a → Obl ops eff T listed w → wpT P ops eff Q T f listed a w

section
variable {P : Program} {n : Nat} {ds : List Deferred} {F : Fr} {L : List Asrt} {env : Env} {Q : Post} {ops : Array Oper} {eff : Nat → Bool} {T : Owed} {f : Nat} {listed : Array Bool}

/-- Which numbers are effects: a list. -/
def effs (l : List Nat) (i : Nat) : Bool := l.contains i

theorem pl_start {id : Nat} (el : List Nat) (hm : P.follows .mixedOrders = true)
    (h : Down ops (Array.replicate ops.size false) → PlJ P n ds F L env ops (effs el) [] ops.size (Array.replicate ops.size false) Q) : CodeJ P n ds F L env (.region id ops true) Q := .mk fun w a s o =>
  wp_region_any hm (wpT_any ((h Down.none).2 _ a (s.drew _) o (fun x hx => by cases hx)))

/-- All at once, that an operation may be taken first. -/
def takeB (n : Nat) (ops : Array Oper) (eff : Nat → Bool) (listed : Array Bool) (i : Nat) : Bool :=
  !eff i && Region.noSelect ops && Region.free .any ops listed i && (Region.ready .any ops listed).contains i && (match ops[i]? with | some o => fits n o.dst && o.guard.isNone | none => false)

class Calm (Q : Post) : Prop where
  out : ∀ c a a' w, Q (.panic c) a w → a.defers = a'.defers → Q (.panic c) a' w
instance {K : Act → World → Prop} {Q : Post} [h : Calm Q] : Calm (Exit.then K Q) := ⟨fun c a a' w k e => h.out c a a' w k e⟩
instance {id : Nat} {Q : Post} [h : Calm Q] : Calm (Exit.inBlock id Q) := ⟨fun c a a' w k e => h.out c a a' w k e⟩
instance {P : Program} {c : Code} {Q : Post} [h : Calm Q] : Calm (Round P c Q) := ⟨fun c a a' w k e => h.out c a a' w k e⟩
instance {X : Type} {n : Nat} {ds : List Deferred} {F : Fr} {M : X → List Asrt} {e : X → Env} {Q : Post} [h : Calm Q] : Calm (Cut n ds F M e Q) := ⟨fun c a a' w k e => h.out c a a' w k e⟩
instance {P : Program} {fn : Func} {F : Fr} {R : Value → List Asrt → Prop} : Calm (FnPost P fn F R) := ⟨fun c a a' w k e => ⟨e ▸ k.1, k.2⟩⟩

theorem put_defers' (a : Act) (d : Option Tmp) (v : Value) : (a.put d v).defers = a.defers := by cases d <;> rfl

/-- Taken first: what yields the same in every world in which others' blocks are as they are. -/
theorem pl_take {i : Nat} {d : Tmp} {op : Op} {ty : TypeId} {pos : String} {af : Array Edge} {v : Value} (hi : ops[i]? = some ⟨some d, op, ty, pos, af, none⟩) (ht : takeB n ops eff listed i = true) [hQ : Calm Q]
    (hy : Yld P n ds F.bare [] env ⟨some d, op, ty, pos, af, none⟩ v)
    (h : Down ops (listed.setIfInBounds i true) → PlJ P n ds F L ((d, v) :: env) ops eff ((i, fun w => w.os = F.os ∧ w.output = F.out ∧ Sat F.res w) :: T) f (listed.setIfInBounds i true) Q)
    (hd : Down ops listed) : PlJ P n ds F L env ops eff T (f + 1) listed Q := by
  simp only [takeB, hi, Bool.and_eq_true, Bool.not_eq_true'] at ht
  obtain ⟨⟨⟨⟨h1, h2⟩, h3⟩, h4⟩, h5, _⟩ := ht
  have hr : i ∈ Region.ready .any ops listed := by simpa using h4
  have hd' := hd.set hr
  refine ⟨hd, fun w a s k hO => ?_⟩
  have hS : w.os = F.os ∧ w.output = F.out ∧ Sat F.res w := by obtain ⟨a1, a2, _, _, _, hf, _, _⟩ := s; exact ⟨a1, a2, hf⟩
  refine wpT_first (v := v) (S := fun w => w.os = F.os ∧ w.output = F.out ∧ Sat F.res w) hi h1 (Region.noSelect_spec h2) (fun c b w' hq => hQ.out c _ _ w' hq (put_defers' _ _ _)) f listed a w (Region.free_spec hi h3) hd hr ?_ hS hO ?_
  · exact .inl ⟨rfl, fun w' ⟨b1, b2, b3⟩ => hy.out w' a ⟨b1, b2, Nat.zero_le _, fun _ => none, (fun _ _ _ _ _ _ h => by cases h), b3, (fun _ _ _ h => by cases h), trivial⟩ k⟩
  · refine (h hd').2 w _ s (k.put (d := some d) h5 v) ?_
    intro x hx
    rcases List.mem_cons.1 hx with rfl | hx
    · exact .inr hS
    · exact hO.set i x hx

/-- What is not carried out (its guard says no). -/
theorem pl_skip {i : Nat} {d : Tmp} {op : Op} {ty : TypeId} {pos : String} {af : Array Edge} {j : Nat} {b : Bool} (hi : ops[i]? = some ⟨some d, op, ty, pos, af, some (j, b)⟩)
    (ht : (!eff i && Region.noSelect ops && Region.free .any ops listed i && (Region.ready .any ops listed).contains i && Nat.blt d n) = true) [hQ : Calm Q]
    (hy : yieldE env ops j = some (!b))
    (h : Down ops (listed.setIfInBounds i true) → PlJ P n ds F L ((d, undef) :: env) ops eff ((i, fun _ => True) :: T) f (listed.setIfInBounds i true) Q)
    (hd : Down ops listed) : PlJ P n ds F L env ops eff T (f + 1) listed Q := by
  simp only [Bool.and_eq_true, Bool.not_eq_true'] at ht
  obtain ⟨⟨⟨⟨h1, h2⟩, h3⟩, h4⟩, h5⟩ := ht
  have hr : i ∈ Region.ready .any ops listed := by simpa using h4
  have hd' := hd.set hr
  refine ⟨hd, fun w a s k hO => ?_⟩
  refine wpT_first (v := undef) (S := fun _ => True) hi h1 (Region.noSelect_spec h2) (fun c b w' hq => hQ.out c _ _ w' hq (put_defers' _ _ _)) f listed a w (Region.free_spec hi h3) hd hr ?_ trivial hO ?_
  · exact .inr ⟨by simp [Region.wanted, yieldE_eq k hy], rfl⟩
  · refine (h hd').2 w _ s (k.put (d := some d) h5 undef) ?_
    intro x hx
    rcases List.mem_cons.1 hx with rfl | hx
    · exact .inr trivial
    · exact hO.set i x hx

/-- Taken first, its guard says yes. -/
theorem pl_want {i : Nat} {d : Tmp} {op : Op} {ty : TypeId} {pos : String} {af : Array Edge} {j : Nat} {b : Bool} {v : Value} (hi : ops[i]? = some ⟨some d, op, ty, pos, af, some (j, b)⟩)
    (ht : (!eff i && Region.noSelect ops && Region.free .any ops listed i && (Region.ready .any ops listed).contains i && Nat.blt d n) = true) [hQ : Calm Q]
    (hg : yieldE env ops j = some b) (hy : Yld P n ds F.bare [] env ⟨some d, op, ty, pos, af, some (j, b)⟩ v)
    (h : Down ops (listed.setIfInBounds i true) → PlJ P n ds F L ((d, v) :: env) ops eff ((i, fun w => w.os = F.os ∧ w.output = F.out ∧ Sat F.res w) :: T) f (listed.setIfInBounds i true) Q)
    (hd : Down ops listed) : PlJ P n ds F L env ops eff T (f + 1) listed Q := by
  simp only [Bool.and_eq_true, Bool.not_eq_true'] at ht
  obtain ⟨⟨⟨⟨h1, h2⟩, h3⟩, h4⟩, h5⟩ := ht
  have hr : i ∈ Region.ready .any ops listed := by simpa using h4
  have hd' := hd.set hr
  refine ⟨hd, fun w a s k hO => ?_⟩
  have hS : w.os = F.os ∧ w.output = F.out ∧ Sat F.res w := by obtain ⟨a1, a2, _, _, _, hf, _, _⟩ := s; exact ⟨a1, a2, hf⟩
  refine wpT_first (v := v) (S := fun w => w.os = F.os ∧ w.output = F.out ∧ Sat F.res w) hi h1 (Region.noSelect_spec h2) (fun c b w' hq => hQ.out c _ _ w' hq (put_defers' _ _ _)) f listed a w (Region.free_spec hi h3) hd hr ?_ hS hO ?_
  · exact .inl ⟨by simp [Region.wanted, yieldE_eq k hg], fun w' ⟨b1, b2, b3⟩ => hy.out w' a ⟨b1, b2, Nat.zero_le _, fun _ => none, (fun _ _ _ _ _ _ h => by cases h), b3, (fun _ _ _ h => by cases h), trivial⟩ k⟩
  · refine (h hd').2 w _ s (k.put (d := some d) h5 v) ?_
    intro x hx
    rcases List.mem_cons.1 hx with rfl | hx
    · exact .inr hS
    · exact hO.set i x hx

/-- What is owed holds in every world of a state. -/
def Owes (ops : Array Oper) (eff : Nat → Bool) (F : Fr) (T : Owed) (listed : Array Bool) : Prop := ∀ w, w.os = F.os ∧ w.output = F.out ∧ Sat F.res w → Obl ops eff T listed w

/-- An effect that alone may come up. -/
theorem pl_sole {i : Nat} {o : Oper} (hr : Region.ready .any ops listed = [i]) (hi : ops[i]? = some o)
    (h : Down ops (listed.setIfInBounds i true) → OpsJ P n ds F L env ops [o] (Exit.then (fun a w => Obl ops eff T (listed.setIfInBounds i true) w ∧ wpT P ops eff Q T f (listed.setIfInBounds i true) a w) Q))
    (hd : Down ops listed) : PlJ P n ds F L env ops eff T (f + 1) listed Q := by
  have hd' := hd.set (i := i) (by rw [hr]; simp)
  refine ⟨hd, fun w a s k _ => wpT_sole hr ?_⟩
  have := (h hd').out w a s k
  unfold wpList at this
  unfold wpOp
  simp only [hi]
  split
  · rename_i hw
    rw [if_pos hw] at this
    rcases this with h1 | ⟨h1, h2⟩
    · left
      unfold Oper.wp at *
      generalize (execOp a.eval o).run P w = r at *
      cases r with
      | ok nx w' =>
        cases nx <;> simp only [Oper.upon, wpList] at h1 ⊢ <;> first | exact h1 | skip
      | halt x w' => cases x <;> simp only [Oper.upon] at h1 ⊢ <;> first | exact h1 | skip
    · right; exact ⟨h1, h2⟩
  · rename_i hw
    rw [if_neg hw] at this
    exact this

theorem wpOp_of_list {i : Nat} {o : Oper} {a : Act} {w : World} {K : Act → World → Prop} (hi : ops[i]? = some o) (h : wpList P ops (Exit.then K Q) [o] a w) : wpOp P ops Q i K a w := by
  unfold wpList at h
  unfold wpOp
  simp only [hi]
  split
  · rename_i hw
    rw [if_pos hw] at h
    rcases h with h1 | ⟨h1, h2⟩
    · left
      unfold Oper.wp at *
      generalize (execOp a.eval o).run P w = r at *
      cases r with
      | ok nx w' => cases nx <;> simp only [Oper.upon, wpList] at h1 ⊢ <;> first | exact h1 | skip
      | halt x w' => cases x <;> simp only [Oper.upon] at h1 ⊢ <;> first | exact h1 | skip
    · right; exact ⟨h1, h2⟩
  · rename_i hw
    rw [if_neg hw] at h
    exact h

/-- Two effects, of which either may come first. -/
theorem pl_two {i j : Nat} {o o' : Oper} (hr : Region.ready .any ops listed = [i, j]) (hi : ops[i]? = some o) (hj : ops[j]? = some o')
    (h1 : Down ops (listed.setIfInBounds i true) → OpsJ P n ds F L env ops [o] (Exit.then (fun a w => Obl ops eff T (listed.setIfInBounds i true) w ∧ wpT P ops eff Q T f (listed.setIfInBounds i true) a w) Q))
    (h2 : Down ops (listed.setIfInBounds j true) → OpsJ P n ds F L env ops [o'] (Exit.then (fun a w => Obl ops eff T (listed.setIfInBounds j true) w ∧ wpT P ops eff Q T f (listed.setIfInBounds j true) a w) Q))
    (hd : Down ops listed) : PlJ P n ds F L env ops eff T (f + 1) listed Q := by
  have hd1 := hd.set (i := i) (by rw [hr]; simp)
  have hd2 := hd.set (i := j) (by rw [hr]; simp)
  refine ⟨hd, fun w a s k _ => ⟨fun h0 => (by rw [hr] at h0; cases h0), fun x hx => ?_⟩⟩
  rw [hr] at hx
  rcases List.mem_cons.1 hx with rfl | hx
  · exact wpOp_of_list hi ((h1 hd1).out w a s k)
  · rw [List.mem_singleton] at hx; subst hx
    exact wpOp_of_list hj ((h2 hd2).out w a s k)

/-- Behind an effect: the state tells what is owed. -/
theorem pl_back {listed' : Array Bool} (hO : Owes ops eff F T listed') (h : Down ops listed' → PlJ P n ds F L env ops eff T f listed' Q) (hd : Down ops listed') :
    OpsJ P n ds F L env ops [] (Exit.then (fun a w => Obl ops eff T listed' w ∧ wpT P ops eff Q T f listed' a w) Q) := .mk fun w a s k => by
  have hS : w.os = F.os ∧ w.output = F.out ∧ Sat F.res w := by obtain ⟨a1, a2, _, _, _, hf, _, _⟩ := s; exact ⟨a1, a2, hf⟩
  exact ⟨hO w hS, (h hd).2 w a s k (hO w hS)⟩

theorem Owes.nil {F : Fr} {listed : Array Bool} : Owes ops eff F [] listed := fun _ _ _ h => by cases h
theorem Owes.same {F : Fr} {T : Owed} {listed : Array Bool} {i : Nat} (h : Owes ops eff F T listed) : Owes ops eff F ((i, fun w => w.os = F.os ∧ w.output = F.out ∧ Sat F.res w) :: T) listed := fun w hw x hx => by
  rcases List.mem_cons.1 hx with rfl | hx
  · exact .inr hw
  · exact h w hw x hx
theorem Owes.any {F : Fr} {T : Owed} {listed : Array Bool} {i : Nat} (h : Owes ops eff F T listed) : Owes ops eff F ((i, fun _ => True) :: T) listed := fun w hw x hx => by
  rcases List.mem_cons.1 hx with rfl | hx
  · exact .inr trivial
  · exact h w hw x hx
theorem Owes.waived {F : Fr} {T : Owed} {listed : Array Bool} {i : Nat} {S : World → Prop} (e : Nat) (he : (eff e && listed.getD e false && ancB ops ops.size i e) = true) (h : Owes ops eff F T listed) :
    Owes ops eff F ((i, S) :: T) listed := fun w hw x hx => by
  simp only [Bool.and_eq_true] at he
  rcases List.mem_cons.1 hx with rfl | hx
  · exact .inl ⟨e, he.1.1, he.1.2, ancB_sound he.2⟩
  · exact h w hw x hx

theorem pl_done (hr : Region.ready .any ops listed = []) (h : FinJ P n ds F L env .normal Q) (hd : Down ops listed) : PlJ P n ds F L env ops eff T f listed Q := ⟨hd, fun w a s k _ => by
  cases f with
  | zero => exact ⟨hr, h.out w a s k⟩
  | succ f => exact ⟨fun _ => h.out w a s k, fun i hi => by rw [hr] at hi; cases hi⟩⟩

/-- Blocks held; let go again. -/
theorem pl_lock {A : Asrt} {p : Bool} {b : Nat} {o : Obj} {R : List Asrt} [ha : AtB A p b o] (hr : Rem L A R) (hT : T = [])
    (h : ∀ hb, PlJ P n ds (F.lock p b o hb) R env ops eff [] f listed Q) (hd : Down ops listed) : PlJ P n ds F L env ops eff T f listed Q := ⟨hd, fun w a s k hO => by
  subst hT
  obtain ⟨hb, s'⟩ := s.lock hr
  exact (h hb).2 w a s' k hO⟩
theorem o_unlock {A : Asrt} {p : Bool} {b : Nat} {o : Obj} {hb : Compat (Bk p b o) F.res} {l : List Oper} [ha : AtB A p b o] (h : OpsJ P n ds F (A :: L) env ops l Q) : OpsJ P n ds (F.lock p b o hb) L env ops l Q :=
  .mk fun w a s k => h.out w a s.unlock k
theorem f_unlock {A : Asrt} {p : Bool} {b : Nat} {o : Obj} {hb : Compat (Bk p b o) F.res} {e : Exit} [ha : AtB A p b o] (h : FinJ P n ds F (A :: L) env e Q) : FinJ P n ds (F.lock p b o hb) L env e Q :=
  .mk fun w a s k => h.out w a s.unlock k

end
end Go.Lun

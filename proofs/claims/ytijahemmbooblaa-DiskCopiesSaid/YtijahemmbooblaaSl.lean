/- Resources over the blocks of the heap: what is owned, what is shared, and lists of assertions that lie apart. -/
import Derived.Tactics
import Derived.Defers
import Derived.Below
import Derived.OrdersHeld
import Derived.Laws.Sem
import Derived.Laws.World
namespace Go.Lun

abbrev Res := Nat → Option (Bool × Obj)

def Compat (r s : Res) : Prop := ∀ b p o q o', r b = some (p, o) → s b = some (q, o') → p = false ∧ q = false ∧ o = o'
def join (r s : Res) : Res := fun b => match r b with
  | some x => some x
  | none => s b
def Sat (r : Res) (w : World) : Prop := ∀ b p o, r b = some (p, o) → w.heap[b]? = some o

theorem join_some {r s : Res} {b : Nat} {x : Bool × Obj} (h : r b = some x) : join r s b = some x := by simp [join, h]
theorem join_none {r s : Res} {b : Nat} (h : r b = none) : join r s b = s b := by simp [join, h]
theorem join_cases {r s : Res} {b : Nat} {x : Bool × Obj} (h : join r s b = some x) : r b = some x ∨ (r b = none ∧ s b = some x) := by
  cases hr : r b with
  | some y => rw [join_some hr] at h; exact .inl h
  | none => rw [join_none hr] at h; exact .inr ⟨rfl, h⟩

theorem Compat.symm {r s : Res} (h : Compat r s) : Compat s r := fun b p o q o' h1 h2 => by
  obtain ⟨a, c, d⟩ := h b q o' p o h2 h1
  exact ⟨c, a, d.symm⟩

theorem join_comm {r s : Res} (h : Compat r s) : join r s = join s r := by
  funext b
  cases hr : r b with
  | none => cases hs : s b with
    | none => simp [join, hr, hs]
    | some y => simp [join, hr, hs]
  | some x => cases hs : s b with
    | none => simp [join, hr, hs]
    | some y =>
      obtain ⟨p, o⟩ := x; obtain ⟨q, o'⟩ := y
      obtain ⟨rfl, rfl, rfl⟩ := h b p o q o' hr hs
      simp [join, hr, hs]

theorem join_assoc (r s t : Res) : join (join r s) t = join r (join s t) := by
  funext b
  cases hr : r b <;> simp [join, hr]

theorem Compat.join_l {r s t : Res} (h : Compat (join r s) t) : Compat r t := fun b p o q o' h1 h2 => h b p o q o' (join_some h1) h2
theorem Compat.join_r {r s t : Res} (hc : Compat r s) (h : Compat (join r s) t) : Compat s t := by
  rw [join_comm hc] at h; exact h.join_l
theorem Compat.of_join {r s t : Res} (h1 : Compat r t) (h2 : Compat s t) : Compat (join r s) t := fun b p o q o' h h' => by
  rcases join_cases h with h | ⟨_, h⟩
  · exact h1 b p o q o' h h'
  · exact h2 b p o q o' h h'
theorem Compat.rot {r s t : Res} (h : Compat s t) (h' : Compat r (join s t)) : Compat (join r s) t :=
  .of_join (Compat.join_r h h'.symm).symm h
theorem Compat.rot' {r s t : Res} (h : Compat r s) (h' : Compat (join r s) t) : Compat r (join s t) :=
  (Compat.of_join h.symm h'.join_l.symm).symm

theorem Sat.join {r s : Res} {w : World} (h : Sat r w) (h' : Sat s w) : Sat (join r s) w := fun b p o hb => by
  rcases join_cases hb with hb | ⟨_, hb⟩
  · exact h b p o hb
  · exact h' b p o hb
theorem Sat.left {r s : Res} {w : World} (h : Sat (Lun.join r s) w) : Sat r w := fun b p o hb => h b p o (join_some hb)
theorem Sat.right {r s : Res} {w : World} (hc : Compat r s) (h : Sat (Lun.join r s) w) : Sat s w := by
  rw [join_comm hc] at h; exact h.left

abbrev Asrt := Res → Prop

def sep : List Asrt → Res → Prop
  | [], _ => True
  | A :: L, r => ∃ r1 r2, Compat r1 r2 ∧ r = join r1 r2 ∧ A r1 ∧ sep L r2

theorem sep_grow {L : List Asrt} : ∀ {r s : Res}, Compat r s → sep L s → sep L (join r s) := by
  induction L with
  | nil => intros; trivial
  | cons A L ih =>
    intro r s hc h
    obtain ⟨r1, r2, hc', rfl, hA, hL⟩ := h
    have hr1 : Compat r r1 := hc.symm.join_l.symm
    have hr2 : Compat r r2 := (hc'.join_r hc.symm).symm
    refine ⟨r1, join r r2, ?_, ?_, hA, ih hr2 hL⟩
    · exact (Compat.of_join hr1 hc'.symm).symm
    · rw [← join_assoc, join_comm hr1, join_assoc]

theorem sep_append {L M : List Asrt} : ∀ {r s : Res}, Compat r s → sep L r → sep M s → sep (L ++ M) (join r s) := by
  induction L with
  | nil => intro r s hc _ h; exact sep_grow hc h
  | cons A L ih =>
    intro r s hc h hM
    obtain ⟨r1, r2, hc', rfl, hA, hL⟩ := h
    have h2 : Compat r2 s := hc'.join_r hc
    exact ⟨r1, join r2 s, hc'.rot' hc, (join_assoc ..), hA, ih h2 hL hM⟩

theorem sep_split {L M : List Asrt} : ∀ {r : Res}, sep (L ++ M) r → ∃ r1 r2, Compat r1 r2 ∧ r = join r1 r2 ∧ sep L r1 ∧ sep M r2 := by
  induction L with
  | nil =>
    intro r h
    refine ⟨fun _ => none, r, ?_, ?_, trivial, h⟩
    · intro b p o q o' h1; cases h1
    · funext b; simp [join]
  | cons A L ih =>
    intro r h
    obtain ⟨r1, r2, hc, rfl, hA, hL⟩ := h
    obtain ⟨s1, s2, hc', rfl, h1, h2⟩ := ih hL
    refine ⟨join r1 s1, s2, hc'.rot hc, (join_assoc ..).symm, ⟨r1, s1, hc.symm.join_l.symm, rfl, hA, h1⟩, h2⟩

theorem sep_swap {A B : Asrt} {L : List Asrt} {r : Res} (h : sep (A :: B :: L) r) : sep (B :: A :: L) r := by
  obtain ⟨a, x, hc, rfl, hA, b, l, hc', rfl, hB, hL⟩ := h
  have hab : Compat a b := hc.symm.join_l.symm
  have hal : Compat a l := (hc'.join_r hc.symm).symm
  refine ⟨b, join a l, ?_, ?_, hB, a, l, hal, rfl, hA, hL⟩
  · exact (Compat.of_join hab hc'.symm).symm
  · rw [← join_assoc, join_comm hab, join_assoc]

theorem sep_perm {L M : List Asrt} (h : L.Perm M) : ∀ {r : Res}, sep L r → sep M r := by
  induction h with
  | nil => intro r h; exact h
  | cons A _ ih => intro r ⟨a, l, hc, e, hA, hL⟩; exact ⟨a, l, hc, e, hA, ih hL⟩
  | swap A B L => intro r h; exact sep_swap h
  | trans _ _ ih1 ih2 => intro r h; exact ih2 (ih1 h)

theorem sep_tail {A : Asrt} {L : List Asrt} {r : Res} (h : sep (A :: L) r) : sep L r := by
  obtain ⟨a, l, hc, rfl, _, hL⟩ := h
  exact sep_grow hc hL

/-- Block b, owned or shared, is this. -/
def Bkp (p : Bool) (b : Nat) (o : Obj) : Asrt := fun r => r b = some (p, o)
/-- Block b is owned, and is this. -/
abbrev Blk (b : Nat) (o : Obj) : Asrt := Bkp true b o
/-- Block b is shared, and is this. -/
abbrev Sh (b : Nat) (o : Obj) : Asrt := Bkp false b o
/-- A list of assertions as one. -/
def Star (L : List Asrt) : Asrt := sep L

/-- What lies outside: the streams, how many blocks there were, what is owned by others. -/
structure Fr where
  os : Os
  out : Array (Nat × ByteArray)
  base : Nat
  res : Res

def St (F : Fr) (L : List Asrt) (w : World) : Prop :=
  w.os = F.os ∧ w.output = F.out ∧ F.base ≤ w.heap.size ∧ ∃ r, Compat F.res r ∧ Sat F.res w ∧ Sat r w ∧ sep L r

def Ent (L M : List Asrt) : Prop := ∀ r, sep L r → sep M r

theorem St.ent {F : Fr} {L M : List Asrt} {w : World} (s : St F L w) (h : Ent L M) : St F M w := by
  obtain ⟨h1, h2, h3, r, hc, hf, hr, hs⟩ := s
  exact ⟨h1, h2, h3, r, hc, hf, hr, h r hs⟩

theorem Ent.refl (L : List Asrt) : Ent L L := fun _ h => h
theorem Ent.trans {L M N : List Asrt} (h : Ent L M) (h' : Ent M N) : Ent L N := fun r hr => h' r (h r hr)
theorem Ent.perm {L M : List Asrt} (h : L.Perm M) : Ent L M := fun _ hr => sep_perm h hr

/-- One assertion taken out of a list. -/
inductive Rem : List Asrt → Asrt → List Asrt → Prop
  | here {A L} : Rem (A :: L) A L
  | there {A B L M} : Rem L A M → Rem (B :: L) A (B :: M)

theorem Rem.perm {L M : List Asrt} {A : Asrt} (h : Rem L A M) : L.Perm (A :: M) := by
  induction h with
  | here => exact .refl _
  | there _ ih => exact (List.Perm.cons _ ih).trans (.swap _ _ _)

/-- Several assertions taken out of a list, in order. -/
inductive Takes : List Asrt → List Asrt → List Asrt → Prop
  | nil {L} : Takes L [] L
  | cons {L A M P R} : Rem L A M → Takes M P R → Takes L (A :: P) R

theorem Takes.perm {L P R : List Asrt} (h : Takes L P R) : L.Perm (P ++ R) := by
  induction h with
  | nil => exact .refl _
  | cons h _ ih => exact h.perm.trans (List.Perm.cons _ ih)

theorem Takes.ent {L P R : List Asrt} (h : Takes L P R) : Ent L (P ++ R) := .perm h.perm

theorem Takes.ent_l {L P R : List Asrt} (h : Takes L P R) : Ent L P := fun _ hr => by
  obtain ⟨a, b, hc, rfl, h1, _⟩ := sep_split (h.ent _ hr)
  rw [join_comm hc]; exact sep_grow hc.symm h1

/-- A part of a list gives way to another part. -/
theorem Takes.ent_of {L P R M : List Asrt} (h : Takes L P R) (e : Ent P M) : Ent L (M ++ R) := fun r hr => by
  obtain ⟨a, b, hc, rfl, h1, h2⟩ := sep_split (h.ent r hr)
  exact sep_append hc (e a h1) h2

theorem St.frame {F : Fr} {L P R : List Asrt} {w : World} (s : St F L w) (h : Takes L P R) :
    ∃ F', St F' P w ∧ ∀ L' w', St F' L' w' → St F (L' ++ R) w' := by
  obtain ⟨h1, h2, h3, r, hc, hf, hr, hs⟩ := s
  obtain ⟨a, b, hab, rfl, ha, hb⟩ := sep_split (h.ent r hs)
  have hFb : Compat F.res b := (hab.join_r hc.symm).symm
  have hFa : Compat F.res a := hc.symm.join_l.symm
  refine ⟨{ F with res := join F.res b }, ⟨h1, h2, h3, a, .of_join hFa hab.symm, hf.join (hr.right hab), hr.left, ha⟩, ?_⟩
  rintro L' w' ⟨k1, k2, k3, r', kc, kf, kr, ks⟩
  have hbr : Compat b r' := hFb.join_r kc
  exact ⟨k1, k2, k3, join r' b, (Compat.of_join kc.join_l.symm hFb.symm).symm, kf.left, kr.join (kf.right hFb), sep_append hbr.symm ks hb⟩

/-- An assertion as its parts. -/
theorem Ent.open_star {M L : List Asrt} : Ent (Star M :: L) (M ++ L) := fun _ hr => by
  obtain ⟨a, b, hc, rfl, h1, h2⟩ := hr
  exact sep_append hc h1 h2
theorem Ent.shut {P R : List Asrt} {A : Asrt} {L : List Asrt} (h : Takes L P R) (hA : ∀ r, sep P r → A r) : Ent L (A :: R) := fun _ hr => by
  obtain ⟨a, b, hc, rfl, h1, h2⟩ := sep_split (h.ent _ hr)
  exact ⟨a, b, hc, rfl, hA a h1, h2⟩
theorem Ent.nil {L : List Asrt} : Ent L [] := fun _ _ => trivial
theorem Ent.put {P R M L : List Asrt} {A : Asrt} (h : Takes L P R) (hA : ∀ r, sep P r → A r) (k : Ent R M) : Ent L (A :: M) := fun _ hr => by
  obtain ⟨a, b, hc, rfl, h1, h2⟩ := sep_split (h.ent _ hr)
  exact ⟨a, b, hc, rfl, hA a h1, k b h2⟩
theorem Ent.one {L R M : List Asrt} {A : Asrt} (h : Rem L A R) (k : Ent R M) : Ent L (A :: M) := fun r hr => by
  obtain ⟨a, b, hc, e, h1, h2⟩ := sep_perm h.perm hr
  exact ⟨a, b, hc, e, h1, k b h2⟩
theorem Ent.drop {A : Asrt} {L : List Asrt} : Ent (A :: L) L := fun _ h => sep_tail h
theorem Ent.cons {A : Asrt} {L M : List Asrt} (h : Ent L M) : Ent (A :: L) (A :: M) := fun r ⟨a, b, hc, e, h1, h2⟩ => ⟨a, b, hc, e, h1, h _ h2⟩

theorem sep_single {A : Asrt} {r : Res} (h : A r) : sep [A] r := by
  refine ⟨r, fun _ => none, ?_, ?_, h, trivial⟩
  · intro _ _ _ _ _ _ h; cases h
  · funext x; simp only [join]; split <;> simp_all
theorem Ent.star {L M : List Asrt} (h : Ent L M) : Ent L [Star M] := fun r hr => sep_single (h r hr)
theorem Ent.unstar {M : List Asrt} : Ent [Star M] M := fun r hr => by
  obtain ⟨a, b, hc, rfl, h1, h2⟩ := hr
  rw [join_comm hc]; exact sep_grow hc.symm h1
theorem Ent.star_cons {A : Asrt} {M : List Asrt} : Ent [Star (A :: M)] [A, Star M] := Ent.unstar.trans (Ent.cons (Ent.star (Ent.refl _)))
theorem Ent.cons_star {A : Asrt} {M : List Asrt} : Ent [A, Star M] [Star (A :: M)] := Ent.star (Ent.cons Ent.unstar)
theorem Ent.app {L M N : List Asrt} (h : Ent L M) : Ent (L ++ N) (M ++ N) := fun _ hr => by
  obtain ⟨a, b, hc, rfl, h1, h2⟩ := sep_split hr
  exact sep_append hc (h a h1) h2

/-! ### Blocks -/

class Find (L : List Asrt) (b : Nat) (p : outParam Bool) (o : outParam Obj) : Prop where
  out : ∀ r, sep L r → r b = some (p, o)

instance Find.skip {A : Asrt} {L : List Asrt} {b : Nat} {p : Bool} {o : Obj} [h : Find L b p o] : Find (A :: L) b p o where
  out := fun r hr => h.out r (sep_tail hr)
instance Find.bkp {L : List Asrt} {p : Bool} {b : Nat} {o : Obj} : Find (Bkp p b o :: L) b p o where
  out := fun r ⟨_, _, _, e, h1, _⟩ => by rw [e]; exact join_some h1

theorem St.find {F : Fr} {L : List Asrt} {w : World} (s : St F L w) {b : Nat} {p : Bool} {o : Obj} (h : Find L b p o) : w.heap[b]? = some o := by
  obtain ⟨_, _, _, r, _, _, hr, hs⟩ := s
  exact hr b p o (h.out r hs)

/-- The resource with block b written anew. -/
def Res.set (r : Res) (b : Nat) (o : Obj) : Res := fun x => if x = b then some (true, o) else r x

class Upd (L : List Asrt) (b : Nat) (o : Obj) (M : outParam (List Asrt)) : Prop where
  out : ∀ r, sep L r → (∃ o0, r b = some (true, o0)) ∧ sep M (Res.set r b o)

theorem Compat.set {r s : Res} {b : Nat} {o o0 : Obj} (h : Compat r s) (hb : r b = some (true, o0)) : Compat (Res.set r b o) s := by
  intro x p o1 q o2 h1 h2
  by_cases e : x = b
  · subst e
    obtain ⟨h, _⟩ := h x _ _ _ _ hb h2
    cases h
  · simp [Res.set, e] at h1
    exact h x p o1 q o2 h1 h2

theorem join_set_l {r s : Res} {b : Nat} {o : Obj} : join (Res.set r b o) s = Res.set (join r s) b o := by
  funext x
  by_cases e : x = b
  · subst e; simp [join, Res.set]
  · simp [join, Res.set, e]

theorem join_set_r {r s : Res} {b : Nat} {o : Obj} (h : r b = none) : join r (Res.set s b o) = Res.set (join r s) b o := by
  funext x
  by_cases e : x = b
  · subst e; simp [join, Res.set, h]
  · simp [join, Res.set, e]

theorem Compat.none_l {r s : Res} {b : Nat} {o : Obj} (h : Compat r s) (hb : s b = some (true, o)) : r b = none := by
  cases hr : r b with
  | none => rfl
  | some x =>
    obtain ⟨p, o'⟩ := x
    obtain ⟨_, h, _⟩ := h b p o' _ _ hr hb
    cases h

instance Upd.skip {A : Asrt} {L M : List Asrt} {b : Nat} {o : Obj} [h : Upd L b o M] : Upd (A :: L) b o (A :: M) where
  out := fun r ⟨a, l, hc, e, h1, h2⟩ => by
    obtain ⟨⟨o0, hb⟩, hM⟩ := h.out l h2
    have hn := hc.none_l hb
    refine ⟨⟨o0, by rw [e, join_none hn]; exact hb⟩, a, Res.set l b o, (hc.symm.set hb).symm, ?_, h1, hM⟩
    rw [e, join_set_r hn]
instance Upd.blk {L : List Asrt} {b : Nat} {o0 o : Obj} : Upd (Blk b o0 :: L) b o (Blk b o :: L) where
  out := fun r ⟨a, l, hc, e, h1, h2⟩ => by
    refine ⟨⟨o0, by rw [e]; exact join_some h1⟩, Res.set a b o, l, hc.set h1, ?_, by simp [Bkp, Res.set], h2⟩
    rw [e, join_set_l]

/-- The world with block b written anew. -/
def put (w : World) (b : Nat) (o : Obj) : World := { w with heap := w.heap.setIfInBounds b o }

theorem put_get {w : World} {b : Nat} {o : Obj} (h : b < w.heap.size) : (put w b o).heap[b]? = some o := by
  simp [put, h]
theorem put_ne {w : World} {b x : Nat} {o : Obj} (h : x ≠ b) : (put w b o).heap[x]? = w.heap[x]? := by
  simp [put, Ne.symm h]
theorem lt_of_get {w : World} {b : Nat} {o : Obj} (h : w.heap[b]? = some o) : b < w.heap.size := by
  rcases Nat.lt_or_ge b w.heap.size with h' | h'
  · exact h'
  · rw [Array.getElem?_eq_none h'] at h; cases h

theorem St.upd {F : Fr} {L M : List Asrt} {w : World} (s : St F L w) {b : Nat} {o : Obj} (h : Upd L b o M) : St F M (put w b o) := by
  obtain ⟨h1, h2, h3, r, hc, hf, hr, hs⟩ := s
  obtain ⟨⟨o0, hb⟩, hM⟩ := h.out r hs
  have hlt := lt_of_get (hr _ _ _ hb)
  refine ⟨h1, h2, by simpa [put] using h3, Res.set r b o, (hc.symm.set hb).symm, ?_, ?_, hM⟩
  · intro x p o' hx
    have hne : x ≠ b := by
      rintro rfl
      have := hc.none_l hb
      rw [this] at hx; cases hx
    rw [put_ne hne]; exact hf x p o' hx
  · intro x p o' hx
    by_cases e : x = b
    · subst e
      simp [Res.set] at hx
      rw [put_get hlt]; exact congrArg _ hx.2
    · simp [Res.set, e] at hx
      rw [put_ne e]; exact hr x p o' hx

theorem St.new {F : Fr} {L : List Asrt} {w : World} (s : St F L w) (o : Obj) : St F (Blk w.heap.size o :: L) { w with heap := w.heap.push o } := by
  obtain ⟨h1, h2, h3, r, hc, hf, hr, hs⟩ := s
  have hn : ∀ (t : Res), Sat t w → t w.heap.size = none := fun t ht => by
    cases h : t w.heap.size with
    | none => rfl
    | some x => have := lt_of_get (ht _ _ _ h); omega
  have keep : ∀ (t : Res), Sat t w → Sat t { w with heap := w.heap.push o } := fun t ht x p o' hx => by
    have hl := lt_of_get (ht x p o' hx)
    have := ht x p o' hx
    simp [Array.getElem?_push, Nat.ne_of_lt hl, this]
  let n : Res := fun x => if x = w.heap.size then some (true, o) else none
  have hnc : ∀ (t : Res), Sat t w → Compat n t := fun t ht x p o1 q o2 hx hx' => by
    have e : x = w.heap.size := by
      refine Decidable.byContradiction fun e => ?_
      simp [n, e] at hx
    subst e
    rw [hn t ht] at hx'; cases hx'
  refine ⟨h1, h2, ?_, join n r, (Compat.of_join (hnc _ hf) hc.symm).symm, keep _ hf, ?_, n, r, hnc _ hr, rfl, by simp [Bkp, n], hs⟩
  · simp; omega
  · refine Sat.join ?_ (keep _ hr)
    intro x p o' hx
    have e : x = w.heap.size := by
      refine Decidable.byContradiction fun e => ?_
      simp [n, e] at hx
    subst e
    simp [n] at hx
    simp [hx.2]

theorem St.drew {F : Fr} {L : List Asrt} {w : World} (s : St F L w) (n : Nat) : St F L { w with drawn := n } := s

/-- What is owned may be shared from now on. -/
theorem Ent.share {b : Nat} {o : Obj} {L : List Asrt} {r : Res} (h : sep (Blk b o :: L) r) :
    ∃ r', (∀ x, r' x = r x ∨ (r x = some (true, o) ∧ r' x = some (false, o) ∧ x = b)) ∧ sep (Sh b o :: L) r' := by
  obtain ⟨a, l, hc, rfl, h1, h2⟩ := h
  let a' : Res := fun x => if x = b then some (false, o) else a x
  have hlb : l b = none := hc.symm.none_l h1
  refine ⟨join a' l, fun x => ?_, a', l, ?_, rfl, by simp [Bkp, a'], h2⟩
  · by_cases e : x = b
    · subst e; exact .inr ⟨join_some h1, by simp [join, a'], rfl⟩
    · left; simp [join, a', e]
  · intro x p o1 q o2 hx hx'
    by_cases e : x = b
    · subst e; rw [hlb] at hx'; cases hx'
    · simp [a', e] at hx; exact hc x p o1 q o2 hx hx'

theorem St.share {F : Fr} {b : Nat} {o : Obj} {L R : List Asrt} {w : World} (s : St F L w) (h : Rem L (Blk b o) R) : St F (Sh b o :: R) w := by
  obtain ⟨h1, h2, h3, r, hc, hf, hr, hs⟩ := s
  have hs' := sep_perm h.perm hs
  have hb : r b = some (true, o) := (Find.bkp (L := R) (p := true) (b := b) (o := o)).out r hs'
  obtain ⟨r', hr', hs''⟩ := Ent.share hs'
  refine ⟨h1, h2, h3, r', ?_, hf, ?_, hs''⟩
  · intro x p o1 q o2 hx hx'
    rcases hr' x with e | ⟨e, e', rfl⟩
    · rw [e] at hx'; exact hc x p o1 q o2 hx hx'
    · rw [hc.none_l hb] at hx; cases hx
  · intro x p o1 hx
    rcases hr' x with e | ⟨e, e', rfl⟩
    · rw [e] at hx; exact hr x p o1 hx
    · rw [e'] at hx; cases hx; exact hr x _ _ hb

/-- What is shared may be told twice. -/
theorem Ent.dup {b : Nat} {o : Obj} {L : List Asrt} : Ent (Sh b o :: L) (Sh b o :: Sh b o :: L) := by
  intro r ⟨a, l, hc, e, h1, h2⟩
  let n : Res := fun x => if x = b then some (false, o) else none
  have hna : Compat n a := fun x p o1 q o2 hx hx' => by
    by_cases ex : x = b
    · subst ex; simp [n] at hx; rw [h1] at hx'; cases hx'; exact ⟨hx.1, rfl, hx.2.symm⟩
    · simp [n, ex] at hx
  have hnl : Compat n l := fun x p o1 q o2 hx hx' => by
    by_cases ex : x = b
    · subst ex; simp [n] at hx
      obtain ⟨_, hq, ho⟩ := hc x _ _ _ _ h1 hx'
      exact ⟨hx.1, hq, hx.2.symm.trans ho⟩
    · simp [n, ex] at hx
  refine ⟨n, join a l, (Compat.of_join hna.symm hnl.symm).symm, ?_, by simp [Bkp, n], a, l, hc, rfl, h1, h2⟩
  rw [e]; funext x
  by_cases ex : x = b
  · subst ex; simp [join, n, show a x = _ from h1]
  · simp [join, n, ex]

/-- What others share may be read. -/
theorem St.borrow {F : Fr} {b : Nat} {o : Obj} {L : List Asrt} {w : World} (s : St F L w) (h : F.res b = some (false, o)) : St F (Sh b o :: L) w := by
  obtain ⟨h1, h2, h3, r, hc, hf, hr, hs⟩ := s
  let n : Res := fun x => if x = b then some (false, o) else none
  have hnF : Compat n F.res := fun x p o1 q o2 hx hx' => by
    by_cases ex : x = b
    · subst ex; simp [n] at hx; rw [h] at hx'; cases hx'; exact ⟨hx.1, rfl, hx.2.symm⟩
    · simp [n, ex] at hx
  have hnr : Compat n r := fun x p o1 q o2 hx hx' => by
    by_cases ex : x = b
    · subst ex; simp [n] at hx
      obtain ⟨_, hq, ho⟩ := hc x _ _ _ _ h hx'
      exact ⟨hx.1, hq, hx.2.symm.trans ho⟩
    · simp [n, ex] at hx
  refine ⟨h1, h2, h3, join n r, (Compat.of_join hnF hc.symm).symm, hf, ?_, n, r, hnr, rfl, by simp [Bkp, n], hs⟩
  refine Sat.join ?_ hr
  intro x p o1 hx
  by_cases ex : x = b
  · subst ex; simp [n] at hx; rw [← hx.2]; exact hf x _ _ h
  · simp [n, ex] at hx

/-! ### Blocks that are held while a statement draws its order -/

def Bk (p : Bool) (b : Nat) (o : Obj) : Res := fun x => if x = b then some (p, o) else none
def Fr.lock (F : Fr) (p : Bool) (b : Nat) (o : Obj) (_ : Compat (Bk p b o) F.res) : Fr := { F with res := join (Bk p b o) F.res }

/-- Blk or Sh. -/
class AtB (A : Asrt) (p : outParam Bool) (b : outParam Nat) (o : outParam Obj) : Prop where
  eq : A = fun r => r b = some (p, o)
instance {p : Bool} {b : Nat} {o : Obj} : AtB (Bkp p b o) p b o := ⟨rfl⟩

theorem Bk_ent {p : Bool} {b : Nat} {o : Obj} {r : Res} (h : r b = some (p, o)) : ∃ r', Compat (Bk p b o) r' ∧ r = join (Bk p b o) r' := by
  refine ⟨fun x => if x = b then none else r x, ?_, ?_⟩
  · intro x q o1 q' o2 hx hx'
    by_cases e : x = b
    · subst e; simp at hx'
    · simp [Bk, e] at hx
  · funext x
    by_cases e : x = b
    · subst e; simp [join, Bk, h]
    · simp [join, Bk, e]

theorem St.lock {F : Fr} {A : Asrt} {p : Bool} {b : Nat} {o : Obj} {L R : List Asrt} {w : World} (s : St F L w) [ha : AtB A p b o] (h : Rem L A R) :
    ∃ hb : Compat (Bk p b o) F.res, St (F.lock p b o hb) R w := by
  obtain ⟨h1, h2, h3, r, hc, hf, hr, hs⟩ := s
  obtain ⟨u, v, huv, rfl, hA, hR⟩ := sep_perm h.perm hs
  have hub : u b = some (p, o) := by have := ha.eq; subst this; exact hA
  obtain ⟨u', hu, rfl⟩ := Bk_ent hub
  have hbF : Compat (Bk p b o) F.res := hc.symm.join_l.join_l
  have hbu'v : Compat (Bk p b o) (join u' v) := hu.rot' huv
  have hFr : Compat F.res (join u' v) := by
    rw [join_assoc] at hc; exact (hbu'v.join_r hc.symm).symm
  have hu'v : Compat u' v := hu.join_r huv
  refine ⟨hbF, h1, h2, h3, join u' v, .of_join hbu'v hFr, ?_, ?_, sep_grow hu'v hR⟩
  · exact Sat.join hr.left.left hf
  · rw [join_assoc] at hr; exact hr.right hbu'v

theorem St.unlock {F : Fr} {A : Asrt} {p : Bool} {b : Nat} {o : Obj} {L : List Asrt} {w : World} {hb : Compat (Bk p b o) F.res} (s : St (F.lock p b o hb) L w) [ha : AtB A p b o] : St F (A :: L) w := by
  obtain ⟨h1, h2, h3, r, hc, hf, hr, hs⟩ := s
  have hbr : Compat (Bk p b o) r := hc.join_l
  have hFr : Compat F.res r := hb.join_r hc
  refine ⟨h1, h2, h3, join (Bk p b o) r, (Compat.of_join hb hFr.symm).symm, hf.right hb, hf.left.join hr, Bk p b o, r, hbr, rfl, ?_, hs⟩
  have := ha.eq; subst this; simp [Bk]

class FFind (F : Fr) (b : Nat) (o : outParam Obj) : Prop where
  out : ∃ p, F.res b = some (p, o)
instance {F : Fr} {p : Bool} {b : Nat} {o : Obj} {hb : Compat (Bk p b o) F.res} : FFind (F.lock p b o hb) b o := ⟨p, join_some (by simp [Bk])⟩
instance (priority := low) {F : Fr} {p : Bool} {b c : Nat} {o o' : Obj} {hb : Compat (Bk p c o') F.res} [h : FFind F b o] : FFind (F.lock p c o' hb) b o := by
  obtain ⟨q, hq⟩ := h.out
  by_cases e : b = c
  · subst e
    obtain ⟨_, _, rfl⟩ := hb b p o' q o (by simp [Bk]) hq
    exact ⟨p, join_some (by simp [Bk])⟩
  · exact ⟨q, by show join (Bk p c o') F.res b = _; rw [join_none (by simp [Bk, e])]; exact hq⟩

/-- The same, of any number of blocks. -/
def Fr.bare (F : Fr) : Fr := { F with base := 0 }
instance {F : Fr} {b : Nat} {o : Obj} [h : FFind F b o] : FFind F.bare b o := ⟨h.out⟩

/-- Block b reads so in every world of the state. -/
class Has (F : Fr) (L : List Asrt) (b : Nat) (o : outParam Obj) : Prop where
  out : ∀ w, St F L w → w.heap[b]? = some o
instance {F : Fr} {L : List Asrt} {b : Nat} {p : Bool} {o : Obj} [h : Find L b p o] : Has F L b o := ⟨fun _ s => s.find h⟩
instance (priority := low) {F : Fr} {L : List Asrt} {b : Nat} {o : Obj} [h : FFind F b o] : Has F L b o := ⟨fun w s => by
  obtain ⟨_, _, _, _, _, hf, _, _⟩ := s
  obtain ⟨p, hp⟩ := h.out
  exact hf b p o hp⟩

end Go.Lun

/- Texts joined: Sl, Rnd, Go, Op, Mem, Pl, Lib1, Lib2, Lib3, Lib4, Lib5, Ext, Ext2, Def. -/
import Derived.Tactics
import Derived.Defers
import Derived.Below
import Derived.OrdersHeld
import Derived.Laws.Sem
import Derived.Laws.World
import Derived.RangeFuncLeaves
import Derived.TacticsIn
import Derived.OrdersIn
import Derived.KernelRfl
import Derived.Laws.BytesString
import Derived.Laws.Strings
import Derived.Laws.Concat
import Derived.Laws.LoneSync
/- Resources over the blocks of the heap: what is owned, what is shared, and lists of assertions that lie apart. -/
namespace Go.Lun

abbrev Res := Nat → Option (Bool × Obj)

def Compat (r s : Res) : Prop := ∀ b p o q o', r b = some (p, o) → s b = some (q, o') → p = false ∧ q = false ∧ o = o'
def join (r s : Res) : Res := fun b => match r b with
  | some x => some x
  | none => s b
def Sat (r : Res) (w : World) : Prop := ∀ b p o, r b = some (p, o) → w.heap[b]? = some o

theorem join_some {r s : Res} {b : Nat} {x : Bool × Obj} (h : r b = some x) : join r s b = some x := by simp [join, h]
theorem join_none {r s : Res} {b : Nat} (h : r b = none) : join r s b = s b := by simp [join, h]
theorem join_cases {r s : Res} {b : Nat} {x : Bool × Obj} (h : join r s b = some x) : r b = some x ∨ (r b = none ∧ s b = some x) := by
  cases hr : r b with
  | some y => rw [join_some hr] at h; exact .inl h
  | none => rw [join_none hr] at h; exact .inr ⟨rfl, h⟩

theorem Compat.symm {r s : Res} (h : Compat r s) : Compat s r := fun b p o q o' h1 h2 => by
  obtain ⟨a, c, d⟩ := h b q o' p o h2 h1
  exact ⟨c, a, d.symm⟩

theorem join_comm {r s : Res} (h : Compat r s) : join r s = join s r := by
  funext b
  cases hr : r b with
  | none => cases hs : s b with
    | none => simp [join, hr, hs]
    | some y => simp [join, hr, hs]
  | some x => cases hs : s b with
    | none => simp [join, hr, hs]
    | some y =>
      obtain ⟨p, o⟩ := x; obtain ⟨q, o'⟩ := y
      obtain ⟨rfl, rfl, rfl⟩ := h b p o q o' hr hs
      simp [join, hr, hs]

theorem join_assoc (r s t : Res) : join (join r s) t = join r (join s t) := by
  funext b
  cases hr : r b <;> simp [join, hr]

theorem Compat.join_l {r s t : Res} (h : Compat (join r s) t) : Compat r t := fun b p o q o' h1 h2 => h b p o q o' (join_some h1) h2
theorem Compat.join_r {r s t : Res} (hc : Compat r s) (h : Compat (join r s) t) : Compat s t := by
  rw [join_comm hc] at h; exact h.join_l
theorem Compat.of_join {r s t : Res} (h1 : Compat r t) (h2 : Compat s t) : Compat (join r s) t := fun b p o q o' h h' => by
  rcases join_cases h with h | ⟨_, h⟩
  · exact h1 b p o q o' h h'
  · exact h2 b p o q o' h h'
theorem Compat.rot {r s t : Res} (h : Compat s t) (h' : Compat r (join s t)) : Compat (join r s) t :=
  .of_join (Compat.join_r h h'.symm).symm h
theorem Compat.rot' {r s t : Res} (h : Compat r s) (h' : Compat (join r s) t) : Compat r (join s t) :=
  (Compat.of_join h.symm h'.join_l.symm).symm

theorem Sat.join {r s : Res} {w : World} (h : Sat r w) (h' : Sat s w) : Sat (join r s) w := fun b p o hb => by
  rcases join_cases hb with hb | ⟨_, hb⟩
  · exact h b p o hb
  · exact h' b p o hb
theorem Sat.left {r s : Res} {w : World} (h : Sat (Lun.join r s) w) : Sat r w := fun b p o hb => h b p o (join_some hb)
theorem Sat.right {r s : Res} {w : World} (hc : Compat r s) (h : Sat (Lun.join r s) w) : Sat s w := by
  rw [join_comm hc] at h; exact h.left

abbrev Asrt := Res → Prop

def sep : List Asrt → Res → Prop
  | [], _ => True
  | A :: L, r => ∃ r1 r2, Compat r1 r2 ∧ r = join r1 r2 ∧ A r1 ∧ sep L r2

theorem sep_grow {L : List Asrt} : ∀ {r s : Res}, Compat r s → sep L s → sep L (join r s) := by
  induction L with
  | nil => intros; trivial
  | cons A L ih =>
    intro r s hc h
    obtain ⟨r1, r2, hc', rfl, hA, hL⟩ := h
    have hr1 : Compat r r1 := hc.symm.join_l.symm
    have hr2 : Compat r r2 := (hc'.join_r hc.symm).symm
    refine ⟨r1, join r r2, ?_, ?_, hA, ih hr2 hL⟩
    · exact (Compat.of_join hr1 hc'.symm).symm
    · rw [← join_assoc, join_comm hr1, join_assoc]

theorem sep_append {L M : List Asrt} : ∀ {r s : Res}, Compat r s → sep L r → sep M s → sep (L ++ M) (join r s) := by
  induction L with
  | nil => intro r s hc _ h; exact sep_grow hc h
  | cons A L ih =>
    intro r s hc h hM
    obtain ⟨r1, r2, hc', rfl, hA, hL⟩ := h
    have h2 : Compat r2 s := hc'.join_r hc
    exact ⟨r1, join r2 s, hc'.rot' hc, (join_assoc ..), hA, ih h2 hL hM⟩

theorem sep_split {L M : List Asrt} : ∀ {r : Res}, sep (L ++ M) r → ∃ r1 r2, Compat r1 r2 ∧ r = join r1 r2 ∧ sep L r1 ∧ sep M r2 := by
  induction L with
  | nil =>
    intro r h
    refine ⟨fun _ => none, r, ?_, ?_, trivial, h⟩
    · intro b p o q o' h1; cases h1
    · funext b; simp [join]
  | cons A L ih =>
    intro r h
    obtain ⟨r1, r2, hc, rfl, hA, hL⟩ := h
    obtain ⟨s1, s2, hc', rfl, h1, h2⟩ := ih hL
    refine ⟨join r1 s1, s2, hc'.rot hc, (join_assoc ..).symm, ⟨r1, s1, hc.symm.join_l.symm, rfl, hA, h1⟩, h2⟩

theorem sep_swap {A B : Asrt} {L : List Asrt} {r : Res} (h : sep (A :: B :: L) r) : sep (B :: A :: L) r := by
  obtain ⟨a, x, hc, rfl, hA, b, l, hc', rfl, hB, hL⟩ := h
  have hab : Compat a b := hc.symm.join_l.symm
  have hal : Compat a l := (hc'.join_r hc.symm).symm
  refine ⟨b, join a l, ?_, ?_, hB, a, l, hal, rfl, hA, hL⟩
  · exact (Compat.of_join hab hc'.symm).symm
  · rw [← join_assoc, join_comm hab, join_assoc]

theorem sep_perm {L M : List Asrt} (h : L.Perm M) : ∀ {r : Res}, sep L r → sep M r := by
  induction h with
  | nil => intro r h; exact h
  | cons A _ ih => intro r ⟨a, l, hc, e, hA, hL⟩; exact ⟨a, l, hc, e, hA, ih hL⟩
  | swap A B L => intro r h; exact sep_swap h
  | trans _ _ ih1 ih2 => intro r h; exact ih2 (ih1 h)

theorem sep_tail {A : Asrt} {L : List Asrt} {r : Res} (h : sep (A :: L) r) : sep L r := by
  obtain ⟨a, l, hc, rfl, _, hL⟩ := h
  exact sep_grow hc hL

/-- Block b, owned or shared, is this. -/
def Bkp (p : Bool) (b : Nat) (o : Obj) : Asrt := fun r => r b = some (p, o)
/-- Block b is owned, and is this. -/
abbrev Blk (b : Nat) (o : Obj) : Asrt := Bkp true b o
/-- Block b is shared, and is this. -/
abbrev Sh (b : Nat) (o : Obj) : Asrt := Bkp false b o
/-- A list of assertions as one. -/
def Star (L : List Asrt) : Asrt := sep L

/-- What lies outside: the streams, how many blocks there were, what is owned by others. -/
structure Fr where
  os : Os
  out : Array (Nat × ByteArray)
  base : Nat
  res : Res
  /-- The round in whose frame the code runs, if it is one's. -/
  ro : Option Nat

def St (F : Fr) (L : List Asrt) (w : World) : Prop :=
  w.os = F.os ∧ w.output = F.out ∧ F.base ≤ w.heap.size ∧ ∃ r, Compat F.res r ∧ Sat F.res w ∧ Sat r w ∧ sep L r

def Ent (L M : List Asrt) : Prop := ∀ r, sep L r → sep M r

theorem St.ent {F : Fr} {L M : List Asrt} {w : World} (s : St F L w) (h : Ent L M) : St F M w := by
  obtain ⟨h1, h2, h3, r, hc, hf, hr, hs⟩ := s
  exact ⟨h1, h2, h3, r, hc, hf, hr, h r hs⟩

theorem Ent.refl (L : List Asrt) : Ent L L := fun _ h => h
theorem Ent.trans {L M N : List Asrt} (h : Ent L M) (h' : Ent M N) : Ent L N := fun r hr => h' r (h r hr)
theorem Ent.perm {L M : List Asrt} (h : L.Perm M) : Ent L M := fun _ hr => sep_perm h hr

/-- One assertion taken out of a list. -/
inductive Rem : List Asrt → Asrt → List Asrt → Prop
  | here {A L} : Rem (A :: L) A L
  | there {A B L M} : Rem L A M → Rem (B :: L) A (B :: M)

theorem Rem.perm {L M : List Asrt} {A : Asrt} (h : Rem L A M) : L.Perm (A :: M) := by
  induction h with
  | here => exact .refl _
  | there _ ih => exact (List.Perm.cons _ ih).trans (.swap _ _ _)

/-- Several assertions taken out of a list, in order. -/
inductive Takes : List Asrt → List Asrt → List Asrt → Prop
  | nil {L} : Takes L [] L
  | cons {L A M P R} : Rem L A M → Takes M P R → Takes L (A :: P) R

theorem Takes.perm {L P R : List Asrt} (h : Takes L P R) : L.Perm (P ++ R) := by
  induction h with
  | nil => exact .refl _
  | cons h _ ih => exact h.perm.trans (List.Perm.cons _ ih)

theorem Takes.ent {L P R : List Asrt} (h : Takes L P R) : Ent L (P ++ R) := .perm h.perm

/-- A part of a list gives way to another part. -/
theorem Takes.ent_of {L P R M : List Asrt} (h : Takes L P R) (e : Ent P M) : Ent L (M ++ R) := fun r hr => by
  obtain ⟨a, b, hc, rfl, h1, h2⟩ := sep_split (h.ent r hr)
  exact sep_append hc (e a h1) h2

theorem St.frame {F : Fr} {L P R : List Asrt} {w : World} (s : St F L w) (h : Takes L P R) :
    ∃ F', St F' P w ∧ ∀ L' w', St F' L' w' → St F (L' ++ R) w' := by
  obtain ⟨h1, h2, h3, r, hc, hf, hr, hs⟩ := s
  obtain ⟨a, b, hab, rfl, ha, hb⟩ := sep_split (h.ent r hs)
  have hFb : Compat F.res b := (hab.join_r hc.symm).symm
  have hFa : Compat F.res a := hc.symm.join_l.symm
  refine ⟨{ F with res := join F.res b }, ⟨h1, h2, h3, a, .of_join hFa hab.symm, hf.join (hr.right hab), hr.left, ha⟩, ?_⟩
  rintro L' w' ⟨k1, k2, k3, r', kc, kf, kr, ks⟩
  have hbr : Compat b r' := hFb.join_r kc
  exact ⟨k1, k2, k3, join r' b, (Compat.of_join kc.join_l.symm hFb.symm).symm, kf.left, kr.join (kf.right hFb), sep_append hbr.symm ks hb⟩

/-- An assertion as its parts. -/
theorem Ent.open_star {M L : List Asrt} : Ent (Star M :: L) (M ++ L) := fun _ hr => by
  obtain ⟨a, b, hc, rfl, h1, h2⟩ := hr
  exact sep_append hc h1 h2
theorem Ent.shut {P R : List Asrt} {A : Asrt} {L : List Asrt} (h : Takes L P R) (hA : ∀ r, sep P r → A r) : Ent L (A :: R) := fun _ hr => by
  obtain ⟨a, b, hc, rfl, h1, h2⟩ := sep_split (h.ent _ hr)
  exact ⟨a, b, hc, rfl, hA a h1, h2⟩
theorem Ent.nil {L : List Asrt} : Ent L [] := fun _ _ => trivial
theorem Ent.put {P R M L : List Asrt} {A : Asrt} (h : Takes L P R) (hA : ∀ r, sep P r → A r) (k : Ent R M) : Ent L (A :: M) := fun _ hr => by
  obtain ⟨a, b, hc, rfl, h1, h2⟩ := sep_split (h.ent _ hr)
  exact ⟨a, b, hc, rfl, hA a h1, k b h2⟩
theorem Ent.one {L R M : List Asrt} {A : Asrt} (h : Rem L A R) (k : Ent R M) : Ent L (A :: M) := fun r hr => by
  obtain ⟨a, b, hc, e, h1, h2⟩ := sep_perm h.perm hr
  exact ⟨a, b, hc, e, h1, k b h2⟩
theorem Ent.drop {A : Asrt} {L : List Asrt} : Ent (A :: L) L := fun _ h => sep_tail h
theorem Ent.cons {A : Asrt} {L M : List Asrt} (h : Ent L M) : Ent (A :: L) (A :: M) := fun r ⟨a, b, hc, e, h1, h2⟩ => ⟨a, b, hc, e, h1, h _ h2⟩

theorem sep_single {A : Asrt} {r : Res} (h : A r) : sep [A] r := by
  refine ⟨r, fun _ => none, ?_, ?_, h, trivial⟩
  · intro _ _ _ _ _ _ h; cases h
  · funext x; simp only [join]; split <;> simp_all
theorem Ent.star {L M : List Asrt} (h : Ent L M) : Ent L [Star M] := fun r hr => sep_single (h r hr)
theorem Ent.unstar {M : List Asrt} : Ent [Star M] M := fun r hr => by
  obtain ⟨a, b, hc, rfl, h1, h2⟩ := hr
  rw [join_comm hc]; exact sep_grow hc.symm h1
theorem Ent.star_cons {A : Asrt} {M : List Asrt} : Ent [Star (A :: M)] [A, Star M] := Ent.unstar.trans (Ent.cons (Ent.star (Ent.refl _)))
theorem Ent.cons_star {A : Asrt} {M : List Asrt} : Ent [A, Star M] [Star (A :: M)] := Ent.star (Ent.cons Ent.unstar)
theorem Ent.app {L M N : List Asrt} (h : Ent L M) : Ent (L ++ N) (M ++ N) := fun _ hr => by
  obtain ⟨a, b, hc, rfl, h1, h2⟩ := sep_split hr
  exact sep_append hc (h a h1) h2

/-! ### Blocks -/

class Find (L : List Asrt) (b : Nat) (p : outParam Bool) (o : outParam Obj) : Prop where
  out : ∀ r, sep L r → r b = some (p, o)

instance Find.skip {A : Asrt} {L : List Asrt} {b : Nat} {p : Bool} {o : Obj} [h : Find L b p o] : Find (A :: L) b p o where
  out := fun r hr => h.out r (sep_tail hr)
instance Find.bkp {L : List Asrt} {p : Bool} {b : Nat} {o : Obj} : Find (Bkp p b o :: L) b p o where
  out := fun r ⟨_, _, _, e, h1, _⟩ => by rw [e]; exact join_some h1

theorem St.find {F : Fr} {L : List Asrt} {w : World} (s : St F L w) {b : Nat} {p : Bool} {o : Obj} (h : Find L b p o) : w.heap[b]? = some o := by
  obtain ⟨_, _, _, r, _, _, hr, hs⟩ := s
  exact hr b p o (h.out r hs)

/-- The resource with block b written anew. -/
def Res.set (r : Res) (b : Nat) (o : Obj) : Res := fun x => if x = b then some (true, o) else r x

class Upd (L : List Asrt) (b : Nat) (o : Obj) (M : outParam (List Asrt)) : Prop where
  out : ∀ r, sep L r → (∃ o0, r b = some (true, o0)) ∧ sep M (Res.set r b o)

theorem Compat.set {r s : Res} {b : Nat} {o o0 : Obj} (h : Compat r s) (hb : r b = some (true, o0)) : Compat (Res.set r b o) s := by
  intro x p o1 q o2 h1 h2
  by_cases e : x = b
  · subst e
    obtain ⟨h, _⟩ := h x _ _ _ _ hb h2
    cases h
  · simp [Res.set, e] at h1
    exact h x p o1 q o2 h1 h2

theorem join_set_l {r s : Res} {b : Nat} {o : Obj} : join (Res.set r b o) s = Res.set (join r s) b o := by
  funext x
  by_cases e : x = b
  · subst e; simp [join, Res.set]
  · simp [join, Res.set, e]

theorem join_set_r {r s : Res} {b : Nat} {o : Obj} (h : r b = none) : join r (Res.set s b o) = Res.set (join r s) b o := by
  funext x
  by_cases e : x = b
  · subst e; simp [join, Res.set, h]
  · simp [join, Res.set, e]

theorem Compat.none_l {r s : Res} {b : Nat} {o : Obj} (h : Compat r s) (hb : s b = some (true, o)) : r b = none := by
  cases hr : r b with
  | none => rfl
  | some x =>
    obtain ⟨p, o'⟩ := x
    obtain ⟨_, h, _⟩ := h b p o' _ _ hr hb
    cases h

instance Upd.skip {A : Asrt} {L M : List Asrt} {b : Nat} {o : Obj} [h : Upd L b o M] : Upd (A :: L) b o (A :: M) where
  out := fun r ⟨a, l, hc, e, h1, h2⟩ => by
    obtain ⟨⟨o0, hb⟩, hM⟩ := h.out l h2
    have hn := hc.none_l hb
    refine ⟨⟨o0, by rw [e, join_none hn]; exact hb⟩, a, Res.set l b o, (hc.symm.set hb).symm, ?_, h1, hM⟩
    rw [e, join_set_r hn]
instance Upd.blk {L : List Asrt} {b : Nat} {o0 o : Obj} : Upd (Blk b o0 :: L) b o (Blk b o :: L) where
  out := fun r ⟨a, l, hc, e, h1, h2⟩ => by
    refine ⟨⟨o0, by rw [e]; exact join_some h1⟩, Res.set a b o, l, hc.set h1, ?_, by simp [Bkp, Res.set], h2⟩
    rw [e, join_set_l]

/-- The world with block b written anew. -/
def put (w : World) (b : Nat) (o : Obj) : World := { w with heap := w.heap.setIfInBounds b o }

theorem put_get {w : World} {b : Nat} {o : Obj} (h : b < w.heap.size) : (put w b o).heap[b]? = some o := by
  simp [put, h]
theorem put_ne {w : World} {b x : Nat} {o : Obj} (h : x ≠ b) : (put w b o).heap[x]? = w.heap[x]? := by
  simp [put, Ne.symm h]
theorem lt_of_get {w : World} {b : Nat} {o : Obj} (h : w.heap[b]? = some o) : b < w.heap.size := by
  rcases Nat.lt_or_ge b w.heap.size with h' | h'
  · exact h'
  · rw [Array.getElem?_eq_none h'] at h; cases h

theorem St.upd {F : Fr} {L M : List Asrt} {w : World} (s : St F L w) {b : Nat} {o : Obj} (h : Upd L b o M) : St F M (put w b o) := by
  obtain ⟨h1, h2, h3, r, hc, hf, hr, hs⟩ := s
  obtain ⟨⟨o0, hb⟩, hM⟩ := h.out r hs
  have hlt := lt_of_get (hr _ _ _ hb)
  refine ⟨h1, h2, by simpa [put] using h3, Res.set r b o, (hc.symm.set hb).symm, ?_, ?_, hM⟩
  · intro x p o' hx
    have hne : x ≠ b := by
      rintro rfl
      have := hc.none_l hb
      rw [this] at hx; cases hx
    rw [put_ne hne]; exact hf x p o' hx
  · intro x p o' hx
    by_cases e : x = b
    · subst e
      simp [Res.set] at hx
      rw [put_get hlt]; exact congrArg _ hx.2
    · simp [Res.set, e] at hx
      rw [put_ne e]; exact hr x p o' hx

theorem St.new {F : Fr} {L : List Asrt} {w : World} (s : St F L w) (o : Obj) : St F (Blk w.heap.size o :: L) { w with heap := w.heap.push o } := by
  obtain ⟨h1, h2, h3, r, hc, hf, hr, hs⟩ := s
  have hn : ∀ (t : Res), Sat t w → t w.heap.size = none := fun t ht => by
    cases h : t w.heap.size with
    | none => rfl
    | some x => have := lt_of_get (ht _ _ _ h); omega
  have keep : ∀ (t : Res), Sat t w → Sat t { w with heap := w.heap.push o } := fun t ht x p o' hx => by
    have hl := lt_of_get (ht x p o' hx)
    have := ht x p o' hx
    simp [Array.getElem?_push, Nat.ne_of_lt hl, this]
  let n : Res := fun x => if x = w.heap.size then some (true, o) else none
  have hnc : ∀ (t : Res), Sat t w → Compat n t := fun t ht x p o1 q o2 hx hx' => by
    have e : x = w.heap.size := by
      refine Decidable.byContradiction fun e => ?_
      simp [n, e] at hx
    subst e
    rw [hn t ht] at hx'; cases hx'
  refine ⟨h1, h2, ?_, join n r, (Compat.of_join (hnc _ hf) hc.symm).symm, keep _ hf, ?_, n, r, hnc _ hr, rfl, by simp [Bkp, n], hs⟩
  · simp; omega
  · refine Sat.join ?_ (keep _ hr)
    intro x p o' hx
    have e : x = w.heap.size := by
      refine Decidable.byContradiction fun e => ?_
      simp [n, e] at hx
    subst e
    simp [n] at hx
    simp [hx.2]

theorem St.drew {F : Fr} {L : List Asrt} {w : World} (s : St F L w) (n : Nat) : St F L { w with drawn := n } := s

/-- What is owned may be shared from now on. -/
theorem Ent.share {b : Nat} {o : Obj} {L : List Asrt} {r : Res} (h : sep (Blk b o :: L) r) :
    ∃ r', (∀ x, r' x = r x ∨ (r x = some (true, o) ∧ r' x = some (false, o) ∧ x = b)) ∧ sep (Sh b o :: L) r' := by
  obtain ⟨a, l, hc, rfl, h1, h2⟩ := h
  let a' : Res := fun x => if x = b then some (false, o) else a x
  have hlb : l b = none := hc.symm.none_l h1
  refine ⟨join a' l, fun x => ?_, a', l, ?_, rfl, by simp [Bkp, a'], h2⟩
  · by_cases e : x = b
    · subst e; exact .inr ⟨join_some h1, by simp [join, a'], rfl⟩
    · left; simp [join, a', e]
  · intro x p o1 q o2 hx hx'
    by_cases e : x = b
    · subst e; rw [hlb] at hx'; cases hx'
    · simp [a', e] at hx; exact hc x p o1 q o2 hx hx'

theorem St.share {F : Fr} {b : Nat} {o : Obj} {L R : List Asrt} {w : World} (s : St F L w) (h : Rem L (Blk b o) R) : St F (Sh b o :: R) w := by
  obtain ⟨h1, h2, h3, r, hc, hf, hr, hs⟩ := s
  have hs' := sep_perm h.perm hs
  have hb : r b = some (true, o) := (Find.bkp (L := R) (p := true) (b := b) (o := o)).out r hs'
  obtain ⟨r', hr', hs''⟩ := Ent.share hs'
  refine ⟨h1, h2, h3, r', ?_, hf, ?_, hs''⟩
  · intro x p o1 q o2 hx hx'
    rcases hr' x with e | ⟨e, e', rfl⟩
    · rw [e] at hx'; exact hc x p o1 q o2 hx hx'
    · rw [hc.none_l hb] at hx; cases hx
  · intro x p o1 hx
    rcases hr' x with e | ⟨e, e', rfl⟩
    · rw [e] at hx; exact hr x p o1 hx
    · rw [e'] at hx; cases hx; exact hr x _ _ hb

/-- What is shared may be told twice. -/
theorem Ent.dup {b : Nat} {o : Obj} {L : List Asrt} : Ent (Sh b o :: L) (Sh b o :: Sh b o :: L) := by
  intro r ⟨a, l, hc, e, h1, h2⟩
  let n : Res := fun x => if x = b then some (false, o) else none
  have hna : Compat n a := fun x p o1 q o2 hx hx' => by
    by_cases ex : x = b
    · subst ex; simp [n] at hx; rw [h1] at hx'; cases hx'; exact ⟨hx.1, rfl, hx.2.symm⟩
    · simp [n, ex] at hx
  have hnl : Compat n l := fun x p o1 q o2 hx hx' => by
    by_cases ex : x = b
    · subst ex; simp [n] at hx
      obtain ⟨_, hq, ho⟩ := hc x _ _ _ _ h1 hx'
      exact ⟨hx.1, hq, hx.2.symm.trans ho⟩
    · simp [n, ex] at hx
  refine ⟨n, join a l, (Compat.of_join hna.symm hnl.symm).symm, ?_, by simp [Bkp, n], a, l, hc, rfl, h1, h2⟩
  rw [e]; funext x
  by_cases ex : x = b
  · subst ex; simp [join, n, show a x = _ from h1]
  · simp [join, n, ex]

/-! ### Blocks that are held while a statement draws its order -/

def Bk (p : Bool) (b : Nat) (o : Obj) : Res := fun x => if x = b then some (p, o) else none
def Fr.lock (F : Fr) (p : Bool) (b : Nat) (o : Obj) (_ : Compat (Bk p b o) F.res) : Fr := { F with res := join (Bk p b o) F.res }

/-- Blk or Sh. -/
class AtB (A : Asrt) (p : outParam Bool) (b : outParam Nat) (o : outParam Obj) : Prop where
  eq : A = fun r => r b = some (p, o)
instance {p : Bool} {b : Nat} {o : Obj} : AtB (Bkp p b o) p b o := ⟨rfl⟩

theorem Bk_ent {p : Bool} {b : Nat} {o : Obj} {r : Res} (h : r b = some (p, o)) : ∃ r', Compat (Bk p b o) r' ∧ r = join (Bk p b o) r' := by
  refine ⟨fun x => if x = b then none else r x, ?_, ?_⟩
  · intro x q o1 q' o2 hx hx'
    by_cases e : x = b
    · subst e; simp at hx'
    · simp [Bk, e] at hx
  · funext x
    by_cases e : x = b
    · subst e; simp [join, Bk, h]
    · simp [join, Bk, e]

theorem St.lock {F : Fr} {A : Asrt} {p : Bool} {b : Nat} {o : Obj} {L R : List Asrt} {w : World} (s : St F L w) [ha : AtB A p b o] (h : Rem L A R) :
    ∃ hb : Compat (Bk p b o) F.res, St (F.lock p b o hb) R w := by
  obtain ⟨h1, h2, h3, r, hc, hf, hr, hs⟩ := s
  obtain ⟨u, v, huv, rfl, hA, hR⟩ := sep_perm h.perm hs
  have hub : u b = some (p, o) := by have := ha.eq; subst this; exact hA
  obtain ⟨u', hu, rfl⟩ := Bk_ent hub
  have hbF : Compat (Bk p b o) F.res := hc.symm.join_l.join_l
  have hbu'v : Compat (Bk p b o) (join u' v) := hu.rot' huv
  have hFr : Compat F.res (join u' v) := by
    rw [join_assoc] at hc; exact (hbu'v.join_r hc.symm).symm
  have hu'v : Compat u' v := hu.join_r huv
  refine ⟨hbF, h1, h2, h3, join u' v, .of_join hbu'v hFr, ?_, ?_, sep_grow hu'v hR⟩
  · exact Sat.join hr.left.left hf
  · rw [join_assoc] at hr; exact hr.right hbu'v

theorem St.unlock {F : Fr} {A : Asrt} {p : Bool} {b : Nat} {o : Obj} {L : List Asrt} {w : World} {hb : Compat (Bk p b o) F.res} (s : St (F.lock p b o hb) L w) [ha : AtB A p b o] : St F (A :: L) w := by
  obtain ⟨h1, h2, h3, r, hc, hf, hr, hs⟩ := s
  have hbr : Compat (Bk p b o) r := hc.join_l
  have hFr : Compat F.res r := hb.join_r hc
  refine ⟨h1, h2, h3, join (Bk p b o) r, (Compat.of_join hb hFr.symm).symm, hf.right hb, hf.left.join hr, Bk p b o, r, hbr, rfl, ?_, hs⟩
  have := ha.eq; subst this; simp [Bk]

class FFind (F : Fr) (b : Nat) (o : outParam Obj) : Prop where
  out : ∃ p, F.res b = some (p, o)
instance {F : Fr} {p : Bool} {b : Nat} {o : Obj} {hb : Compat (Bk p b o) F.res} : FFind (F.lock p b o hb) b o := ⟨p, join_some (by simp [Bk])⟩
instance (priority := low) {F : Fr} {p : Bool} {b c : Nat} {o o' : Obj} {hb : Compat (Bk p c o') F.res} [h : FFind F b o] : FFind (F.lock p c o' hb) b o := by
  obtain ⟨q, hq⟩ := h.out
  by_cases e : b = c
  · subst e
    obtain ⟨_, _, rfl⟩ := hb b p o' q o (by simp [Bk]) hq
    exact ⟨p, join_some (by simp [Bk])⟩
  · exact ⟨q, by show join (Bk p c o') F.res b = _; rw [join_none (by simp [Bk, e])]; exact hq⟩

/-- The same, of any number of blocks. -/
def Fr.bare (F : Fr) : Fr := { F with base := 0 }
instance {F : Fr} {b : Nat} {o : Obj} [h : FFind F b o] : FFind F.bare b o := ⟨h.out⟩

/-- Block b reads so in every world of the state. -/
class Has (F : Fr) (L : List Asrt) (b : Nat) (o : outParam Obj) : Prop where
  out : ∀ w, St F L w → w.heap[b]? = some o
instance {F : Fr} {L : List Asrt} {b : Nat} {p : Bool} {o : Obj} [h : Find L b p o] : Has F L b o := ⟨fun _ s => s.find h⟩
instance (priority := low) {F : Fr} {L : List Asrt} {b : Nat} {o : Obj} [h : FFind F b o] : Has F L b o := ⟨fun w s => by
  obtain ⟨_, _, _, _, _, hf, _, _⟩ := s
  obtain ⟨p, hp⟩ := h.out
  exact hf b p o hp⟩

end Go.Lun

/- Code that runs in a function's own frame, or in the frame of a round of a range over a function. -/
namespace Go.Lun

abbrev Post := Exit → Act → World → Prop

/-- Every machine is let in; the frame is a round's, or none's. -/
def fe (ro : Option Nat) : Fence := { Fence.wide with round := ro }
theorem fe_fn (ro : Option Nat) (f : FuncId) : (fe ro).fn f := trivial
theorem fe_room (ro : Option Nat) (n : Nat) : (fe ro).room n := fun _ h => by cases h
theorem fe_depth {ro : Option Nat} {p : Prop} : ((fe ro).depth.isSome = true → p) := fun h => by cases h
/-- Code, in such a frame. -/
abbrev wpr (ro : Option Nat) (P : Program) (c : Code) (Q : Post) (a : Act) (w : World) : Prop := c.wpIn (fe ro) 0 P Q a w
theorem wpr_none {P : Program} {c : Code} {Q : Post} {a : Act} {w : World} : wpr none P c Q a w ↔ c.wp P Q a w := wpIn_wide

theorem callsIn_fe {ro : Option Nat} {n : Nat} {P : Program} {f : FuncId} {args : Array Value} {w : World} {R : Ending → World → Prop} (h : Calls P f args w R) : CallsIn (fe ro) n P f args w R :=
  (callsIn_wide (n := n)).2 h
theorem rowsIn_fe {ro : Option Nat} {n : Nat} {P : Program} {row : String} {args : Array Value} {w : World} {R : Value → World → Prop} (h : Rows P row args w R) : RowsIn (fe ro) n P row args w R :=
  fun c cs _ => let ⟨v, w', r, s⟩ := h c cs; ⟨v, w', r, stepsIn_wide.2 s⟩

/-- Nothing is let out for want of memory. -/
class NoOut (Q : Post) : Prop where
  out : ∀ a w, ¬ Q .outgrown a w
instance {K : Act → World → Prop} {Q : Post} [h : NoOut Q] : NoOut (Exit.then K Q) := ⟨fun a w k => h.out a w k⟩
instance {id : Nat} {Q : Post} [h : NoOut Q] : NoOut (Exit.inBlock id Q) := ⟨fun a w k => h.out a w k⟩
theorem NoOut.lets {Q : Post} [h : NoOut Q] : ¬ LetsOut Q := fun ⟨a, w, k⟩ => h.out a w k

def noDef (l : List Oper) : Bool := l.all fun o => match o.op with
  | .defer _ => false
  | _ => true
theorem noDef_at {l : List Oper} (h : noDef l = true) {o : Oper} (ho : o ∈ l) : ∀ c, o.op ≠ .defer c := fun c e => by
  have := List.all_eq_true.1 h o ho
  rw [e] at this; cases this

theorem op_in {ro : Option Nat} {P : Program} {o : Oper} {a : Act} {w : World} {K : Act → World → Prop} {Q : Post} (hnd : ∀ c, o.op ≠ .defer c) (h : o.wp P a w K Q) : o.wpIn (fe ro) 0 P a w K Q := by
  refine ⟨fun _ _ => trivial, ?_⟩
  rw [Oper.semAt_eq _ _ _ hnd]
  unfold Oper.wp at h
  generalize (execOp a.eval o).run P w = r at h ⊢
  cases r with
  | ok x w' =>
    cases x with
    | value v => exact h
    | skip => exact h
    | defer d => exact h
    | enter f args => exact ⟨fe_depth, CallsIn.mono (callsIn_fe h) (fun e w'' he => by cases e <;> exact he)⟩
    | row row args => exact ⟨fe_depth, rowsIn_fe h⟩
    | _ => exact h.elim
  | halt x w' => cases x <;> exact h

theorem list_in {ro : Option Nat} {P : Program} {ops : Array Oper} {Q : Post} [NoOut Q] : ∀ {l : List Oper} {a : Act} {w : World}, (∀ o ∈ l, ∀ c, o.op ≠ .defer c) → wpList P ops Q l a w → wpListIn (fe ro) 0 P ops Q l a w
  | [], _, _, _, h => h
  | o :: l, a, w, hd, h => by
    unfold wpList at h
    unfold wpListIn
    split
    · rename_i hw
      rw [if_pos hw] at h
      have h := h.resolve_right (fun x => NoOut.lets x.2)
      exact Oper.wpIn_mono (fun a w hk => list_in (fun o ho => hd o (by simp [ho])) hk) (op_in (hd o (by simp)) h)
    · rename_i hw
      rw [if_neg hw] at h
      exact ⟨fun _ _ => trivial, list_in (fun o ho => hd o (by simp [ho])) h⟩

theorem any_in {ro : Option Nat} {P : Program} {ops : Array Oper} {Q : Post} [NoOut Q] (hd : ∀ o ∈ ops.toList, ∀ c, o.op ≠ .defer c) : ∀ {fuel : Nat} {listed : Array Bool} {a : Act} {w : World},
    wpAny P .any ops Q fuel listed a w → wpAnyIn (fe ro) 0 P .any ops Q fuel listed a w
  | 0, _, _, _, h => h
  | fuel + 1, listed, a, w, h => by
    refine ⟨h.1, fun i hi => ?_⟩
    have h := h.2 i hi
    unfold wpOp at h
    unfold wpOpIn
    split
    · rename_i e; rw [e] at h; exact any_in hd h
    · rename_i o e
      rw [e] at h
      have hm : o ∈ ops.toList := by
        obtain ⟨hlt, rfl⟩ := Array.getElem?_eq_some_iff.1 e
        exact Array.mem_toList_iff.2 (Array.getElem_mem hlt)
      dsimp only at h
      split
      · rename_i hw
        rw [if_pos hw] at h
        have h := h.resolve_right (fun x => NoOut.lets x.2)
        exact Oper.wpIn_mono (fun a w hk => any_in hd hk) (op_in (hd o hm) h)
      · rename_i hw
        rw [if_neg hw] at h
        exact ⟨fun _ _ => trivial, any_in hd h⟩

theorem wpr_region {ro : Option Nat} {P : Program} {Q : Post} [NoOut Q] {id : Nat} {l : List Oper} {a : Act} {w : World} (hd : noDef l = true) (h : wpList P l.toArray Q l a w) : wpr ro P (.region id l.toArray false) Q a w :=
  wpIn_region_lit (list_in (fun _ ho => noDef_at hd ho) h)
theorem wpr_draw {ro : Option Nat} {P : Program} {Q : Post} [NoOut Q] {id : Nat} {ops : Array Oper} {a : Act} {w : World} (hm : P.follows .mixedOrders = true) (hd : noDef ops.toList = true)
    (h : wpAny P .any ops Q ops.size (Array.replicate ops.size false) a { w with drawn := w.drawn + 1 }) : wpr ro P (.region id ops true) Q a w :=
  wpIn_region_any hm (any_in (fun _ ho => noDef_at hd ho) h)
end Go.Lun

/- Judgements over a symbolic state: what is owned (a list of assertions), and what the temporaries hold (a list of pairs). -/
namespace Go.Lun

abbrev Env := List (Nat × Value)
def look : Env → Nat → Option Value
  | [], _ => none
  | (k, v) :: e, t => bif Nat.beq k t then some v else look e t

theorem beq_ff {a b : Nat} (h : a ≠ b) : Nat.beq a b = false := by
  cases hb : Nat.beq a b with
  | true => exact absurd (Nat.eq_of_beq_eq_true hb) h
  | false => rfl
theorem of_beq_ff {a b : Nat} (h : Nat.beq a b = false) : a ≠ b := Nat.ne_of_beq_eq_false h

structure Ok (n : Nat) (ds : List Deferred) (env : Env) (a : Act) : Prop where
  size : a.tmps.size = n
  defers : a.defers = ds
  val : ∀ t v, look env t = some v → a.tmps[t]? = some v

def ev (env : Env) : Operand → Option Value
  | .tmp t => look env t
  | .const v => some v
  | .global g => some (.pointer (some ⟨g, 0, none⟩))
  | .func f => some (.func (.func f) #[] #[])

theorem Ok.ev {n : Nat} {ds : List Deferred} {env : Env} {a : Act} (h : Ok n ds env a) {x : Operand} {v : Value} (hx : ev env x = some v) : a.eval x = v := by
  cases x with
  | tmp t => simp [Act.eval, h.val t v hx]
  | const u => simpa [Lun.ev, Act.eval] using hx
  | global g => simpa [Lun.ev, Act.eval] using hx
  | func f => simpa [Lun.ev, Act.eval] using hx

/-- Several operands' values. -/
def evs (env : Env) : List Operand → Option (List Value)
  | [] => some []
  | x :: r => match ev env x with
    | some v => match evs env r with
      | some vs => some (v :: vs)
      | none => none
    | none => none

theorem Ok.evs {n : Nat} {ds : List Deferred} {env : Env} {a : Act} (h : Ok n ds env a) : ∀ {l : List Operand} {vs : List Value}, evs env l = some vs → l.map a.eval = vs
  | [], vs, e => by simpa [Lun.evs] using e
  | x :: r, vs, e => by
    simp only [Lun.evs] at e
    cases hx : Lun.ev env x with
    | none => rw [hx] at e; cases e
    | some v =>
      rw [hx] at e
      cases hr : Lun.evs env r with
      | none => rw [hr] at e; cases e
      | some us => rw [hr] at e; simp at e; subst e; simp [h.ev hx, h.evs hr]
theorem Ok.evsA {n : Nat} {ds : List Deferred} {env : Env} {a : Act} (h : Ok n ds env a) {l : Array Operand} {vs : List Value} (e : Lun.evs env l.toList = some vs) : l.map a.eval = ⟨vs⟩ := by
  apply Array.ext'
  simp [h.evs e]

def putE (env : Env) : Option Tmp → Value → Env
  | some d, v => (d, v) :: env
  | none, _ => env
def fits (n : Nat) : Option Tmp → Bool
  | some d => Nat.blt d n
  | none => true

theorem Ok.put {n : Nat} {ds : List Deferred} {env : Env} {a : Act} (h : Ok n ds env a) {d : Option Tmp} (hd : fits n d = true) (v : Value) : Ok n ds (putE env d v) (a.put d v) := by
  cases d with
  | none => exact h
  | some d =>
    have hlt : d < n := by simpa [fits, Nat.blt_eq] using hd
    refine ⟨by simp [Act.put, h.size], h.defers, fun t u ht => ?_⟩
    simp only [putE, look] at ht
    by_cases e : d = t
    · subst e; simp [Nat.beq_refl] at ht; subst ht; simp [Act.put, h.size, hlt]
    · have hb := beq_ff e
      rw [hb] at ht
      simp [Act.put, Array.getElem?_setIfInBounds_ne e]; exact h.val t u ht

theorem Ok.weaken {n : Nat} {ds : List Deferred} {env env' : Env} {a : Act} (h : Ok n ds env a) (hw : ∀ t v, look env' t = some v → look env t = some v) : Ok n ds env' a :=
  ⟨h.size, h.defers, fun t v ht => h.val t v (hw t v ht)⟩


structure OpsJ (P : Program) (n : Nat) (ds : List Deferred) (F : Fr) (L : List Asrt) (env : Env) (ops : Array Oper) (l : List Oper) (Q : Post) : Prop where
  out : ∀ w a, St F L w → Ok n ds env a → wpList P ops Q l a w
structure CodeJ (P : Program) (n : Nat) (ds : List Deferred) (F : Fr) (L : List Asrt) (env : Env) (c : Code) (Q : Post) : Prop where
  out : ∀ w a, St F L w → Ok n ds env a → wpr F.ro P c Q a w
structure FinJ (P : Program) (n : Nat) (ds : List Deferred) (F : Fr) (L : List Asrt) (env : Env) (e : Exit) (Q : Post) : Prop where
  out : ∀ w a, St F L w → Ok n ds env a → Q e a w

section
variable {P : Program} {n : Nat} {ds : List Deferred} {F : Fr} {L : List Asrt} {env : Env} {Q : Post}

/-! ### Code -/

theorem c_seq {x y : Code} (h : CodeJ P n ds F L env x (Exit.then (wpr F.ro P y Q) Q)) : CodeJ P n ds F L env (.seq x y) Q :=
  .mk fun w a s o => wpIn_seq (h.out w a s o)
theorem c_skip (h : FinJ P n ds F L env .normal Q) : CodeJ P n ds F L env .skip Q := .mk fun w a s o => wpIn_skip (h.out w a s o)
theorem c_ret (h : FinJ P n ds F L env .ret Q) : CodeJ P n ds F L env .ret Q := .mk fun w a s o => wpIn_ret (h.out w a s o)
theorem c_exit {id : Nat} (h : FinJ P n ds F L env (.exit id) Q) : CodeJ P n ds F L env (.exit id) Q := .mk fun w a s o => wpIn_exit (h.out w a s o)
theorem c_block {id : Nat} {c : Code} (h : CodeJ P n ds F L env c (Exit.inBlock id Q)) : CodeJ P n ds F L env (.block id c) Q :=
  .mk fun w a s o => wpIn_block (h.out w a s o)
theorem c_cond {c : Operand} {x y : Code} {b : Bool} (hc : ev env c = some (.bool b)) (ht : b = true → CodeJ P n ds F L env x Q)
    (hf : b = false → CodeJ P n ds F L env y Q) : CodeJ P n ds F L env (.cond c x y) Q := .mk fun w a s o =>
  wpIn_cond_split (o.ev hc) (fun e => (ht e).out w a s o) (fun e => (hf e).out w a s o)
theorem c_true {c : Operand} {x y : Code} (hc : ev env c = some (.bool true)) (h : CodeJ P n ds F L env x Q) : CodeJ P n ds F L env (.cond c x y) Q :=
  c_cond hc (fun _ => h) (fun e => by cases e)
theorem c_false {c : Operand} {x y : Code} (hc : ev env c = some (.bool false)) (h : CodeJ P n ds F L env y Q) : CodeJ P n ds F L env (.cond c x y) Q :=
  c_cond hc (fun e => by cases e) (fun _ => h)
theorem c_region {id : Nat} {l : List Oper} [hQ : NoOut Q] (h : OpsJ P n ds F L env l.toArray l Q) (hnd : noDef l = true := by kernel_rfl) : CodeJ P n ds F L env (.region id l.toArray false) Q :=
  .mk fun w a s o => wpr_region hnd (h.out w a s o)

/-- From the head of a loop's next round. -/
def LoopWp (ro : Option Nat) (P : Program) (c : Code) (Q : Post) (a : Act) (w : World) : Prop :=
  ∀ (b : Frame) (k : List Item) (cs : List Frame), b.roundOf = ro → ∃ e a' w', Q e a' w' ∧ ArrivesIn (Machine.fenced P (fe ro)) P (lone (b.atR a (.inLoop c :: k)) cs w) b k cs e a' w'
/-- What a round leaves: the next round, or the loop's end. -/
def Round (ro : Option Nat) (P : Program) (c : Code) (Q : Post) : Post := Exit.then (LoopWp ro P c Q) Q
instance {ro : Option Nat} {c : Code} [h : NoOut Q] : NoOut (Round ro P c Q) := ⟨fun a w k => h.out a w k⟩

theorem round_both {ro : Option Nat} {c : Code} {a : Act} {w : World} (h : wpr ro P c (Round ro P c Q) a w) :
    ∀ (b : Frame) (k : List Item) (cs : List Frame), b.roundOf = ro → ∃ e a' w', Q e a' w' ∧ ArrivesIn (Machine.fenced P (fe ro)) P (lone (b.atR a (.code c :: .inLoop c :: k)) cs w) b k cs e a' w' := by
  intro b k cs hb
  obtain ⟨e, a₁, w₁, hq, harr⟩ := h b (.inLoop c :: k) cs hb trivial (fe_room ro _)
  cases e with
  | normal =>
    obtain ⟨e₂, a₂, w₂, hq₂, harr₂⟩ := hq b k cs hb
    exact ⟨e₂, a₂, w₂, hq₂, .of_steps harr harr₂⟩
  | exit id => exact ⟨_, a₁, w₁, hq, .pass (x := .inLoop c) rfl (fun _ _ => .inl (by simp)) harr⟩
  | goto l => exact ⟨_, a₁, w₁, hq, .pass (x := .inLoop c) rfl (fun _ _ => .inl (by simp)) harr⟩
  | ret => exact ⟨_, a₁, w₁, hq, .pass (x := .inLoop c) rfl (fun _ _ => .inl (by simp)) harr⟩
  | panic ch => exact ⟨_, a₁, w₁, hq, .pass (x := .inLoop c) rfl (fun _ _ => .inl (by simp)) harr⟩
  | outgrown => exact ⟨_, a₁, w₁, hq, .pass (x := .inLoop c) rfl (fun _ _ => .inl (by simp)) harr⟩

theorem c_loop {c : Code} (h : CodeJ P n ds F L env c (Round F.ro P c Q)) : CodeJ P n ds F L env (.loop c) Q := .mk fun w a s o b k cs hb hf hr => by
  obtain ⟨e, a', w', hq, harr⟩ := round_both (h.out w a s o) b k cs hb
  exact ⟨e, a', w', hq, .of_steps (.one (fenced_calm hf hr rfl) stepR_loop) harr⟩
theorem f_round {c : Code} (h : CodeJ P n ds F L env c (Round F.ro P c Q)) : FinJ P n ds F L env .normal (Round F.ro P c Q) := .mk fun w a s o b k cs hb => by
  obtain ⟨e, a', w', hq, harr⟩ := round_both (h.out w a s o) b k cs hb
  exact ⟨e, a', w', hq, .of_steps (.one (fenced_calm (n := 0) (fe_fn F.ro b.fn) (fe_room F.ro _) rfl) stepR_inLoop) harr⟩
theorem f_seq {y : Code} (h : CodeJ P n ds F L env y Q) : FinJ P n ds F L env .normal (Exit.then (wpr F.ro P y Q) Q) := .mk fun w a s o => h.out w a s o
theorem f_seq_ret {K : Act → World → Prop} (h : FinJ P n ds F L env .ret Q) : FinJ P n ds F L env .ret (Exit.then K Q) := .mk fun w a s o => h.out w a s o
theorem f_seq_exit {K : Act → World → Prop} {id : Nat} (h : FinJ P n ds F L env (.exit id) Q) : FinJ P n ds F L env (.exit id) (Exit.then K Q) := .mk fun w a s o => h.out w a s o
theorem f_block {id : Nat} (h : FinJ P n ds F L env .normal Q) : FinJ P n ds F L env .normal (Exit.inBlock id Q) := .mk fun w a s o => h.out w a s o
theorem f_block_ret {id : Nat} (h : FinJ P n ds F L env .ret Q) : FinJ P n ds F L env .ret (Exit.inBlock id Q) := .mk fun w a s o => h.out w a s o
theorem f_block_here {id : Nat} (h : FinJ P n ds F L env .normal Q) : FinJ P n ds F L env (.exit id) (Exit.inBlock id Q) := .mk fun w a s o => by
  simp only [Exit.inBlock, if_true]; exact h.out w a s o
/-! ### A state may be told otherwise -/

theorem c_ent {c : Code} {M : List Asrt} (h : Ent L M) (k : CodeJ P n ds F M env c Q) : CodeJ P n ds F L env c Q := .mk fun w a s o => k.out w a (s.ent h) o
theorem o_ent {ops : Array Oper} {l : List Oper} {M : List Asrt} (h : Ent L M) (k : OpsJ P n ds F M env ops l Q) : OpsJ P n ds F L env ops l Q := .mk fun w a s o => k.out w a (s.ent h) o
theorem f_ent {e : Exit} {M : List Asrt} (h : Ent L M) (k : FinJ P n ds F M env e Q) : FinJ P n ds F L env e Q := .mk fun w a s o => k.out w a (s.ent h) o
theorem c_env {c : Code} {env' : Env} (h : ∀ t v, look env' t = some v → look env t = some v) (k : CodeJ P n ds F L env' c Q) : CodeJ P n ds F L env c Q :=
  .mk fun w a s o => k.out w a s (o.weaken h)

/-- A list of pairs of which only some are kept. -/
def keepE (env : Env) : List Nat → Env
  | [] => []
  | t :: r => match look env t with
    | some v => (t, v) :: keepE env r
    | none => keepE env r

/-- A list of pairs told by another one. -/
def SubE : Env → Env → Prop
  | [], _ => True
  | (t, v) :: r, env => look env t = some v ∧ SubE r env
theorem SubE.out : ∀ {e' e : Env}, SubE e' e → ∀ t v, look e' t = some v → look e t = some v
  | [], _, _, t, v, h => by cases h
  | (k, u) :: r, e, hs, t, v, h => by
    simp only [look] at h
    by_cases ek : k = t
    · subst ek; simp [Nat.beq_refl] at h; subst h; exact hs.1
    · rw [beq_ff ek] at h; exact SubE.out hs.2 t v h

theorem c_sub {c : Code} {env' : Env} {M : List Asrt} (hL : Ent L M) (hE : SubE env' env) (k : CodeJ P n ds F M env' c Q) : CodeJ P n ds F L env c Q := c_ent hL (c_env hE.out k)

/-- A cut: what is told of the state between two pieces of code. -/
def Cut {X : Type} (n : Nat) (ds : List Deferred) (F : Fr) (M : X → List Asrt) (e : X → Env) (Q : Post) : Post
  | .normal, a, w => ∃ t, St F (M t) w ∧ Ok n ds (e t) a
  | ex, a, w => Q ex a w
instance {X : Type} {n : Nat} {ds : List Deferred} {F : Fr} {M : X → List Asrt} {e : X → Env} {Q : Post} [h : NoOut Q] : NoOut (Cut n ds F M e Q) := ⟨fun a w k => h.out a w k⟩
theorem c_cut {X : Type} (M : X → List Asrt) (e : X → Env) {x y : Code} {Q' : Post} (h1 : CodeJ P n ds F L env x (Cut n ds F M e Q')) (h2 : ∀ t, CodeJ P n ds F (M t) (e t) y Q) : CodeJ P n ds F L env x (Exit.then (wpr F.ro P y Q) Q') := .mk fun w a s o =>
  wpIn_mono (h1.out w a s o) fun ex a w h => by
    cases ex with
    | normal => obtain ⟨t, hs, ho⟩ := h; exact (h2 t).out w a hs ho
    | exit _ => exact h
    | goto _ => exact h
    | ret => exact h
    | panic _ => exact h
    | outgrown => exact h
theorem f_cut {X : Type} {M : X → List Asrt} {e : X → Env} (t : X) (hL : Ent L (M t)) (hE : SubE (e t) env) : FinJ P n ds F L env .normal (Cut n ds F M e Q) := .mk fun w a s o => ⟨t, s.ent hL, o.weaken hE.out⟩

/-- A loop, by what holds at each round's head. -/
theorem c_loop_inv {c : Code} {X : Type} (I : X → Prop) (μ : X → Nat) (Lx : X → List Asrt) (ex : X → Env) (x0 : X) (h0 : I x0) (hL : Ent L (Lx x0)) (hE : SubE (ex x0) env)
    (h : ∀ x, I x → (∀ x', I x' → μ x' < μ x → CodeJ P n ds F (Lx x') (ex x') c (Round F.ro P c Q)) → CodeJ P n ds F (Lx x) (ex x) c (Round F.ro P c Q)) : CodeJ P n ds F L env (.loop c) Q := by
  have key : ∀ k x, μ x = k → I x → CodeJ P n ds F (Lx x) (ex x) c (Round F.ro P c Q) := by
    intro k
    induction k using Nat.strongRecOn with
    | _ k ih => intro x hx hI; exact h x hI fun x' hI' hlt => ih (μ x') (hx ▸ hlt) x' rfl hI'
  exact c_loop (c_sub hL hE (key _ x0 rfl h0))
theorem f_next {c : Code} {env' : Env} {M : List Asrt} (hL : Ent L M) (hE : SubE env' env) (k : CodeJ P n ds F M env' c (Round F.ro P c Q)) : FinJ P n ds F L env .normal (Round F.ro P c Q) := f_round (c_sub hL hE k)

/-- An assertion that is opened: its parts, and what holds of them. -/
class Opens (A : Asrt) (X : outParam Type) (φ : outParam (X → Prop)) (M : outParam (X → List Asrt)) : Prop where
  out : ∀ r, A r → ∃ x, φ x ∧ sep (M x) r

theorem c_open {c : Code} {A : Asrt} {R : List Asrt} {X : Type} {φ : X → Prop} {M : X → List Asrt} [h : Opens A X φ M] (ht : Rem L A R)
    (k : ∀ x, φ x → CodeJ P n ds F (M x ++ R) env c Q) : CodeJ P n ds F L env c Q := .mk fun w a s o => by
  obtain ⟨h1, h2, h3, r, hc, hf, hr, hs⟩ := s
  obtain ⟨u, v, huv, rfl, hA, hR⟩ := sep_perm ht.perm hs
  obtain ⟨x, hx, hM⟩ := h.out u hA
  exact (k x hx).out w a ⟨h1, h2, h3, _, hc, hf, hr, sep_append huv hM hR⟩ o

/-! ### Operations -/

variable {ops : Array Oper} {rest : List Oper}

theorem o_nil (h : FinJ P n ds F L env .normal Q) : OpsJ P n ds F L env ops [] Q := .mk fun w a s o => wpList_nil (h.out w a s o)

/-- An operation that leaves a value. -/
theorem o_value {X : Type} {L' : X → List Asrt} {v : X → Value} {o : Oper} (hg : o.guard = none) (hd : fits n o.dst = true)
    (hrun : ∀ w a, St F L w → Ok n ds env a → ∃ x w', (execOp a.eval o).run P w = .ok (.value (v x)) w' ∧ St F (L' x) w')
    (h : ∀ x, OpsJ P n ds F (L' x) (putE env o.dst (v x)) ops rest Q) : OpsJ P n ds F L env ops (o :: rest) Q := .mk fun w a s k => by
  refine wpList_plain hg fun K hK => ?_
  obtain ⟨x, w', hr, s'⟩ := hrun w a s k
  unfold Oper.wp
  rw [hr]
  exact hK _ _ ((h x).out w' _ s' (k.put hd _))

/-- An operation that leaves no value. -/
theorem o_void {X : Type} {L' : X → List Asrt} {o : Oper} (hg : o.guard = none) (hd : o.dst = none)
    (hrun : ∀ w a, St F L w → Ok n ds env a → ∃ x w', (execOp a.eval o).run P w = .ok .skip w' ∧ St F (L' x) w')
    (h : ∀ x, OpsJ P n ds F (L' x) env ops rest Q) : OpsJ P n ds F L env ops (o :: rest) Q := .mk fun w a s k => by
  refine wpList_plain hg fun K hK => ?_
  obtain ⟨x, w', hr, s'⟩ := hrun w a s k
  unfold Oper.wp
  rw [hr]
  refine hK _ _ ((h x).out w' _ s' ?_)
  rw [hd]; exact k

/-- What an operation yields, in every world of the state; it leaves the world as it is. -/
structure Yld (P : Program) (n : Nat) (ds : List Deferred) (F : Fr) (L : List Asrt) (env : Env) (o : Oper) (v : Value) : Prop where
  out : ∀ w a, St F L w → Ok n ds env a → (execOp a.eval o).run P w = .ok (.value v) w

theorem o_y {d : Tmp} {op : Op} {ty : TypeId} {pos : String} {af : Array Edge} {v : Value} (hy : Yld P n ds F L env ⟨some d, op, ty, pos, af, none⟩ v) (hd : Nat.blt d n = true)
    (h : OpsJ P n ds F L ((d, v) :: env) ops rest Q) : OpsJ P n ds F L env ops (⟨some d, op, ty, pos, af, none⟩ :: rest) Q :=
  o_value (X := Unit) (L' := fun _ => L) (v := fun _ => v) rfl hd (fun w a s k => ⟨(), w, hy.out w a s k, s⟩) (fun _ => h)
/-! #### Guards -/

def yieldE (env : Env) (ops : Array Oper) (j : Nat) : Option Bool :=
  match ((ops[j]?).bind (·.dst)).bind (look env) with
  | some (.bool b) => some b
  | _ => none

theorem yieldE_eq {a : Act} (k : Ok n ds env a) {j : Nat} {b : Bool} (h : yieldE env ops j = some b) : yielded ops a.tmps j = some b := by
  unfold yieldE at h; unfold yielded
  cases hj : (ops[j]?).bind (·.dst) with
  | none => rw [hj] at h; simp at h
  | some t =>
    rw [hj] at h
    simp only [Option.bind_some] at h ⊢
    cases ht : look env t with
    | none => rw [ht] at h; simp at h
    | some v => rw [ht] at h; rw [k.val t v ht]; exact h

theorem o_want {d : Option Tmp} {op : Op} {ty : TypeId} {pos : String} {af : Array Edge} {j : Nat} {b : Bool} (hy : yieldE env ops j = some b)
    (h : OpsJ P n ds F L env ops (⟨d, op, ty, pos, af, none⟩ :: rest) Q) : OpsJ P n ds F L env ops (⟨d, op, ty, pos, af, some (j, b)⟩ :: rest) Q := .mk fun w a s k => by
  have h' := h.out w a s k
  unfold wpList at h' ⊢
  simp only [Region.wanted, if_true] at h'
  rw [if_pos (by simp [Region.wanted, yieldE_eq k hy])]
  have e : (execOp a.eval ⟨d, op, ty, pos, af, some (j, b)⟩) = (execOp a.eval ⟨d, op, ty, pos, af, none⟩) := rfl
  unfold Oper.wp Oper.asks at *
  rw [e]
  exact h'

theorem o_skip {d : Tmp} {op : Op} {ty : TypeId} {pos : String} {af : Array Edge} {j : Nat} {b : Bool} (hy : yieldE env ops j = some (!b)) (hd : fits n (some d) = true)
    (h : OpsJ P n ds F L ((d, undef) :: env) ops rest Q) : OpsJ P n ds F L env ops (⟨some d, op, ty, pos, af, some (j, b)⟩ :: rest) Q := .mk fun w a s k => by
  unfold wpList
  rw [if_neg (by simp [Region.wanted, yieldE_eq k hy])]
  exact h.out w _ s (k.put hd _)

end
end Go.Lun

/- The operations that a function's code is made of, over a symbolic state. -/
namespace Go.Lun

/-- What is known of a type. -/
class Ty (P : Program) (t : TypeId) (d : outParam TypeDesc) (z : outParam Value) (sz by_ : outParam Nat) : Prop where
  und : P.underlying t = some d
  info : ∃ i, P.info? t = some i ∧ i.zero = some z ∧ i.size = sz ∧ i.bytes = by_

section
variable {P : Program} {t : TypeId} {d : TypeDesc} {z : Value} {sz by_ : Nat} {w : World}
theorem run_und [h : Ty P t d z sz by_] : (underlying t).run P w = .ok d w := by
  simp [underlying, h.und]
theorem run_info [h : Ty P t d z sz by_] : ∃ i : TypeInfo, (typeInfo t).run P w = .ok i w ∧ i.zero = some z ∧ i.size = sz ∧ i.bytes = by_ := by
  obtain ⟨i, h1, h2⟩ := h.info
  exact ⟨i, by simp [typeInfo, h1], h2⟩
theorem run_size [h : Ty P t d z sz by_] : (sizeOf t).run P w = .ok sz w := by
  obtain ⟨i, h1, _, h3, _⟩ := run_info (P := P) (t := t) (w := w)
  simp [sizeOf, h1, h3]
theorem run_zero [h : Ty P t d z sz by_] : (zeroValue t).run P w = .ok z w := by
  obtain ⟨i, h1, h2, _⟩ := run_info (P := P) (t := t) (w := w)
  simp [zeroValue, h1, h2]
def aggD : TypeDesc → Bool
  | .struct _ | .array _ _ => true
  | _ => false
theorem run_isAgg [h : Ty P t d z sz by_] : (isAgg t).run P w = .ok (aggD d) w := by
  simp only [isAgg, Sem.run_bind, run_und, Result.andThen_ok]
  cases d <;> rfl
end

/-- A field's place in its struct. -/
class Fld (P : Program) (s : TypeId) (f : Nat) (k : outParam Nat) : Prop where
  run : ∀ (a : Addr) (w : World), (Instr.fieldAt s (.pointer (some a)) f).run P w = .ok (.pointer (some (a.add k))) w

theorem Fld.of {P : Program} {s : TypeId} {f : Nat} {fields : Array Field} {z : Value} {sz by_ : Nat} [Ty P s (.struct fields) z sz by_] {fl : Field} {d : TypeDesc} {z' : Value} {sz' by' : Nat}
    (hf : fields[f]? = some fl) (h : Ty P fl.type d z' sz' by') (hs : Nat.beq sz' 0 = false) : Fld P s f fl.offset := ⟨fun a w => by
  have h0 := of_beq_ff hs
  simp [Instr.fieldAt, run_und, hf, Instr.sureAddr, fieldPlace, run_size (h := h), h0]⟩

/-- The places of a struct's fields, and how many cells each has. -/
class Plcs (P : Program) (t : TypeId) (l : outParam (List (Nat × Nat))) : Prop where
  run : ∃ fields, P.underlying t = some (.struct fields) ∧ ∀ w, ((fields.mapM fun f => do pure (f.offset, ← sizeOf f.type) : Sem (Array (Nat × Nat)))).run P w = .ok ⟨l⟩ w

theorem run_mapM_fields {P : Program} {w : World} : ∀ {l : List Field} {ps : List (Nat × Nat)}, l.length = ps.length → (∀ (i : Nat) (f : Field) (p : Nat × Nat), l[i]? = some f → ps[i]? = some p → f.offset = p.1 ∧ (sizeOf f.type).run P w = .ok p.2 w) →
    ((l.mapM fun f => do pure (f.offset, ← sizeOf f.type) : Sem (List (Nat × Nat)))).run P w = .ok ps w
  | [], [], _, _ => rfl
  | f :: l, (a, b) :: ps, hl, h => by
    have h0 := h 0 f (a, b) rfl rfl
    have ih := run_mapM_fields (P := P) (w := w) (l := l) (ps := ps) (by simpa using hl) (fun i g p hg hp => h (i + 1) g p (by simpa using hg) (by simpa using hp))
    rw [List.mapM_cons]
    simp only [Sem.run_bind, h0.2, Result.andThen_ok, Sem.run_pure, ih, h0.1]

theorem Plcs.of {P : Program} {t : TypeId} {fs : List Field} {ps : List (Nat × Nat)} {z : Value} {sz by_ : Nat} (h : Ty P t (.struct ⟨fs⟩) z sz by_)
    (hs : fs.length = ps.length ∧ ∀ (w : World) (i : Nat) (f : Field) (p : Nat × Nat), fs[i]? = some f → ps[i]? = some p → f.offset = p.1 ∧ (sizeOf f.type).run P w = .ok p.2 w) : Plcs P t ps := ⟨_, h.und, fun w => by
  have := run_mapM_fields (P := P) (w := w) hs.1 (hs.2 w)
  rw [List.mapM_toArray, Sem.run_map, this]
  rfl⟩

section
variable {P : Program} {n : Nat} {ds : List Deferred} {F : Fr} {L : List Asrt} {env : Env} {Q : Post} {ops : Array Oper} {rest : List Oper}
variable {dt : Option Tmp} {ty : TypeId} {pos : String} {af : Array Edge} {g : Option (Nat × Bool)}

theorem add_none (b off k : Nat) : (Addr.mk b off none).add k = ⟨b, off + k, none⟩ := by
  unfold Addr.add; split
  · rename_i h; subst h; rfl
  · rfl

theorem y_move {x : Operand} {v : Value} (hx : ev env x = some v) : Yld P n ds F L env ⟨dt, .move x, ty, pos, af, g⟩ (v) := .mk fun w a _ k => by simp [execOp, k.ev hx]
theorem y_assign {x : Operand} {v : Value} (hx : ev env x = some v) : Yld P n ds F L env ⟨dt, .assign x, ty, pos, af, g⟩ (v) := .mk fun w a _ k => by simp [execOp, k.ev hx]
theorem y_pick_t {c x y : Operand} {v : Value} (hc : ev env c = some (.bool true)) (hx : ev env x = some v) : Yld P n ds F L env ⟨dt, .pick c x y, ty, pos, af, g⟩ (v) := .mk fun w a _ k => by simp [execOp, k.ev hc, k.ev hx, asBool]
theorem y_pick_f {c x y : Operand} {v : Value} (hc : ev env c = some (.bool false)) (hy : ev env y = some v) : Yld P n ds F L env ⟨dt, .pick c x y, ty, pos, af, g⟩ (v) := .mk fun w a _ k => by simp [execOp, k.ev hc, k.ev hy, asBool]
theorem y_nilCheck {x : Operand} {a0 : Addr} (hx : ev env x = some (.pointer (some a0))) : Yld P n ds F L env ⟨dt, .nilCheck x, ty, pos, af, g⟩ (.pointer (some a0)) := .mk fun w a _ k => by simp [execOp, k.ev hx]
theorem y_extract {x : Operand} {vs : List Value} {i : Nat} {v : Value} (hx : ev env x = some (.tuple ⟨vs⟩)) (hv : vs[i]? = some v) : Yld P n ds F L env ⟨dt, .extract x i, ty, pos, af, g⟩ (v) := .mk fun w a _ k => by simp [execOp, k.ev hx, Instr.extract, hv]
theorem y_fieldAddr0 {s : TypeId} {x : Operand} {f k0 b : Nat} [hf : Fld P s f k0] (hx : ev env x = some (.pointer (some ⟨b, 0, none⟩))) : Yld P n ds F L env ⟨dt, .fieldAddr s x f, ty, pos, af, g⟩ (.pointer (some ⟨b, k0, none⟩)) := .mk fun w a _ k => by simp [execOp, k.ev hx, hf.run, add_none]
theorem y_fieldAddr {s : TypeId} {x : Operand} {f k0 b off : Nat} [hf : Fld P s f k0] (hx : ev env x = some (.pointer (some ⟨b, off, none⟩))) : Yld P n ds F L env ⟨dt, .fieldAddr s x f, ty, pos, af, g⟩ (.pointer (some ⟨b, off + k0, none⟩)) := .mk fun w a _ k => by simp [execOp, k.ev hx, hf.run, add_none]
theorem y_makeFunc {fn : Fn} {first cap : Array Operand} {vs us : List Value} (h1 : evs env first.toList = some vs) (h2 : evs env cap.toList = some us) : Yld P n ds F L env ⟨dt, .makeFunc fn first cap, ty, pos, af, g⟩ (.func fn ⟨vs⟩ ⟨us⟩) := .mk fun w a _ k => by simp [execOp, Instr.makeFunc, k.evsA h1, k.evsA h2]

/-! #### Numbers -/

theorem y_arith {op : BinOp} {xt yt : TypeId} {x y : Operand} {k0 : IntKind} {a0 b0 c0 : Int} (hx : ev env x = some (.int k0 a0)) (hy : ev env y = some (.int k0 b0))
    (hop : (match op with | .add => c0 = a0 + b0 | .sub => c0 = a0 - b0 | .mul => c0 = a0 * b0 | _ => False)) : Yld P n ds F L env ⟨dt, .binOp op xt x y yt, ty, pos, af, g⟩ (.int k0 (k0.wrap c0)) := .mk fun w a _ k => by cases op <;> simp at hop <;> subst hop <;> simp [execOp, k.ev hx, k.ev hy, eqGuard, binOp, Op.intArith]

theorem wrap_i64 {c : Int} (h1 : -9223372036854775808 ≤ c) (h2 : c ≤ 9223372036854775807) : IntKind.i64.wrap c = c := by
  have e : (2 : Int) ^ 64 = 18446744073709551616 := by decide
  have e' : (2 : Int) ^ (64 - 1) = 9223372036854775808 := by decide
  unfold IntKind.wrap
  simp only [IntKind.bits, IntKind.signed, e, e', Bool.true_and, decide_eq_true_eq]
  split <;> omega

theorem y_arith64 {op : BinOp} {xt yt : TypeId} {x y : Operand} {a0 b0 c0 : Int} (hx : ev env x = some (.int .i64 a0)) (hy : ev env y = some (.int .i64 b0))
    (hop : (match op with | .add => c0 = a0 + b0 | .sub => c0 = a0 - b0 | .mul => c0 = a0 * b0 | _ => False)) (h1 : -9223372036854775808 ≤ c0 ∧ c0 ≤ 9223372036854775807) : Yld P n ds F L env ⟨dt, .binOp op xt x y yt, ty, pos, af, g⟩ (.int .i64 c0) := by
  have := y_arith (P := P) (n := n) (ds := ds) (F := F) (L := L) (dt := dt) (ty := ty) (pos := pos) (af := af) (g := g) (xt := xt) (yt := yt) hx hy hop
  rwa [wrap_i64 h1.1 h1.2] at this

def cmpI (op : BinOp) (a b : Int) : Option Bool :=
  match op with
  | .eql => some (decide (a = b))
  | .neq => some (!decide (a = b))
  | .lss => some (decide (a < b))
  | .leq => some (decide (a ≤ b))
  | .gtr => some (decide (b < a))
  | .geq => some (decide (b ≤ a))
  | _ => none

theorem y_cmp {op : BinOp} {xt yt : TypeId} {x y : Operand} {k0 : IntKind} {a0 b0 : Int} {c : Bool} (hx : ev env x = some (.int k0 a0)) (hy : ev env y = some (.int k0 b0))
    (hop : cmpI op a0 b0 = some c) : Yld P n ds F L env ⟨dt, .binOp op xt x y yt, ty, pos, af, g⟩ (.bool c) := .mk fun w a _ k => by
  have ex := k.ev hx
  have ey := k.ev hy
  cases op <;> first | (cases hop; done) | (injection hop with hop; subst hop; simp [execOp, ex, ey, eqGuard, binOp, Op.intCmp, bne]; try rfl)

section
variable {xt yt : TypeId} {x y : Operand} {k0 : IntKind} {a0 b0 : Int}
theorem y_eql_t (hx : ev env x = some (.int k0 a0)) (hy : ev env y = some (.int k0 b0)) (h : a0 = b0) : Yld P n ds F L env ⟨dt, .binOp .eql xt x y yt, ty, pos, af, g⟩ (.bool true) := y_cmp hx hy (by simp [cmpI, h])
theorem y_eql_f (hx : ev env x = some (.int k0 a0)) (hy : ev env y = some (.int k0 b0)) (h : a0 ≠ b0) : Yld P n ds F L env ⟨dt, .binOp .eql xt x y yt, ty, pos, af, g⟩ (.bool false) := y_cmp hx hy (by simp [cmpI, h])
theorem y_neq_t (hx : ev env x = some (.int k0 a0)) (hy : ev env y = some (.int k0 b0)) (h : a0 ≠ b0) : Yld P n ds F L env ⟨dt, .binOp .neq xt x y yt, ty, pos, af, g⟩ (.bool true) := y_cmp hx hy (by simp [cmpI, h])
theorem y_neq_f (hx : ev env x = some (.int k0 a0)) (hy : ev env y = some (.int k0 b0)) (h : a0 = b0) : Yld P n ds F L env ⟨dt, .binOp .neq xt x y yt, ty, pos, af, g⟩ (.bool false) := y_cmp hx hy (by simp [cmpI, h])
theorem y_lss_t (hx : ev env x = some (.int k0 a0)) (hy : ev env y = some (.int k0 b0)) (h : a0 < b0) : Yld P n ds F L env ⟨dt, .binOp .lss xt x y yt, ty, pos, af, g⟩ (.bool true) := y_cmp hx hy (by simp [cmpI, h])
theorem y_lss_f (hx : ev env x = some (.int k0 a0)) (hy : ev env y = some (.int k0 b0)) (h : b0 ≤ a0) : Yld P n ds F L env ⟨dt, .binOp .lss xt x y yt, ty, pos, af, g⟩ (.bool false) := y_cmp hx hy (by simp [cmpI]; omega)
theorem y_leq_t (hx : ev env x = some (.int k0 a0)) (hy : ev env y = some (.int k0 b0)) (h : a0 ≤ b0) : Yld P n ds F L env ⟨dt, .binOp .leq xt x y yt, ty, pos, af, g⟩ (.bool true) := y_cmp hx hy (by simp [cmpI, h])
theorem y_leq_f (hx : ev env x = some (.int k0 a0)) (hy : ev env y = some (.int k0 b0)) (h : b0 < a0) : Yld P n ds F L env ⟨dt, .binOp .leq xt x y yt, ty, pos, af, g⟩ (.bool false) := y_cmp hx hy (by simp [cmpI]; omega)
theorem y_gtr_t (hx : ev env x = some (.int k0 a0)) (hy : ev env y = some (.int k0 b0)) (h : b0 < a0) : Yld P n ds F L env ⟨dt, .binOp .gtr xt x y yt, ty, pos, af, g⟩ (.bool true) := y_cmp hx hy (by simp [cmpI, h])
theorem y_gtr_f (hx : ev env x = some (.int k0 a0)) (hy : ev env y = some (.int k0 b0)) (h : a0 ≤ b0) : Yld P n ds F L env ⟨dt, .binOp .gtr xt x y yt, ty, pos, af, g⟩ (.bool false) := y_cmp hx hy (by simp [cmpI]; omega)
theorem y_geq_t (hx : ev env x = some (.int k0 a0)) (hy : ev env y = some (.int k0 b0)) (h : b0 ≤ a0) : Yld P n ds F L env ⟨dt, .binOp .geq xt x y yt, ty, pos, af, g⟩ (.bool true) := y_cmp hx hy (by simp [cmpI, h])
theorem y_geq_f (hx : ev env x = some (.int k0 a0)) (hy : ev env y = some (.int k0 b0)) (h : a0 < b0) : Yld P n ds F L env ⟨dt, .binOp .geq xt x y yt, ty, pos, af, g⟩ (.bool false) := y_cmp hx hy (by simp [cmpI]; omega)
end

theorem y_not {xt : TypeId} {x : Operand} {b : Bool} (hx : ev env x = some (.bool b)) : Yld P n ds F L env ⟨dt, .unOp .not xt x, ty, pos, af, g⟩ (.bool (!b)) := .mk fun w a _ k => by simp [execOp, k.ev hx, Op.unary]

theorem y_shr {xt yt : TypeId} {x y : Operand} {k0 k1 : IntKind} {a0 b0 : Int} (u m : Nat) (hx : ev env x = some (.int k0 a0)) (hy : ev env y = some (.int k1 b0)) (ha : a0 = (u : Int)) (hb : b0 = (m : Int)) (hm : m ≤ k0.bits) :
    Yld P n ds F L env ⟨dt, .binOp .shr xt x y yt, ty, pos, af, g⟩ (.int k0 ((u / 2 ^ m : Nat) : Int)) := .mk fun w a _ k => by
  have ex := k.ev hx
  have ey := k.ev hy
  subst ha; subst hb
  have h0 : ¬ ((m : Int) < 0) := by omega
  have h1 : min (m : Int).toNat k0.bits = m := by simp; omega
  have h2 : ((u : Int).fdiv (2 ^ m)) = ((u / 2 ^ m : Nat) : Int) := by
    rw [Int.fdiv_eq_ediv_of_nonneg _ (Int.pow_nonneg (by omega))]
    simp
  simp only [execOp, ex, ey, eqGuard, binOp, Op.shift, Sem.run_bind, h0, if_false, h1]
  simp [h2]
theorem wrap_u64 {c : Int} (h1 : 0 ≤ c) (h2 : c ≤ 18446744073709551615) : IntKind.u64.wrap c = c := by
  have e : (2 : Int) ^ 64 = 18446744073709551616 := by decide
  unfold IntKind.wrap
  simp only [IntKind.bits, IntKind.signed, e, Bool.false_and, Bool.false_eq_true, if_false]
  omega
theorem y_conv_u64 {src dst : TypeId} {x : Operand} {k0 : IntKind} {d0 : TypeDesc} {z0 z1 : Value} {s0 b0 s1 b1 : Nat} {a0 : Int} [Ty P src d0 z0 s0 b0] [Ty P dst (.int .u64) z1 s1 b1] (hx : ev env x = some (.int k0 a0)) (h : 0 ≤ a0 ∧ a0 ≤ 18446744073709551615) :
    Yld P n ds F L env ⟨dt, .convert src dst x, ty, pos, af, g⟩ (.int .u64 a0) := .mk fun w a _ k => by
  simp [execOp, k.ev hx, convert, run_und, Conv.intToInt, wrap_u64 h.1 h.2]

theorem y_conv_int {src dst : TypeId} {x : Operand} {k0 k1 : IntKind} {d0 : TypeDesc} {z0 z1 : Value} {s0 b0 s1 b1 : Nat} {a0 : Int} [Ty P src d0 z0 s0 b0] [Ty P dst (.int k1) z1 s1 b1] (hx : ev env x = some (.int k0 a0)) : Yld P n ds F L env ⟨dt, .convert src dst x, ty, pos, af, g⟩ (.int k1 (k1.wrap a0)) := .mk fun w a _ k => by simp [execOp, k.ev hx, convert, run_und, Conv.intToInt]

end
end Go.Lun

/- Memory: loads, stores, new blocks, calls, results. -/
namespace Go.Lun

theorem cell_of {w : World} {b : Nat} {cs : List Value} {T : TypeId} {fz : Nat × Nat} (h : w.heap[b]? = some (.cells ⟨cs⟩ T fz)) (off : Nat) : w.cell? ⟨b, off, none⟩ = cs[off]? := by
  simp [World.cell?, h]
def frz (fz : Nat × Nat) (off : Nat) : Bool := decide (fz.1 ≤ off) && decide (off < fz.2)
theorem frozen_of {w : World} {b : Nat} {cs : Array Value} {T : TypeId} {fz : Nat × Nat} (h : w.heap[b]? = some (.cells cs T fz)) (off : Nat) : w.frozen? ⟨b, off, none⟩ = frz fz off := by
  obtain ⟨lo, hi⟩ := fz
  simp [World.frozen?, h, frz]
theorem setCell_of {w : World} {b : Nat} {cs : List Value} {T : TypeId} {fz : Nat × Nat} (h : w.heap[b]? = some (.cells ⟨cs⟩ T fz)) (off : Nat) (v : Value) :
    w.setCell ⟨b, off, none⟩ v = put w b (.cells ⟨cs.set off v⟩ T fz) := by
  unfold World.setCell put
  congr 1
  apply Array.ext_getElem?
  intro i
  simp only [Array.getElem?_modify, Array.getElem?_setIfInBounds]
  by_cases e : b = i
  · subst e
    have hlt := lt_of_get h
    have h' : w.heap[b] = .cells ⟨cs⟩ T fz := by simpa [hlt] using h
    simp [hlt, h']
  · simp [e]
theorem put_self {w : World} {b : Nat} {o : Obj} (h : w.heap[b]? = some o) : put w b o = w := by
  unfold put
  have : w.heap.setIfInBounds b o = w.heap := by
    apply Array.ext_getElem?
    intro i
    rw [Array.getElem?_setIfInBounds]
    by_cases e : b = i
    · subst e
      have hlt := lt_of_get h
      rw [h]; simp [hlt]
    · simp [e]
  rw [this]
theorem put_put {w : World} {b : Nat} {o o' : Obj} : put (put w b o) b o' = put w b o' := by
  simp [put]

/-- Several cells of a list. -/
def takeN : List Value → Nat → Option (List Value)
  | _, 0 => some []
  | [], _ + 1 => none
  | v :: l, n + 1 => match takeN l n with
    | some vs => some (v :: vs)
    | none => none
def getN (cs : List Value) (off n : Nat) : Option (List Value) := takeN (cs.drop off) n

theorem takeN_get : ∀ {l : List Value} {n : Nat} {vs : List Value}, takeN l n = some vs → vs.length = n ∧ ∀ i, i < n → l[i]? = vs[i]?
  | _, 0, vs, h => by simp [takeN] at h; subst h; simp
  | [], n + 1, vs, h => by simp [takeN] at h
  | v :: l, n + 1, vs, h => by
    simp only [takeN] at h
    cases hl : takeN l n with
    | none => rw [hl] at h; cases h
    | some us =>
      rw [hl] at h; simp at h; subst h
      obtain ⟨h1, h2⟩ := takeN_get hl
      refine ⟨by simp [h1], fun i hi => ?_⟩
      cases i with
      | zero => simp
      | succ i => simpa using h2 i (by omega)

theorem takeN_take {l : List Value} {n : Nat} (h : n ≤ l.length) : takeN l n = some (l.take n) := by
  induction l generalizing n with
  | nil => simp at h; subst h; simp [takeN]
  | cons v l ih =>
    cases n with
    | zero => simp [takeN]
    | succ n => simp [takeN, ih (n := n) (by simpa using h)]

theorem run_loadFrom {P : Program} {w : World} {b off : Nat} {cs : List Value} {T : TypeId} {fz : Nat × Nat} (h : w.heap[b]? = some (.cells ⟨cs⟩ T fz)) :
    ∀ (n i : Nat) (acc : Array Value) (vs : List Value), getN cs (off + i) n = some vs → (loadCellsFrom ⟨b, off, none⟩ i n acc).run P w = .ok (acc ++ vs.toArray) w
  | 0, i, acc, vs, hv => by simp [getN, takeN] at hv; subst hv; simp [loadCellsFrom]
  | n + 1, i, acc, vs, hv => by
    unfold getN at hv
    cases hd : cs.drop (off + i) with
    | nil => rw [hd] at hv; simp [takeN] at hv
    | cons v l =>
      rw [hd] at hv
      simp only [takeN] at hv
      cases ht : takeN l n with
      | none => rw [ht] at hv; cases hv
      | some us =>
        rw [ht] at hv; simp at hv; subst hv
        have h0 : cs[off + i]? = some v := by
          have := congrArg (fun l => l[0]?) hd
          simpa using this
        have hl : cs.drop (off + (i + 1)) = l := by
          have := congrArg List.tail hd
          simpa [Nat.add_assoc] using this
        have ih := run_loadFrom (P := P) h n (i + 1) (acc.push v) us (by rw [getN, hl]; exact ht)
        simp [loadCellsFrom, add_none, cell_of h, h0, ih]

theorem run_loadCells {P : Program} {w : World} {b off n : Nat} {cs vs : List Value} {T : TypeId} {fz : Nat × Nat} (h : w.heap[b]? = some (.cells ⟨cs⟩ T fz)) (hv : getN cs off n = some vs) :
    (loadCells ⟨b, off, none⟩ n).run P w = .ok ⟨vs⟩ w := by
  have := run_loadFrom (P := P) h n 0 #[] vs (by simpa using hv)
  simpa [loadCells] using this

/-- Cells written one behind the other. -/
def spl : List Value → Nat → List Value → List Value
  | l, _, [] => l
  | l, k, v :: vs => spl (l.set k v) (k + 1) vs
theorem run_storeCells {P : Program} {b off : Nat} {T : TypeId} {fz : Nat × Nat} :
    ∀ (vs : List Value) (i : Nat) (w : World) (cs : List Value), w.heap[b]? = some (.cells ⟨cs⟩ T fz) → (∀ j, off + i ≤ j → j < off + i + vs.length → frz fz j = false) → off + i + vs.length ≤ cs.length →
      (∀ v ∈ vs, v.oneCell' = true) → (storeCells ⟨b, off, none⟩ vs i).run P w = .ok () (put w b (.cells ⟨spl cs (off + i) vs⟩ T fz))
  | [], i, w, cs, h, _, _, _ => by simp [storeCells, spl, put_self h]
  | v :: vs, i, w, cs, h, hf, hl, h1 => by
    simp only [List.length_cons] at hf hl
    have hc : cs[off + i]? = some cs[off + i] := List.getElem?_eq_getElem (by omega)
    have e := run_storeCells vs (i + 1) (put w b (.cells ⟨cs.set (off + i) v⟩ T fz)) (cs.set (off + i) v) (put_get (lt_of_get h)) (fun j a b => hf j (by omega) (by omega)) (by simp; omega)
      (fun u hu => h1 u (by simp [hu])) (P := P) (off := off)
    simp only [storeCells, Sem.run_bind, add_none]
    rw [run_store _ _ _ _ _ (h1 v (by simp))]
    simp only [cell_of h, hc, frozen_of h, hf (off + i) (by omega) (by omega), Bool.false_eq_true, if_false, setCell_of h, Result.andThen_ok]
    rw [e, put_put]
    rfl

section
variable {P : Program} {n : Nat} {ds : List Deferred} {F : Fr} {L : List Asrt} {env : Env} {Q : Post} {ops : Array Oper} {rest : List Oper}
variable {dt : Option Tmp} {ty : TypeId} {pos : String} {af : Array Edge} {g : Option (Nat × Bool)}

theorem y_load {t : TypeId} {x : Operand} {d : TypeDesc} {z : Value} {by_ b off : Nat} {cs : List Value} {T : TypeId} {fz : Nat × Nat} {v : Value} [Ty P t d z 1 by_] (hs : aggD d = false)
    (hx : ev env x = some (.pointer (some ⟨b, off, none⟩))) [hb : Has F L b (.cells ⟨cs⟩ T fz)] (hv : cs[off]? = some v) : Yld P n ds F L env ⟨dt, .load t x, ty, pos, af, g⟩ (v) := .mk fun w a s k => by
    have e := k.ev hx
    simp [execOp, e, Instr.loadAt, Instr.sureAddr, loadVar, run_isAgg, hs, cell_of (hb.out w s), hv]
theorem y_loadN {t : TypeId} {x : Operand} {d : TypeDesc} {z : Value} {sz by_ b off : Nat} {cs vs : List Value} {T : TypeId} {fz : Nat × Nat} [Ty P t d z sz by_] (hs : aggD d = true)
    (hx : ev env x = some (.pointer (some ⟨b, off, none⟩))) [hb : Has F L b (.cells ⟨cs⟩ T fz)] (hv : getN cs off sz = some vs) : Yld P n ds F L env ⟨dt, .load t x, ty, pos, af, g⟩ (.agg ⟨vs⟩) := .mk fun w a s k => by
    have e := k.ev hx
    simp [execOp, e, Instr.loadAt, Instr.sureAddr, loadVar, run_isAgg, hs, run_size, run_loadCells (hb.out w s) hv]

/-- A list with one place written anew. -/
class SetL (l : List Value) (i : Nat) (v : Value) (m : outParam (List Value)) : Prop where
  out : i < l.length ∧ l.set i v = m
instance {a v : Value} {l : List Value} : SetL (a :: l) 0 v (v :: l) := ⟨by simp, rfl⟩
instance {a v : Value} {l m : List Value} {i : Nat} [h : SetL l i v m] : SetL (a :: l) (i + 1) v (a :: m) := ⟨by simpa using h.out.1, by simp [h.out.2]⟩
class SetN (l : List Value) (i : Nat) (vs : List Value) (m : outParam (List Value)) : Prop where
  out : i + vs.length ≤ l.length ∧ spl l i vs = m
instance {l m : List Value} {v : Value} {i : Nat} [h : SetL l i v m] : SetN l i [v] m := ⟨by have := h.out.1; simp; omega, by simpa [spl] using h.out.2⟩
instance {l l1 m : List Value} {v u : Value} {vs : List Value} {i : Nat} [h : SetL l i v l1] [k : SetN l1 (i + 1) (u :: vs) m] : SetN l i (v :: u :: vs) m :=
  ⟨by have := k.out.1; rw [← h.out.2] at this; simp at this ⊢; omega, by rw [spl, h.out.2]; exact k.out.2⟩

/-- A value's cells. -/
class CellsV (v : Value) (l : outParam (List Value)) : Prop where
  out : v.cells = ⟨l⟩ ∧ ∀ u ∈ l, u.oneCell' = true
instance {k : IntKind} {i : Int} : CellsV (.int k i) [.int k i] := ⟨rfl, by simp [Value.oneCell']⟩
instance {b : Bool} : CellsV (.bool b) [.bool b] := ⟨rfl, by simp [Value.oneCell']⟩
instance {s : ByteArray} : CellsV (.string s) [.string s] := ⟨rfl, by simp [Value.oneCell']⟩
instance {a : Option Addr} : CellsV (.pointer a) [.pointer a] := ⟨rfl, by simp [Value.oneCell']⟩
instance {a : Option Addr} {i j : Nat} : CellsV (.slice a i j) [.slice a i j] := ⟨rfl, by simp [Value.oneCell']⟩
instance {a : Option Nat} : CellsV (.map a) [.map a] := ⟨rfl, by simp [Value.oneCell']⟩
instance {f : Fn} {a b : Array Value} : CellsV (.func f a b) [.func f a b] := ⟨rfl, by simp [Value.oneCell']⟩
instance : CellsV .nilFunc [.nilFunc] := ⟨rfl, by simp [Value.oneCell']⟩
instance : CellsV .nilIface [.nilIface] := ⟨rfl, by simp [Value.oneCell']⟩
instance {t : TypeId} {v : Value} : CellsV (.iface t v) [.iface t v] := ⟨rfl, by simp [Value.oneCell']⟩
/-- Each is one cell. -/
class Ones (l : List Value) : Prop where
  out : ∀ u ∈ l, u.oneCell' = true
instance : Ones [] := ⟨by simp⟩
instance {v : Value} {l : List Value} [h : CellsV v [v]] [k : Ones l] : Ones (v :: l) := ⟨fun u hu => by
  rcases List.mem_cons.1 hu with rfl | hu
  · exact h.out.2 u (by simp)
  · exact k.out u hu⟩
instance {l : List Value} [h : Ones l] : CellsV (.agg ⟨l⟩) l := ⟨rfl, h.out⟩

theorem o_store {t : TypeId} {x y : Operand} {d : TypeDesc} {z v : Value} {sz by_ b off : Nat} {cs cs' vs : List Value} {T : TypeId} {fz : Nat × Nat} {M : List Asrt} [Ty P t d z sz by_]
    (hx : ev env x = some (.pointer (some ⟨b, off, none⟩))) (hy : ev env y = some v) [hb : Find L b true (.cells ⟨cs⟩ T fz)] [hv : CellsV v vs] (hl : Nat.beq vs.length sz = true)
    [hset : SetN cs off vs cs'] [hu : Upd L b (.cells ⟨cs'⟩ T fz) M] (hf : ∀ j, off ≤ j → j < off + vs.length → frz fz j = false) 
    (h : OpsJ P n ds F M env ops rest Q) : OpsJ P n ds F L env ops (⟨none, .store t x y, ty, pos, af, none⟩ :: rest) Q :=
  o_void (X := Unit) (L' := fun _ => M) rfl rfl (fun w a s k => ⟨(), put w b (.cells ⟨cs'⟩ T fz), by
    have e := k.ev hx
    have e' := k.ev hy
    have hlen : vs.length = sz := Nat.eq_of_beq_eq_true hl
    have hst := run_storeCells (P := P) (off := off) vs 0 w cs (s.find hb) (by simpa using hf) (by simpa using hset.out.1) hv.out.2
    simp only [Nat.add_zero, hset.out.2] at hst
    simp [execOp, e, e', Instr.storeAt, Instr.sureAddr, storeVar, hv.out.1, run_size, hlen, hst], s.upd hu⟩) (fun _ => h)

theorem frz0 {off k : Nat} : ∀ j, off ≤ j → j < off + k → frz (0, 0) j = false := by intro j _ _; simp [frz]

theorem o_alloc {t : TypeId} {d : TypeDesc} {z : Value} {sz by_ : Nat} {vs : List Value} [Ty P t d z sz by_] [hz : CellsV z vs] (hd : fits n dt = true)
    (h : ∀ b, OpsJ P n ds F (Blk b (.cells ⟨vs⟩ t (0, 0)) :: L) (putE env dt (.pointer (some ⟨b, 0, none⟩))) ops rest Q) : OpsJ P n ds F L env ops (⟨dt, .alloc t, ty, pos, af, none⟩ :: rest) Q :=
  o_value (X := Nat) (L' := fun b => Blk b (.cells ⟨vs⟩ t (0, 0)) :: L) (v := fun b => .pointer (some ⟨b, 0, none⟩)) rfl hd (fun w a s k => ⟨w.heap.size, { w with heap := w.heap.push (.cells ⟨vs⟩ t) }, by
    simp [execOp, Instr.alloc, run_zero, newVar, newRow, hz.out.1], s.new _⟩) h
theorem o_box {t : TypeId} {x : Operand} {v : Value} {vs : List Value} (hx : ev env x = some v) [hz : CellsV v vs] (hd : fits n dt = true)
    (h : ∀ b, OpsJ P n ds F (Blk b (.cells ⟨vs⟩ t (0, 0)) :: L) (putE env dt (.pointer (some ⟨b, 0, none⟩))) ops rest Q) : OpsJ P n ds F L env ops (⟨dt, .box t x, ty, pos, af, none⟩ :: rest) Q :=
  o_value (X := Nat) (L' := fun b => Blk b (.cells ⟨vs⟩ t (0, 0)) :: L) (v := fun b => .pointer (some ⟨b, 0, none⟩)) rfl hd (fun w a s k => ⟨w.heap.size, { w with heap := w.heap.push (.cells ⟨vs⟩ t) }, by
    have e := k.ev hx
    simp [execOp, Instr.box, e, newVar, newRow, hz.out.1], s.new _⟩) h

/-! #### Calls -/

class Callee (P : Program) (f : FuncId) : Prop where
  run : ∀ (args : Array Value) (w : World), (callFunc f args).run P w = .ok (.enter f args) w

theorem Callee.of {P : Program} {f : FuncId} {fn : Func} (hf : P.funcs[f]? = some fn) (h1 : (fn.name == "runtime.NumGoroutine") = false) (h2 : fn.body.isNone = false) : Callee P f := ⟨fun args w => by
  have h1' : fn.name ≠ "runtime.NumGoroutine" := by simpa using h1
  have h2' : fn.body ≠ none := by intro e; rw [e] at h2; cases h2
  simp [callFunc, hf, h1', h2']⟩

/-- What a function does: from what it needs, a value and what it leaves. -/
structure Fn (P : Program) (f : FuncId) (args : List Value) (pre : List Asrt) (R : Value → List Asrt → Prop) : Prop where
  out : ∀ F w, St F pre w → Calls P f ⟨args⟩ w fun e w' => ∃ v L', e = .returned v ∧ R v L' ∧ St F L' w'

/-- At a function's end: its deferred calls are made, and it hands back a value. -/
def FnPost (P : Program) (fn : Func) (F : Fr) (R : Value → List Asrt → Prop) : Post
  | .normal, a, w | .ret, a, w => LeavesInM (fe none) 0 P fn a.tmps (fun e w' => ∃ v L', e = .returned v ∧ R v L' ∧ St F L' w') a.defers .returning w
  | _, _, _ => False
instance {fn : Func} {R : Value → List Asrt → Prop} : NoOut (FnPost P fn F R) := ⟨fun _ _ h => h⟩

def argEnv : Nat → List Value → Env
  | _, [] => []
  | k, v :: vs => (k, v) :: argEnv (k + 1) vs

theorem look_argEnv : ∀ {vs : List Value} {k t : Nat} {v : Value}, look (argEnv k vs) t = some v → k ≤ t ∧ vs[t - k]? = some v
  | [], k, t, v, h => by simp [argEnv, look] at h
  | u :: vs, k, t, v, h => by
    simp only [argEnv, look] at h
    by_cases e : k = t
    · subst e; simp [Nat.beq_refl] at h; subst h; simp
    · rw [beq_ff e] at h
      obtain ⟨h1, h2⟩ := look_argEnv (vs := vs) (k := k + 1) h
      have : t - k = (t - (k + 1)) + 1 := by omega
      exact ⟨by omega, by rw [this]; simpa using h2⟩

theorem fn_startR {f : FuncId} {fn : Func} {c : Code} {args : List Value} {pre : List Asrt} {R : Value → List Asrt → Prop} (hf : P.funcs[f]? = some fn) (hb : fn.body = some c) (hn : fn.ntmps = n)
    (hl : Nat.ble args.length n = true) (h : ∀ F, F.ro = none → CodeJ P n [] F pre (argEnv 0 args) c (FnPost P fn F R)) : Fn P f args pre R := .mk fun F w s => by
  refine (callsIn_wide (n := 0)).1 (callsIn_of_wp_marks (F := fe none) hf hb trivial (wpIn_mono ((h { F with ro := none } rfl).out w _ s ⟨?_, rfl, ?_⟩) ?_))
  · have := Nat.le_of_ble_eq_true hl
    simp [hn]; omega
  · intro t v ht
    obtain ⟨_, h2⟩ := look_argEnv ht
    have hlt : t < args.length := by
      rcases Nat.lt_or_ge t args.length with h | h
      · exact h
      · simp [List.getElem?_eq_none h] at h2
    simp [Array.getElem?_append, hlt]
    simpa [hlt] using h2
  · intro e a w hq
    cases e with
    | normal => exact hq
    | ret => exact hq
    | _ => exact hq.elim
theorem fn_start {f : FuncId} {fn : Func} {c : Code} {args : List Value} {pre : List Asrt} {R : Value → List Asrt → Prop} (hf : P.funcs[f]? = some fn) (hb : fn.body = some c) (hn : fn.ntmps = n)
    (hl : Nat.ble args.length n = true) (h : ∀ F, CodeJ P n [] F pre (argEnv 0 args) c (FnPost P fn F R)) : Fn P f args pre R := fn_startR hf hb hn hl fun F _ => h F

def resE (env : Env) : List ResultVar → Option (List Value)
  | [] => some []
  | .tmp t :: r => match look env t with
    | some v => match resE env r with
      | some vs => some (v :: vs)
      | none => none
    | none => none
  | .cell _ _ :: _ => none
def tup : List Value → Value
  | [v] => v
  | vs => .tuple ⟨vs⟩

def resM (tmps : Array Value) : ResultVar → Sem Value
  | .tmp t => pure (tmps.getD t undef)
  | .cell a t => do loadVar t (← asAddr (tmps.getD a undef))

theorem run_resE {w : World} {a : Act} (k : Ok n ds env a) : ∀ {l : List ResultVar} {vs : List Value}, resE env l = some vs →
    (l.mapM (resM a.tmps)).run P w = .ok vs w
  | [], vs, h => by simp [resE] at h; subst h; simp
  | .tmp t :: r, vs, h => by
    simp only [resE] at h
    cases ht : look env t with
    | none => rw [ht] at h; cases h
    | some v =>
      rw [ht] at h
      cases hr : resE env r with
      | none => rw [hr] at h; cases h
      | some us =>
        rw [hr] at h; simp at h; subst h
        have ih := run_resE (w := w) k hr
        rw [List.mapM_cons]
        simp only [Sem.run_bind, Sem.run_pure, Result.andThen_ok, ih]
        simp [resM, k.val t v ht, ih]
  | .cell _ _ :: _, vs, h => by simp [resE] at h

theorem results_of {w : World} {a : Act} {fn : Func} {vs : List Value} (k : Ok n ds env a) (h : resE env fn.results.toList = some vs) : (results fn a.tmps).run P w = .ok (tup vs) w := by
  have := run_resE (P := P) (w := w) k h
  have e : results fn a.tmps = (do let vs ← fn.results.mapM (resM a.tmps); pure (if h : vs.size = 1 then vs[0] else .tuple vs)) := rfl
  rw [e, ← Array.toArray_toList (xs := fn.results), List.mapM_toArray]
  simp only [Sem.run_bind, Sem.run_map, this, Result.andThen_ok]
  cases vs with
  | nil => simp [tup]
  | cons v r => cases r <;> simp [tup]

theorem post_ret {fn : Func} {R : Ending → World → Prop} {a : Act} {w : World} {v : Value} (hd : a.defers = []) (hr : (results fn a.tmps).run P w = .ok v w) (hR : R (.returned v) w) : LeavesInM (fe none) 0 P fn a.tmps R a.defers .returning w := by
  rw [hd]; exact ⟨v, hr, hR⟩
theorem f_ret {fn : Func} {R : Value → List Asrt → Prop} {vs : List Value} (hr : resE env fn.results.toList = some vs) (hR : R (tup vs) L) : FinJ P n [] F L env .ret (FnPost P fn F R) := .mk fun w a s k =>
  post_ret k.defers (results_of k hr) ⟨_, _, rfl, hR, s⟩
theorem f_end {fn : Func} {R : Value → List Asrt → Prop} {vs : List Value} (hr : resE env fn.results.toList = some vs) (hR : R (tup vs) L) : FinJ P n [] F L env .normal (FnPost P fn F R) := .mk fun w a s k =>
  post_ret k.defers (results_of k hr) ⟨_, _, rfl, hR, s⟩

theorem fn_open {f : FuncId} {args : List Value} {A : Asrt} {pre M : List Asrt} {R : Value → List Asrt → Prop} {X : Type} {φ : X → Prop} {N : X → List Asrt} [h : Opens A X φ N] (ht : Rem pre A M)
    (k : ∀ x, φ x → Fn P f args (N x ++ M) R) : Fn P f args pre R := .mk fun F w s => by
  obtain ⟨h1, h2, h3, r, hc, hf, hr, hs⟩ := s
  obtain ⟨u, v, huv, rfl, hA, hR⟩ := sep_perm ht.perm hs
  obtain ⟨x, hx, hM⟩ := h.out u hA
  exact (k x hx).out F w ⟨h1, h2, h3, _, hc, hf, hr, sep_append huv hM hR⟩

/-- A contract in a greater state, told otherwise. -/
theorem Fn.frame {f : FuncId} {args : List Value} {pre pre' M : List Asrt} {R R' : Value → List Asrt → Prop} (h : Fn P f args pre R) (ht : Takes pre' pre M)
    (k : ∀ v L, R v L → ∃ v' L', R' v' L' ∧ v = v' ∧ Ent (L ++ M) L') : Fn P f args pre' R' := .mk fun F w s => by
  obtain ⟨F', s', hb⟩ := s.frame ht
  refine (h.out F' w s').mono fun e w' => ?_
  rintro ⟨v, L, rfl, hR, s''⟩
  obtain ⟨v', L', hR', rfl, hE⟩ := k v L hR
  exact ⟨v, L', rfl, hR', (hb _ _ s'').ent hE⟩

theorem o_call {f : FuncId} {args : Array Operand} {ats : Array TypeId} {vs : List Value} {pre M : List Asrt} {R : Value → List Asrt → Prop} [hc : Callee P f] (hargs : evs env args.toList = some vs)
    (hf : Fn P f vs pre R) (ht : Takes L pre M) (hd : fits n dt = true) (h : ∀ v L', R v L' → OpsJ P n ds F (L' ++ M) (putE env dt v) ops rest Q) :
    OpsJ P n ds F L env ops (⟨dt, .call ⟨.value (.func f), args, ats⟩, ty, pos, af, none⟩ :: rest) Q := .mk fun w a s k => by
  refine wpList_plain rfl fun K hK => ?_
  obtain ⟨F', s', hback⟩ := s.frame ht
  have he : (execOp a.eval ⟨dt, .call ⟨.value (.func f), args, ats⟩, ty, pos, af, none⟩).run P w = .ok (.enter f ⟨vs⟩) w := by
    simp [execOp, resolve, k.evsA hargs, Act.eval, Deferred.ofValue, invoke, hc.run]
  unfold Oper.wp
  rw [he, Oper.upon_enter]
  refine (hf.out F' w s').mono fun e w' => ?_
  rintro ⟨v, L', rfl, hR, s''⟩
  exact hK _ _ ((h v L' hR).out w' _ (hback _ _ s'') (k.put hd v))

theorem o_call_val {c : Operand} {f : FuncId} {fs cs : List Value} {args : Array Operand} {ats : Array TypeId} {vs : List Value} {pre M : List Asrt} {R : Value → List Asrt → Prop} [hc : Callee P f]
    (hx : ev env c = some (.func (.func f) ⟨fs⟩ ⟨cs⟩)) (hargs : evs env args.toList = some vs)
    (hf : Fn P f (fs ++ vs ++ cs) pre R) (ht : Takes L pre M) (hd : fits n dt = true) (h : ∀ v L', R v L' → OpsJ P n ds F (L' ++ M) (putE env dt v) ops rest Q) :
    OpsJ P n ds F L env ops (⟨dt, .call ⟨.value c, args, ats⟩, ty, pos, af, none⟩ :: rest) Q := .mk fun w a s k => by
  refine wpList_plain rfl fun K hK => ?_
  obtain ⟨F', s', hback⟩ := s.frame ht
  have he : (execOp a.eval ⟨dt, .call ⟨.value c, args, ats⟩, ty, pos, af, none⟩).run P w = .ok (.enter f ⟨fs ++ vs ++ cs⟩) w := by
    have e := k.ev hx
    simp [execOp, resolve, k.evsA hargs, e, Deferred.ofValue, invoke, hc.run]
  unfold Oper.wp
  rw [he, Oper.upon_enter]
  refine (hf.out F' w s').mono fun e w' => ?_
  rintro ⟨v, L', rfl, hR, s''⟩
  exact hK _ _ ((h v L' hR).out w' _ (hback _ _ s'') (k.put hd v))

end
end Go.Lun

/- A statement whose order of evaluation is open: one order of our choice stands for all, where what is read is held. -/
namespace Go.Lun

theorem getD_both {listed : Array Bool} {i : Nat} (h : listed.getD i true = false) : listed.getD i false = false := by
  rcases Nat.lt_or_ge i listed.size with h' | h'
  · simp [h'] at h ⊢; exact h
  · simp [Array.getElem?_eq_none h'] at h
theorem getD_replicate_false (m j : Nat) : (Array.replicate m false).getD j false = false := by
  rcases Nat.lt_or_ge j m with h' | h'
  · simp [h']
  · simp [h']

/-- Operation i comes ahead of operation k. -/
inductive Anc (ops : Array Oper) : Nat → Nat → Prop
  | one {i k : Nat} {o : Oper} {e : Edge} : ops[k]? = some o → e ∈ o.after → Region.binds .any e = true → e.on = i → Anc ops i k
  | step {i j k : Nat} {o : Oper} {e : Edge} : Anc ops i j → ops[k]? = some o → e ∈ o.after → Region.binds .any e = true → e.on = j → Anc ops i k

def ancB (ops : Array Oper) : Nat → Nat → Nat → Bool
  | 0, _, _ => false
  | f + 1, i, k => match ops[k]? with
    | some o => o.after.any fun e => Region.binds .any e && (e.on == i || ancB ops f i e.on)
    | none => false

theorem ancB_sound {ops : Array Oper} : ∀ {f i k : Nat}, ancB ops f i k = true → Anc ops i k
  | 0, _, _, h => by simp [ancB] at h
  | f + 1, i, k, h => by
    simp only [ancB] at h
    cases ho : ops[k]? with
    | none => rw [ho] at h; cases h
    | some o =>
      rw [ho] at h
      obtain ⟨e, he, hb⟩ := Array.any_eq_true'.1 h
      simp only [Bool.and_eq_true, Bool.or_eq_true, beq_iff_eq] at hb
      rcases hb.2 with h1 | h1
      · exact .one ho he hb.1 h1
      · exact .step (ancB_sound h1) ho he hb.1 rfl

/-- Whoever is listed has all that it waits for listed. -/
def Down (ops : Array Oper) (listed : Array Bool) : Prop := ∀ k o e, ops[k]? = some o → listed.getD k false = true → e ∈ o.after → Region.binds .any e = true → listed.getD e.on false = true

theorem Down.anc {ops : Array Oper} {listed : Array Bool} (h : Down ops listed) {i k : Nat} (ha : Anc ops i k) : listed.getD k false = true → listed.getD i false = true := by
  induction ha with
  | one ho he hb hi => intro hk; subst hi; exact h _ _ _ ho hk he hb
  | step _ ho he hb hj ih => intro hk; subst hj; exact ih (h _ _ _ ho hk he hb)

theorem Down.none {ops : Array Oper} {m : Nat} : Down ops (Array.replicate m false) := fun k o e _ hk => by
  rw [getD_replicate_false] at hk; cases hk

theorem getD_set_or {listed : Array Bool} {i k : Nat} (h : (listed.setIfInBounds i true).getD k false = true) : k = i ∨ listed.getD k false = true := by
  by_cases e : i = k
  · exact .inl e.symm
  · rw [getD_set_ne false e] at h; exact .inr h

theorem Down.set {ops : Array Oper} {listed : Array Bool} (h : Down ops listed) {i : Nat} (hi : i ∈ Region.ready .any ops listed) : Down ops (listed.setIfInBounds i true) := fun k o e ho hk he hb => by
  obtain ⟨hun, oi, hoi, hall⟩ := mem_ready.1 hi
  refine getD_set_true ?_
  rcases getD_set_or hk with rfl | hk
  · have hoo := ho.symm.trans hoi
    injection hoo with hoo; subst hoo
    exact hall e he hb
  · exact h k o e ho hk he hb

abbrev Owed := List (Nat × (World → Prop))

section
variable {P : Program} {ops : Array Oper} {Q : Post} {eff : Nat → Bool}

/-- What is owed to those who were taken first: it holds, unless an effect that waits for them has come. -/
def Obl (ops : Array Oper) (eff : Nat → Bool) (T : Owed) (listed : Array Bool) (w : World) : Prop :=
  ∀ x ∈ T, (∃ e, eff e = true ∧ listed.getD e false = true ∧ Anc ops x.1 e) ∨ x.2 w

def wpT (P : Program) (ops : Array Oper) (eff : Nat → Bool) (Q : Post) (T : Owed) : Nat → Array Bool → Act → World → Prop
  | 0, listed, a, w => Region.ready .any ops listed = [] ∧ Q .normal a w
  | f + 1, listed, a, w => (Region.ready .any ops listed = [] → Q .normal a w) ∧
    ∀ i ∈ Region.ready .any ops listed, wpOp P ops Q i (fun a' w' => Obl ops eff T (listed.setIfInBounds i true) w' ∧ wpT P ops eff Q T f (listed.setIfInBounds i true) a' w') a w

theorem wpT_any {T : Owed} : ∀ {f : Nat} {listed : Array Bool} {a : Act} {w : World}, wpT P ops eff Q T f listed a w → wpAny P .any ops Q f listed a w
  | 0, _, _, _, h => h
  | _ + 1, _, _, _, h => ⟨h.1, fun i hi => wpOp_mono (fun _ _ h' => wpT_any h'.2) (h.2 i hi)⟩

theorem Obl.set {T : Owed} {listed : Array Bool} {w : World} (h : Obl ops eff T listed w) (i : Nat) : Obl ops eff T (listed.setIfInBounds i true) w := fun x hx => by
  rcases h x hx with ⟨e, h1, h2, h3⟩ | h
  · exact .inl ⟨e, h1, getD_set_true h2, h3⟩
  · exact .inr h

theorem Obl.back {T : Owed} {listed : Array Bool} {w : World} {i : Nat} (hi : eff i = false) (h : Obl ops eff T (listed.setIfInBounds i true) w) : Obl ops eff T listed w := fun x hx => by
  rcases h x hx with ⟨e, h1, h2, h3⟩ | h
  · rcases getD_set_or h2 with rfl | h2
    · rw [hi] at h1; cases h1
    · exact .inl ⟨e, h1, h2, h3⟩
  · exact .inr h

theorem Anc.ready {listed : Array Bool} {i j : Nat} (hd : Down ops listed) (ha : Anc ops i j) (hj : j ∈ Region.ready .any ops listed) : listed.getD i false = true := by
  obtain ⟨_, oj, hoj, hall⟩ := mem_ready.1 hj
  cases ha with
  | one ho he hb hi =>
    have hoo := ho.symm.trans hoj
    injection hoo with hoo; subst hoo; subst hi
    exact hall _ he hb
  | step ha ho he hb hj' =>
    have hoo := ho.symm.trans hoj
    injection hoo with hoo; subst hoo; subst hj'
    exact hd.anc ha (hall _ he hb)

theorem unlisted {listed : Array Bool} {i : Nat} (h : listed.getD i true = false) : listed.getD i false = false := getD_both h

theorem wpT_first {i : Nat} {oi : Oper} {v : Value} {S : World → Prop} (hi : ops[i]? = some oi) (he : eff i = false) (hsel : ∀ (j : Nat) (o : Oper) cs b, ops[j]? = some o → o.op ≠ .select cs b)
    (hQ : ∀ c a w, Q (.panic c) (a.put oi.dst v) w → Q (.panic c) a w) {T : Owed} :
    ∀ (f : Nat) (listed : Array Bool) (a : Act) (w : World),
      (∀ j oj, ops[j]? = some oj → j ≠ i → listed.getD j true = false → (∀ e ∈ oj.after, Region.binds .any e = true → e.on ≠ i) → oi.apart ops oj = true) →
      Down ops listed → i ∈ Region.ready .any ops listed → YieldsIf P ops S oi v a → S w → Obl ops eff T listed w →
      wpT P ops eff Q ((i, S) :: T) f (listed.setIfInBounds i true) (a.put oi.dst v) w → wpT P ops eff Q T (f + 1) listed a w := by
  intro f
  have weaken : ∀ (f : Nat) (listed : Array Bool) (a : Act) (w : World), wpT P ops eff Q ((i, S) :: T) f listed a w → wpT P ops eff Q T f listed a w := by
    intro f
    induction f with
    | zero => intro _ _ _ h; exact h
    | succ f ih => intro listed a w h; exact ⟨h.1, fun j hj => wpOp_mono (fun _ _ h' => ⟨fun x hx => h'.1 x (List.mem_cons_of_mem _ hx), ih _ _ _ h'.2⟩) (h.2 j hj)⟩
  induction f with
  | zero =>
    intro listed a w _ hd hr hy hS hO H
    refine ⟨fun h => (by rw [h] at hr; cases hr), fun j hj => ?_⟩
    by_cases hji : j = i
    · subst hji; exact hy.wpOp hi hS ⟨hO.set _, H⟩
    · have := ready_mono hj hji
      rw [H.1] at this
      cases this
  | succ f ih =>
    intro listed a w hfree hd hr hy hS hO H
    refine ⟨fun h => (by rw [h] at hr; cases hr), fun j hj => ?_⟩
    by_cases hji : j = i
    · subst hji; exact hy.wpOp hi hS ⟨hO.set _, weaken _ _ _ _ H⟩
    · have h1 := H.2 j (ready_mono hj hji)
      obtain ⟨hjun, oj, hoj, hall⟩ := mem_ready.1 hj
      have hiun := (mem_ready.1 hr).1
      have hnot : ∀ e ∈ oj.after, Region.binds .any e = true → e.on ≠ i := fun e he hb heq => by
        have h1 := hall e he hb
        rw [heq, unlisted hiun] at h1; cases h1
      have h2 := wpOp_putIf hoj (hfree j oj hoj hji hjun hnot) (fun cs b => hsel i oi cs b hi) (fun cs b => hsel j oj cs b hoj) hQ hy h1
      have hfree' : ∀ k ok, ops[k]? = some ok → k ≠ i → (listed.setIfInBounds j true).getD k true = false →
          (∀ e ∈ ok.after, Region.binds .any e = true → e.on ≠ i) → oi.apart ops ok = true := fun k ok hk hki hun hno => by
        refine hfree k ok hk hki ?_ hno
        by_cases hjk : j = k
        · subst hjk; exact hjun
        · rw [getD_set_ne true hjk] at hun; exact hun
      refine wpOp_mono (fun a' w' h3 => ?_) h2
      obtain ⟨hy', hO', hW'⟩ := h3
      rw [Array.setIfInBounds_comm _ _ (Ne.symm hji)] at hO' hW'
      have hS' : S w' := by
        rcases hO' (i, S) (by simp) with ⟨e, g1, g2, g3⟩ | h
        · exfalso
          rcases getD_set_or g2 with rfl | g2
          · rw [he] at g1; cases g1
          · rcases getD_set_or g2 with rfl | g2
            · have := g3.ready hd hj; rw [unlisted hiun] at this; cases this
            · have := hd.anc g3 g2; rw [unlisted hiun] at this; cases this
        · exact h
      have hOT : Obl ops eff T (listed.setIfInBounds j true) w' := Obl.back he (fun x hx => hO' x (List.mem_cons_of_mem _ hx))
      exact ⟨hOT, ih (listed.setIfInBounds j true) a' w' hfree' (hd.set hj) (ready_mono hr (Ne.symm hji)) hy' hS' hOT hW'⟩

theorem wpT_sole {T : Owed} {i f : Nat} {listed : Array Bool} {a : Act} {w : World} (hr : Region.ready .any ops listed = [i])
    (h : wpOp P ops Q i (fun a' w' => Obl ops eff T (listed.setIfInBounds i true) w' ∧ wpT P ops eff Q T f (listed.setIfInBounds i true) a' w') a w) : wpT P ops eff Q T (f + 1) listed a w :=
  ⟨fun h0 => (by rw [hr] at h0; cases h0), fun j hj => by rw [hr, List.mem_singleton] at hj; subst hj; exact h⟩

end

/-- The judgement: in every world of the state, whatever order is drawn from here on. -/
structure PlJ (P : Program) (n : Nat) (ds : List Deferred) (F : Fr) (L : List Asrt) (env : Env) (ops : Array Oper) (eff : Nat → Bool) (T : Owed) (f : Nat) (listed : Array Bool) (Q : Post) : Prop where
  down : Down ops listed
  out : ∀ w a, St F L w → Ok n ds env a → Obl ops eff T listed w → wpT P ops eff Q T f listed a w

section
variable {P : Program} {n : Nat} {ds : List Deferred} {F : Fr} {L : List Asrt} {env : Env} {Q : Post} {ops : Array Oper} {eff : Nat → Bool} {T : Owed} {f : Nat} {listed : Array Bool}

/-- Which numbers are effects: a list. -/
def effs (l : List Nat) (i : Nat) : Bool := l.contains i

theorem pl_start {id : Nat} (el : List Nat) (hm : P.follows .mixedOrders = true) [hQ : NoOut Q]
    (h : Down ops (Array.replicate ops.size false) → PlJ P n ds F L env ops (effs el) [] ops.size (Array.replicate ops.size false) Q) (hnd : noDef ops.toList = true := by kernel_rfl) : CodeJ P n ds F L env (.region id ops true) Q := .mk fun w a s o =>
  wpr_draw hm hnd (wpT_any ((h Down.none).2 _ a (s.drew _) o (fun x hx => by cases hx)))

/-- All at once, that an operation may be taken first. -/
def takeB (n : Nat) (ops : Array Oper) (eff : Nat → Bool) (listed : Array Bool) (i : Nat) : Bool :=
  !eff i && Region.noSelect ops && Region.free .any ops listed i && (Region.ready .any ops listed).contains i && (match ops[i]? with | some o => fits n o.dst && o.guard.isNone | none => false)

class Calm (Q : Post) : Prop where
  out : ∀ c a a' w, Q (.panic c) a w → a.defers = a'.defers → Q (.panic c) a' w
instance {K : Act → World → Prop} {Q : Post} [h : Calm Q] : Calm (Exit.then K Q) := ⟨fun c a a' w k e => h.out c a a' w k e⟩
instance {id : Nat} {Q : Post} [h : Calm Q] : Calm (Exit.inBlock id Q) := ⟨fun c a a' w k e => h.out c a a' w k e⟩
instance {ro : Option Nat} {P : Program} {c : Code} {Q : Post} [h : Calm Q] : Calm (Round ro P c Q) := ⟨fun c a a' w k e => h.out c a a' w k e⟩
instance {X : Type} {n : Nat} {ds : List Deferred} {F : Fr} {M : X → List Asrt} {e : X → Env} {Q : Post} [h : Calm Q] : Calm (Cut n ds F M e Q) := ⟨fun c a a' w k e => h.out c a a' w k e⟩
instance {P : Program} {fn : Func} {F : Fr} {R : Value → List Asrt → Prop} : Calm (FnPost P fn F R) := ⟨fun c a a' w k e => k⟩

theorem put_defers' (a : Act) (d : Option Tmp) (v : Value) : (a.put d v).defers = a.defers := by cases d <;> rfl

/-- Taken first: what yields the same in every world in which others' blocks are as they are. -/
theorem pl_take {i : Nat} {d : Tmp} {op : Op} {ty : TypeId} {pos : String} {af : Array Edge} {v : Value} (hi : ops[i]? = some ⟨some d, op, ty, pos, af, none⟩) (ht : takeB n ops eff listed i = true) [hQ : Calm Q]
    (hy : Yld P n ds F.bare [] env ⟨some d, op, ty, pos, af, none⟩ v)
    (h : Down ops (listed.setIfInBounds i true) → PlJ P n ds F L ((d, v) :: env) ops eff ((i, fun w => w.os = F.os ∧ w.output = F.out ∧ Sat F.res w) :: T) f (listed.setIfInBounds i true) Q)
    (hd : Down ops listed) : PlJ P n ds F L env ops eff T (f + 1) listed Q := by
  simp only [takeB, hi, Bool.and_eq_true, Bool.not_eq_true'] at ht
  obtain ⟨⟨⟨⟨h1, h2⟩, h3⟩, h4⟩, h5, _⟩ := ht
  have hr : i ∈ Region.ready .any ops listed := by simpa using h4
  have hd' := hd.set hr
  refine ⟨hd, fun w a s k hO => ?_⟩
  have hS : w.os = F.os ∧ w.output = F.out ∧ Sat F.res w := by obtain ⟨a1, a2, _, _, _, hf, _, _⟩ := s; exact ⟨a1, a2, hf⟩
  refine wpT_first (v := v) (S := fun w => w.os = F.os ∧ w.output = F.out ∧ Sat F.res w) hi h1 (Region.noSelect_spec h2) (fun c b w' hq => hQ.out c _ _ w' hq (put_defers' _ _ _)) f listed a w (Region.free_spec hi h3) hd hr ?_ hS hO ?_
  · exact .inl ⟨rfl, fun w' ⟨b1, b2, b3⟩ => hy.out w' a ⟨b1, b2, Nat.zero_le _, fun _ => none, (fun _ _ _ _ _ _ h => by cases h), b3, (fun _ _ _ h => by cases h), trivial⟩ k⟩
  · refine (h hd').2 w _ s (k.put (d := some d) h5 v) ?_
    intro x hx
    rcases List.mem_cons.1 hx with rfl | hx
    · exact .inr hS
    · exact hO.set i x hx

/-- What is not carried out (its guard says no). -/
theorem pl_skip {i : Nat} {d : Tmp} {op : Op} {ty : TypeId} {pos : String} {af : Array Edge} {j : Nat} {b : Bool} (hi : ops[i]? = some ⟨some d, op, ty, pos, af, some (j, b)⟩)
    (ht : (!eff i && Region.noSelect ops && Region.free .any ops listed i && (Region.ready .any ops listed).contains i && Nat.blt d n) = true) [hQ : Calm Q]
    (hy : yieldE env ops j = some (!b))
    (h : Down ops (listed.setIfInBounds i true) → PlJ P n ds F L ((d, undef) :: env) ops eff ((i, fun _ => True) :: T) f (listed.setIfInBounds i true) Q)
    (hd : Down ops listed) : PlJ P n ds F L env ops eff T (f + 1) listed Q := by
  simp only [Bool.and_eq_true, Bool.not_eq_true'] at ht
  obtain ⟨⟨⟨⟨h1, h2⟩, h3⟩, h4⟩, h5⟩ := ht
  have hr : i ∈ Region.ready .any ops listed := by simpa using h4
  have hd' := hd.set hr
  refine ⟨hd, fun w a s k hO => ?_⟩
  refine wpT_first (v := undef) (S := fun _ => True) hi h1 (Region.noSelect_spec h2) (fun c b w' hq => hQ.out c _ _ w' hq (put_defers' _ _ _)) f listed a w (Region.free_spec hi h3) hd hr ?_ trivial hO ?_
  · exact .inr ⟨by simp [Region.wanted, yieldE_eq k hy], rfl⟩
  · refine (h hd').2 w _ s (k.put (d := some d) h5 undef) ?_
    intro x hx
    rcases List.mem_cons.1 hx with rfl | hx
    · exact .inr trivial
    · exact hO.set i x hx

/-- Taken first, its guard says yes. -/
theorem pl_want {i : Nat} {d : Tmp} {op : Op} {ty : TypeId} {pos : String} {af : Array Edge} {j : Nat} {b : Bool} {v : Value} (hi : ops[i]? = some ⟨some d, op, ty, pos, af, some (j, b)⟩)
    (ht : (!eff i && Region.noSelect ops && Region.free .any ops listed i && (Region.ready .any ops listed).contains i && Nat.blt d n) = true) [hQ : Calm Q]
    (hg : yieldE env ops j = some b) (hy : Yld P n ds F.bare [] env ⟨some d, op, ty, pos, af, some (j, b)⟩ v)
    (h : Down ops (listed.setIfInBounds i true) → PlJ P n ds F L ((d, v) :: env) ops eff ((i, fun w => w.os = F.os ∧ w.output = F.out ∧ Sat F.res w) :: T) f (listed.setIfInBounds i true) Q)
    (hd : Down ops listed) : PlJ P n ds F L env ops eff T (f + 1) listed Q := by
  simp only [Bool.and_eq_true, Bool.not_eq_true'] at ht
  obtain ⟨⟨⟨⟨h1, h2⟩, h3⟩, h4⟩, h5⟩ := ht
  have hr : i ∈ Region.ready .any ops listed := by simpa using h4
  have hd' := hd.set hr
  refine ⟨hd, fun w a s k hO => ?_⟩
  have hS : w.os = F.os ∧ w.output = F.out ∧ Sat F.res w := by obtain ⟨a1, a2, _, _, _, hf, _, _⟩ := s; exact ⟨a1, a2, hf⟩
  refine wpT_first (v := v) (S := fun w => w.os = F.os ∧ w.output = F.out ∧ Sat F.res w) hi h1 (Region.noSelect_spec h2) (fun c b w' hq => hQ.out c _ _ w' hq (put_defers' _ _ _)) f listed a w (Region.free_spec hi h3) hd hr ?_ hS hO ?_
  · exact .inl ⟨by simp [Region.wanted, yieldE_eq k hg], fun w' ⟨b1, b2, b3⟩ => hy.out w' a ⟨b1, b2, Nat.zero_le _, fun _ => none, (fun _ _ _ _ _ _ h => by cases h), b3, (fun _ _ _ h => by cases h), trivial⟩ k⟩
  · refine (h hd').2 w _ s (k.put (d := some d) h5 v) ?_
    intro x hx
    rcases List.mem_cons.1 hx with rfl | hx
    · exact .inr hS
    · exact hO.set i x hx

/-- What is owed holds in every world of a state. -/
def Owes (ops : Array Oper) (eff : Nat → Bool) (F : Fr) (T : Owed) (listed : Array Bool) : Prop := ∀ w, w.os = F.os ∧ w.output = F.out ∧ Sat F.res w → Obl ops eff T listed w

/-- An effect that alone may come up. -/
theorem pl_sole {i : Nat} {o : Oper} (hr : Region.ready .any ops listed = [i]) (hi : ops[i]? = some o)
    (h : Down ops (listed.setIfInBounds i true) → OpsJ P n ds F L env ops [o] (Exit.then (fun a w => Obl ops eff T (listed.setIfInBounds i true) w ∧ wpT P ops eff Q T f (listed.setIfInBounds i true) a w) Q))
    (hd : Down ops listed) : PlJ P n ds F L env ops eff T (f + 1) listed Q := by
  have hd' := hd.set (i := i) (by rw [hr]; simp)
  refine ⟨hd, fun w a s k _ => wpT_sole hr ?_⟩
  have := (h hd').out w a s k
  unfold wpList at this
  unfold wpOp
  simp only [hi]
  split
  · rename_i hw
    rw [if_pos hw] at this
    rcases this with h1 | ⟨h1, h2⟩
    · left
      unfold Oper.wp at *
      generalize (execOp a.eval o).run P w = r at *
      cases r with
      | ok nx w' =>
        cases nx <;> simp only [Oper.upon, wpList] at h1 ⊢ <;> first | exact h1 | skip
      | halt x w' => cases x <;> simp only [Oper.upon] at h1 ⊢ <;> first | exact h1 | skip
    · right; exact ⟨h1, h2⟩
  · rename_i hw
    rw [if_neg hw] at this
    exact this

theorem wpOp_of_list {i : Nat} {o : Oper} {a : Act} {w : World} {K : Act → World → Prop} (hi : ops[i]? = some o) (h : wpList P ops (Exit.then K Q) [o] a w) : wpOp P ops Q i K a w := by
  unfold wpList at h
  unfold wpOp
  simp only [hi]
  split
  · rename_i hw
    rw [if_pos hw] at h
    rcases h with h1 | ⟨h1, h2⟩
    · left
      unfold Oper.wp at *
      generalize (execOp a.eval o).run P w = r at *
      cases r with
      | ok nx w' => cases nx <;> simp only [Oper.upon, wpList] at h1 ⊢ <;> first | exact h1 | skip
      | halt x w' => cases x <;> simp only [Oper.upon] at h1 ⊢ <;> first | exact h1 | skip
    · right; exact ⟨h1, h2⟩
  · rename_i hw
    rw [if_neg hw] at h
    exact h

/-- Two effects, of which either may come first. -/
theorem pl_two {i j : Nat} {o o' : Oper} (hr : Region.ready .any ops listed = [i, j]) (hi : ops[i]? = some o) (hj : ops[j]? = some o')
    (h1 : Down ops (listed.setIfInBounds i true) → OpsJ P n ds F L env ops [o] (Exit.then (fun a w => Obl ops eff T (listed.setIfInBounds i true) w ∧ wpT P ops eff Q T f (listed.setIfInBounds i true) a w) Q))
    (h2 : Down ops (listed.setIfInBounds j true) → OpsJ P n ds F L env ops [o'] (Exit.then (fun a w => Obl ops eff T (listed.setIfInBounds j true) w ∧ wpT P ops eff Q T f (listed.setIfInBounds j true) a w) Q))
    (hd : Down ops listed) : PlJ P n ds F L env ops eff T (f + 1) listed Q := by
  have hd1 := hd.set (i := i) (by rw [hr]; simp)
  have hd2 := hd.set (i := j) (by rw [hr]; simp)
  refine ⟨hd, fun w a s k _ => ⟨fun h0 => (by rw [hr] at h0; cases h0), fun x hx => ?_⟩⟩
  rw [hr] at hx
  rcases List.mem_cons.1 hx with rfl | hx
  · exact wpOp_of_list hi ((h1 hd1).out w a s k)
  · rw [List.mem_singleton] at hx; subst hx
    exact wpOp_of_list hj ((h2 hd2).out w a s k)

/-- Behind an effect: the state tells what is owed. -/
theorem pl_back {listed' : Array Bool} (hO : Owes ops eff F T listed') (h : Down ops listed' → PlJ P n ds F L env ops eff T f listed' Q) (hd : Down ops listed') :
    OpsJ P n ds F L env ops [] (Exit.then (fun a w => Obl ops eff T listed' w ∧ wpT P ops eff Q T f listed' a w) Q) := .mk fun w a s k => by
  have hS : w.os = F.os ∧ w.output = F.out ∧ Sat F.res w := by obtain ⟨a1, a2, _, _, _, hf, _, _⟩ := s; exact ⟨a1, a2, hf⟩
  exact ⟨hO w hS, (h hd).2 w a s k (hO w hS)⟩

theorem Owes.nil {F : Fr} {listed : Array Bool} : Owes ops eff F [] listed := fun _ _ _ h => by cases h
theorem Owes.same {F : Fr} {T : Owed} {listed : Array Bool} {i : Nat} (h : Owes ops eff F T listed) : Owes ops eff F ((i, fun w => w.os = F.os ∧ w.output = F.out ∧ Sat F.res w) :: T) listed := fun w hw x hx => by
  rcases List.mem_cons.1 hx with rfl | hx
  · exact .inr hw
  · exact h w hw x hx
theorem Owes.any {F : Fr} {T : Owed} {listed : Array Bool} {i : Nat} (h : Owes ops eff F T listed) : Owes ops eff F ((i, fun _ => True) :: T) listed := fun w hw x hx => by
  rcases List.mem_cons.1 hx with rfl | hx
  · exact .inr trivial
  · exact h w hw x hx
theorem Owes.waived {F : Fr} {T : Owed} {listed : Array Bool} {i : Nat} {S : World → Prop} (e : Nat) (he : (eff e && listed.getD e false && ancB ops ops.size i e) = true) (h : Owes ops eff F T listed) :
    Owes ops eff F ((i, S) :: T) listed := fun w hw x hx => by
  simp only [Bool.and_eq_true] at he
  rcases List.mem_cons.1 hx with rfl | hx
  · exact .inl ⟨e, he.1.1, he.1.2, ancB_sound he.2⟩
  · exact h w hw x hx

theorem pl_done (hr : Region.ready .any ops listed = []) (h : FinJ P n ds F L env .normal Q) (hd : Down ops listed) : PlJ P n ds F L env ops eff T f listed Q := ⟨hd, fun w a s k _ => by
  cases f with
  | zero => exact ⟨hr, h.out w a s k⟩
  | succ f => exact ⟨fun _ => h.out w a s k, fun i hi => by rw [hr] at hi; cases hi⟩⟩

/-- Blocks held; let go again. -/
theorem pl_lock {A : Asrt} {p : Bool} {b : Nat} {o : Obj} {R : List Asrt} [ha : AtB A p b o] (hr : Rem L A R) (hT : T = [])
    (h : ∀ hb, PlJ P n ds (F.lock p b o hb) R env ops eff [] f listed Q) (hd : Down ops listed) : PlJ P n ds F L env ops eff T f listed Q := ⟨hd, fun w a s k hO => by
  subst hT
  obtain ⟨hb, s'⟩ := s.lock hr
  exact (h hb).2 w a s' k hO⟩
theorem o_unlock {A : Asrt} {p : Bool} {b : Nat} {o : Obj} {hb : Compat (Bk p b o) F.res} {l : List Oper} [ha : AtB A p b o] (h : OpsJ P n ds F (A :: L) env ops l Q) : OpsJ P n ds (F.lock p b o hb) L env ops l Q :=
  .mk fun w a s k => h.out w a s.unlock k
theorem f_unlock {A : Asrt} {p : Bool} {b : Nat} {o : Obj} {hb : Compat (Bk p b o) F.res} {e : Exit} [ha : AtB A p b o] (h : FinJ P n ds F (A :: L) env e Q) : FinJ P n ds (F.lock p b o hb) L env e Q :=
  .mk fun w a s k => h.out w a s.unlock k

end
end Go.Lun

/- Slices, maps, builtins: the rest of the operations. -/
namespace Go.Lun

section
variable {P : Program} {n : Nat} {ds : List Deferred} {F : Fr} {L : List Asrt} {env : Env} {Q : Post} {ops : Array Oper} {rest : List Oper}
variable {dt : Option Tmp} {d : Tmp} {ty : TypeId} {pos : String} {af : Array Edge} {g : Option (Nat × Bool)}

theorem run_builtin {b : Builtin} {args : Array Operand} {ats : Array TypeId} {vs : List Value} {a : Act} (k : Ok n ds env a) (h : evs env args.toList = some vs) :
    execOp a.eval ⟨dt, .call ⟨.builtin b, args, ats⟩, ty, pos, af, g⟩ = builtin b ats ty (args.map fun | .const _ => true | _ => false) ⟨vs⟩ := by
  simp only [execOp, resolve, k.evsA h]
  rfl

theorem y_len_slice {x : Operand} {t : TypeId} {e : TypeId} {z : Value} {sz by_ : Nat} {a0 : Option Addr} {len cap : Nat} [Ty P t (.slice e) z sz by_] (hx : ev env x = some (.slice a0 len cap)) :
    Yld P n ds F L env ⟨dt, .call ⟨.builtin .len, #[x], #[t]⟩, ty, pos, af, g⟩ (.int .i64 (len : Int)) := .mk fun w a s k => by
  rw [run_builtin k (vs := [.slice a0 len cap]) (by simp [evs, hx])]
  simp [builtin, Builtin.len_, run_und, goInt]
theorem y_len_string {x : Operand} {t : TypeId} {z : Value} {sz by_ : Nat} {s : ByteArray} [Ty P t .string z sz by_] (hx : ev env x = some (.string s)) :
    Yld P n ds F L env ⟨dt, .call ⟨.builtin .len, #[x], #[t]⟩, ty, pos, af, g⟩ (.int .i64 (s.size : Int)) := .mk fun w a _ k => by
  rw [run_builtin k (vs := [.string s]) (by simp [evs, hx])]
  simp [builtin, Builtin.len_, run_und, goInt]
theorem y_max {x y : Operand} {ats : Array TypeId} {k0 : IntKind} {a0 b0 : Int} (hx : ev env x = some (.int k0 a0)) (hy : ev env y = some (.int k0 b0)) :
    Yld P n ds F L env ⟨dt, .call ⟨.builtin .max, #[x, y], ats⟩, ty, pos, af, g⟩ (.int k0 (max a0 b0)) := .mk fun w a _ k => by
  rw [run_builtin k (vs := [.int k0 a0, .int k0 b0]) (by simp [evs, hx, hy])]
  simp only [builtin, Builtin.max_, Builtin.max2, List.foldlM, Sem.run_bind, Sem.run_pure, Result.andThen_ok, pure_bind, bind_pure]
  have : max a0 b0 = if b0 > a0 then b0 else a0 := by split <;> omega
  rw [this]
theorem y_min {x y : Operand} {ats : Array TypeId} {k0 : IntKind} {a0 b0 : Int} (hx : ev env x = some (.int k0 a0)) (hy : ev env y = some (.int k0 b0)) :
    Yld P n ds F L env ⟨dt, .call ⟨.builtin .min, #[x, y], ats⟩, ty, pos, af, g⟩ (.int k0 (min a0 b0)) := .mk fun w a _ k => by
  rw [run_builtin k (vs := [.int k0 a0, .int k0 b0]) (by simp [evs, hx, hy])]
  simp only [builtin, Builtin.min_, Builtin.min2, List.foldlM, Sem.run_bind, Sem.run_pure, Result.andThen_ok, pure_bind, bind_pure]
  have : min a0 b0 = if b0 < a0 then b0 else a0 := by split <;> omega
  rw [this]

/-! #### Addresses of elements, parts of slices -/

theorem y_indexAddr {x ix : Operand} {t e : TypeId} {z z' : Value} {s1 b1 sz by_ b off len cap : Nat} {kd : IntKind} {i0 : Int} (i : Nat) {d' : TypeDesc} [Ty P t (.slice e) z s1 b1] [Ty P e d' z' sz by_]
    (hx : ev env x = some (.slice (some ⟨b, off, none⟩) len cap)) (hi : ev env ix = some (.int kd i0)) (h0 : i0 = (i : Int)) (h1 : i < len) :
    Yld P n ds F L env ⟨dt, .indexAddr t x ix, ty, pos, af, g⟩ (.pointer (some ⟨b, off + i * sz, none⟩)) := .mk fun w a _ k => by
  have e1 := k.ev hx
  have e2 := k.ev hi
  subst h0
  have h2 : (0 : Int) ≤ (i : Int) ∧ (i : Int) < (len : Int) := ⟨by omega, by omega⟩
  simp [execOp, e1, e2, Instr.indexAt, asIntOf, run_und, h2, run_size, add_none, h1]

/-- A slice's bound as a number. -/
def bndE (env : Env) : Option Operand → Nat → Option Int
  | none, dflt => some dflt
  | some x, _ => match ev env x with
    | some (.int _ i) => some i
    | _ => none

theorem run_sliceBound {P : Program} {w : World} {kd : IntKind} {i y : Nat} {c : BoundsCode} (h : i ≤ y) : (Instr.sliceBound (.int kd (i : Int)) y c).run P w = .ok i w := by
  have h2 : (0 : Int) ≤ (i : Int) ∧ (i : Int) ≤ (y : Int) := ⟨by omega, by omega⟩
  simp [Instr.sliceBound, asIntOf, h2, h]

theorem y_slice {x : Operand} {lo hi mx : Option Operand} {t e : TypeId} {z z' : Value} {s1 b1 sz by_ b off len cap : Nat} {d' : TypeDesc} (l h m : Nat) [Ty P t (.slice e) z s1 b1] [Ty P e d' z' sz by_]
    (hx : ev env x = some (.slice (some ⟨b, off, none⟩) len cap)) (hl : bndE env lo 0 = some (l : Int)) (hh : bndE env hi len = some (h : Int)) (hm : bndE env mx cap = some (m : Int))
    (hmh : mx.isSome = true → hi.isSome = true) (hlh : l ≤ h) (hhm : h ≤ m) (hmc : m ≤ cap) :
    Yld P n ds F L env ⟨dt, .slice t x lo hi mx, ty, pos, af, g⟩ (.slice (some ⟨b, if m = l then off else off + l * sz, none⟩) (h - l) (m - l)) := .mk fun w a _ k => by
  have e1 := k.ev hx
  have el : ∀ o, lo = some o → ∃ kd, a.eval o = .int kd (l : Int) := fun o ho => by
    subst ho
    simp only [bndE] at hl
    cases hv : ev env o with
    | none => rw [hv] at hl; cases hl
    | some v => rw [hv] at hl; cases v <;> simp at hl; subst hl; exact ⟨_, k.ev hv⟩
  have eh : ∀ o, hi = some o → ∃ kd, a.eval o = .int kd (h : Int) := fun o ho => by
    subst ho
    simp only [bndE] at hh
    cases hv : ev env o with
    | none => rw [hv] at hh; cases hh
    | some v => rw [hv] at hh; cases v <;> simp at hh; subst hh; exact ⟨_, k.ev hv⟩
  have em : ∀ o, mx = some o → ∃ kd, a.eval o = .int kd (m : Int) := fun o ho => by
    subst ho
    simp only [bndE] at hm
    cases hv : ev env o with
    | none => rw [hv] at hm; cases hm
    | some v => rw [hv] at hm; cases v <;> simp at hm; subst hm; exact ⟨_, k.ev hv⟩
  have key : (Instr.sliceBounds true len cap (lo.map a.eval) (hi.map a.eval) (mx.map a.eval)).run P w = .ok (l, h, m) w := by
    unfold Instr.sliceBounds
    cases mx with
    | none =>
      have : m = cap := by simp [bndE] at hm; omega
      subst this
      cases hi with
      | none =>
        have : h = len := by simp [bndE] at hh; omega
        subst this
        cases lo with
        | none => have : l = 0 := by simp [bndE] at hl; omega
                  subst this; simp
        | some o => obtain ⟨kd, e⟩ := el o rfl; simp [e, run_sliceBound hlh]
      | some oh =>
        obtain ⟨kh, e'⟩ := eh oh rfl
        cases lo with
        | none => have : l = 0 := by simp [bndE] at hl; omega
                  subst this; simp [e', run_sliceBound hhm]
        | some o => obtain ⟨kd, e⟩ := el o rfl; simp [e, e', run_sliceBound hhm, run_sliceBound hlh]
    | some om =>
      obtain ⟨km, e''⟩ := em om rfl
      cases hi with
      | none => exact absurd (hmh rfl) (by simp)
      | some oh =>
        obtain ⟨kh, e'⟩ := eh oh rfl
        cases lo with
        | none => have : l = 0 := by simp [bndE] at hl; omega
                  subst this; simp [e', e'', run_sliceBound hmc, run_sliceBound hhm]
        | some o => obtain ⟨kd, e⟩ := el o rfl; simp [e, e', e'', run_sliceBound hmc, run_sliceBound hhm, run_sliceBound hlh]
  simp only [execOp, Sem.run_bind, Sem.run_pure, Instr.sliceAt, run_und, Result.andThen_ok, e1, Instr.slice, key, run_size]
  by_cases hml : m = l
  · subst hml; simp
  · simp [hml, add_none]

theorem y_slice_at {x : Operand} {lo hi mx : Option Operand} {t e : TypeId} {z z' : Value} {s1 b1 sz by_ b off len cap : Nat} {d' : TypeDesc} (l h m : Nat) [Ty P t (.slice e) z s1 b1] [Ty P e d' z' sz by_]
    (hx : ev env x = some (.slice (some ⟨b, off, none⟩) len cap)) (hl : bndE env lo 0 = some (l : Int)) (hh : bndE env hi len = some (h : Int)) (hm : bndE env mx cap = some (m : Int))
    (hmh : mx.isSome = true → hi.isSome = true) (hlh : l ≤ h) (hhm : h ≤ m) (hmc : m ≤ cap) (hne : l < m) :
    Yld P n ds F L env ⟨dt, .slice t x lo hi mx, ty, pos, af, g⟩ (.slice (some ⟨b, off + l * sz, none⟩) (h - l) (m - l)) := by
  have := y_slice (P := P) (n := n) (ds := ds) (F := F) (L := L) (dt := dt) (ty := ty) (pos := pos) (af := af) (g := g) (t := t) l h m hx hl hh hm hmh hlh hhm hmc
  rwa [if_neg (by omega)] at this

theorem y_slice_nil {x : Operand} {t e : TypeId} {z z' : Value} {s1 b1 sz by_ : Nat} {d' : TypeDesc} {lo hi mx : Option Operand} [Ty P t (.slice e) z s1 b1] [Ty P e d' z' sz by_]
    (hx : ev env x = some (.slice none 0 0)) (hl : bndE env lo 0 = some 0) (hh : bndE env hi 0 = some 0) (hm : mx = none) :
    Yld P n ds F L env ⟨dt, .slice t x lo hi mx, ty, pos, af, g⟩ (.slice none 0 0) := .mk fun w a _ k => by
  have e1 := k.ev hx
  subst hm
  have key : (Instr.sliceBounds true 0 0 (lo.map a.eval) (hi.map a.eval) none).run P w = .ok (0, 0, 0) w := by
    unfold Instr.sliceBounds
    cases hi with
    | none => cases lo with
      | none => simp
      | some o =>
        simp only [bndE] at hl
        cases hv : ev env o with
        | none => rw [hv] at hl; cases hl
        | some v =>
          rw [hv] at hl; cases v <;> simp at hl
          subst hl; simp [k.ev hv, Instr.sliceBound, asIntOf]
    | some oh =>
      simp only [bndE] at hh
      cases hv : ev env oh with
      | none => rw [hv] at hh; cases hh
      | some v =>
        rw [hv] at hh; cases v <;> simp at hh
        subst hh
        cases lo with
        | none => simp [k.ev hv, Instr.sliceBound, asIntOf]
        | some o =>
          simp only [bndE] at hl
          cases hv' : ev env o with
          | none => rw [hv'] at hl; cases hl
          | some v' =>
            rw [hv'] at hl; cases v' <;> simp at hl
            subst hl; simp [k.ev hv, k.ev hv', Instr.sliceBound, asIntOf]
  simp only [execOp, Sem.run_bind, Sem.run_pure, Instr.sliceAt, run_und, Result.andThen_ok, e1, Instr.slice, Option.map_none, key, run_size]
  simp

/-! #### New rows -/

/-- m times the cells of a nought, one cell each. -/
theorem zero_one (v : Value) (m : Nat) : ((Array.range m).map fun i => (⟨[v]⟩ : Array Value)[i % (⟨[v]⟩ : Array Value).size]!) = ⟨List.replicate m v⟩ := by
  apply Array.ext'
  simp only [Array.toList_map, Array.toList_range]
  apply List.ext_getElem
  · simp
  · intro i h1 h2
    simp [Nat.mod_one]

theorem range0 (f : Nat → Value) : Array.map f (Array.range 0) = ⟨[]⟩ := by apply Array.ext'; simp

/-- make([]T, k) of elements of one cell. -/
theorem o_makeSlice1 {t e : TypeId} {l c : Operand} {z z' : Value} {s1 b1 by_ : Nat} {d' : TypeDesc} {k1 k2 : IntKind} (len cap : Nat) [Ty P t (.slice e) z s1 b1] [Ty P e d' z' 1 by_] [hz : CellsV z' [z']]
    (hl : ev env l = some (.int k1 (len : Int))) (hc : ev env c = some (.int k2 (cap : Int))) (h1 : len ≤ cap) (h2 : by_ * cap ≤ 140737488355328) (h3 : cap ≤ 140737488355328) (hd : Nat.blt d n = true)
    (h : ∀ b, OpsJ P n ds F (Blk b (.cells ⟨List.replicate cap z'⟩ e (0, 0)) :: L) ((d, .slice (some ⟨b, 0, none⟩) len cap) :: env) ops rest Q) :
    OpsJ P n ds F L env ops (⟨some d, .makeSlice t l c, ty, pos, af, none⟩ :: rest) Q :=
  o_value (X := Nat) (L' := fun b => Blk b (.cells ⟨List.replicate cap z'⟩ e (0, 0)) :: L) (v := fun b => .slice (some ⟨b, 0, none⟩) len cap) rfl hd (fun w a s k => ⟨w.heap.size, { w with heap := w.heap.push (.cells ⟨List.replicate cap z'⟩ e) }, by
    have e1 := k.ev hl
    have e2 := k.ev hc
    obtain ⟨i, hi, _, _, hb⟩ := run_info (P := P) (t := e) (w := w)
    have w1 : IntKind.i64.wrap (len : Int) = (len : Int) := wrap_i64 (by omega) (by omega)
    have w2 : IntKind.i64.wrap (cap : Int) = (cap : Int) := wrap_i64 (by omega) (by omega)
    have c1 : ¬ ((by_ : Int) * (cap : Int) > 2 ^ 48) := by
      have : (by_ : Int) * (cap : Int) ≤ 140737488355328 := by rw [← Int.natCast_mul]; exact Int.ofNat_le.2 h2
      have e3 : (2 : Int) ^ 48 = 281474976710656 := by decide
      rw [e3]; omega
    have c2 : ¬ ((cap : Int) < 0) := by omega
    have c3 : ¬ ((len : Int) < 0) := by omega
    have c4 : ¬ ((len : Int) > (cap : Int)) := by omega
    have hz' : z'.cells = ⟨[z']⟩ := hz.out.1
    simp only [execOp, e1, e2, Instr.makeSlice, Sem.run_bind, run_und, Result.andThen_ok, asInt, asIntOf, Sem.run_pure, hi, hb, w1, w2, run_askRoom, run_size, run_newObj, newRow]
    simp only [c1, c2, c3, c4, decide_false, Bool.or_false, Bool.false_eq_true, if_false, Sem.run_pure, Result.andThen_ok, Int.toNat_natCast, Nat.mul_one]
    by_cases hc0 : cap = 0
    · subst hc0
      simp only [if_true, Sem.run_bind, Result.andThen_ok, Sem.run_pure, run_size, run_newObj, Nat.zero_mul, run_askRoom, Int.toNat_natCast, Nat.mul_one]
      simp
      rw [range0]
    · simp only [hc0, if_false, Sem.run_bind, run_zero, Result.andThen_ok, Sem.run_pure, hz', zero_one, run_askRoom, run_size, run_newObj, Nat.mul_one, Int.toNat_natCast], s.new _⟩) h

theorem o_makeMap {t : TypeId} (hd : Nat.blt d n = true)
    (h : ∀ b, OpsJ P n ds F (Blk b (.map #[] 0) :: L) ((d, .map (some b)) :: env) ops rest Q) : OpsJ P n ds F L env ops (⟨some d, .makeMap t none, ty, pos, af, none⟩ :: rest) Q :=
  o_value (X := Nat) (L' := fun b => Blk b (.map #[] 0) :: L) (v := fun b => .map (some b)) rfl hd (fun w a s k => ⟨w.heap.size, { w with heap := w.heap.push (.map #[] 0) }, by
    simp [execOp, Instr.makeMap], s.new _⟩) h


/-! #### Structs by value -/

/-- A struct put together out of its fields' values, in cells. -/
class Fill (ps : List (Nat × Nat)) (l : List Value) (pvs : List (Nat × Value)) (m : outParam (List Value)) : Prop where
  out : Instr.fill (fun i => ps[i]?) ⟨l⟩ pvs = some ⟨m⟩
instance {ps : List (Nat × Nat)} {l : List Value} : Fill ps l [] l := ⟨rfl⟩
class GetP (ps : List (Nat × Nat)) (i : Nat) (off sz : outParam Nat) : Prop where
  out : ps[i]? = some (off, sz)
instance {off sz : Nat} {ps : List (Nat × Nat)} : GetP ((off, sz) :: ps) 0 off sz := ⟨rfl⟩
instance {p : Nat × Nat} {off sz : Nat} {ps : List (Nat × Nat)} {i : Nat} [h : GetP ps i off sz] : GetP (p :: ps) (i + 1) off sz := ⟨by simpa using h.out⟩
class LenL (l : List Value) (k : outParam Nat) : Prop where
  out : l.length = k
instance : LenL [] 0 := ⟨rfl⟩
instance {v : Value} {l : List Value} {k : Nat} [h : LenL l k] : LenL (v :: l) (k + 1) := ⟨by simp [h.out]⟩

theorem fold_spl : ∀ (vs l : List Value) (off j : Nat), off + j + vs.length ≤ l.length → ((vs.zipIdx j).foldl (fun (cs : Array Value) (c, j) => cs.setIfInBounds (off + j) c) ⟨l⟩) = ⟨spl l (off + j) vs⟩
  | [], _, _, _, _ => rfl
  | v :: vs, l, off, j, h => by
    simp only [List.zipIdx_cons, List.foldl_cons, spl]
    have e : (⟨l⟩ : Array Value).setIfInBounds (off + j) v = ⟨l.set (off + j) v⟩ := by apply Array.ext'; simp
    rw [e, fold_spl vs (l.set (off + j) v) off (j + 1) (by simp only [List.length_cons] at h; simp; omega)]
    rfl

instance {ps : List (Nat × Nat)} {l l1 m vs : List Value} {i off : Nat} {v : Value} {r : List (Nat × Value)} {sz : Nat} [hp : GetP ps i off sz] [hv : CellsV v vs] [hl : LenL vs sz] [hs : SetN l off vs l1] [hr : Fill ps l1 r m] :
    Fill ps l ((i, v) :: r) m := ⟨by
  have h1 := hs.out
  have h2 := fold_spl vs l off 0 (by simpa using h1.1)
  simp only [Nat.add_zero] at h2
  rw [Instr.fill]
  simp only [hp.out, hv.out.1, List.size_toArray, hl.out, bne_self_eq_false, Bool.false_or, ne_eq, not_true_eq_false, decide_false]
  have h3 : ¬ (off + sz > l.length) := by have := h1.1; rw [hl.out] at this; omega
  rw [if_neg (by simp; omega)]
  have h4 : (⟨vs⟩ : Array Value).zipIdx.foldl (fun (cs : Array Value) (x : Value × Nat) => cs.setIfInBounds (off + x.2) x.1) ⟨l⟩ = ⟨l1⟩ := by
    rw [← h1.2, ← h2, ← Array.foldl_toList]; simp
  rw [h4]
  exact hr.out⟩

def evP (env : Env) : List (Nat × Operand) → Option (List (Nat × Value))
  | [] => some []
  | (i, x) :: r => match ev env x with
    | some v => match evP env r with
      | some vs => some ((i, v) :: vs)
      | none => none
    | none => none

theorem Ok.evP {a : Act} (h : Ok n ds env a) : ∀ {l : List (Nat × Operand)} {vs : List (Nat × Value)}, evP env l = some vs → (l.map fun (i, x) => (i, a.eval x)) = vs
  | [], vs, e => by simpa [Lun.evP] using e
  | (i, x) :: r, vs, e => by
    simp only [Lun.evP] at e
    cases hx : Lun.ev env x with
    | none => rw [hx] at e; cases e
    | some v =>
      rw [hx] at e
      cases hr : Lun.evP env r with
      | none => rw [hr] at e; cases e
      | some us => rw [hr] at e; simp at e; subst e; simp [h.ev hx, h.evP hr]

theorem y_build {t : TypeId} {parts : Array (Nat × Operand)} {pvs : List (Nat × Value)} {fs : Array Field} {z : Value} {sz by_ : Nat} {zs ms : List Value} {ps : List (Nat × Nat)} [Ty P t (.struct fs) z sz by_] [hz : CellsV z zs] [hp : Plcs P t ps]
    (he : evP env parts.toList = some pvs) [hf : Fill ps zs pvs ms] : Yld P n ds F L env ⟨dt, .build t parts, ty, pos, af, g⟩ (.agg ⟨ms⟩) := .mk fun w a _ k => by
  have e1 := k.evP he
  obtain ⟨fields, hu, hrun⟩ := hp.run
  have e2 : (parts.map fun (i, x) => (i, a.eval x)) = ⟨pvs⟩ := by apply Array.ext'; simpa using e1
  have e3 : Instr.fill (fun i => (⟨ps⟩ : Array (Nat × Nat))[i]?) ⟨zs⟩ pvs = some ⟨ms⟩ := by
    have := hf.out
    simpa using this
  have hu2 : (underlying t).run P w = .ok (.struct fields) w := by simp [underlying, hu]
  have hrun' := hrun w
  simp only [execOp, Instr.build, e2, Sem.run_bind, run_zero, Result.andThen_ok, hu2, hz.out.1]
  rw [hrun']
  simp [hf.out]

/-- []T{..}: all elements in order. -/
def inOrd : Nat → List (Nat × Value) → Bool
  | _, [] => true
  | k, (i, _) :: r => Nat.beq i k && inOrd (k + 1) r
/-- The elements' cells, one behind the other. -/
class FlatC (sz : Nat) (pvs : List (Nat × Value)) (l : outParam (List Value)) : Prop where
  out : l.length = pvs.length * sz ∧ (∀ u ∈ l, u.oneCell' = true) ∧ ∀ (k : Nat) (pre post : List Value), inOrd k pvs = true → pre.length = k * sz → post.length = pvs.length * sz →
    Instr.fill (fun i => some (i * sz, sz)) ⟨pre ++ post⟩ pvs = some ⟨pre ++ l⟩
instance {sz : Nat} : FlatC sz [] [] := ⟨by simp, by simp, fun k pre post _ _ h => by simp at h; subst h; rfl⟩
class AppL (a b : List Value) (c : outParam (List Value)) : Prop where
  out : a ++ b = c
instance {b : List Value} : AppL [] b b := ⟨rfl⟩
instance {x : Value} {a b c : List Value} [h : AppL a b c] : AppL (x :: a) b (x :: c) := ⟨by simp [h.out]⟩

theorem spl_mid : ∀ (vs pre mid post : List Value), mid.length = vs.length → spl (pre ++ (mid ++ post)) pre.length vs = pre ++ (vs ++ post)
  | [], pre, mid, post, h => by
    have : mid = [] := by simpa using h
    subst this; rfl
  | v :: vs, pre, [], post, h => by simp at h
  | v :: vs, pre, m :: mid, post, h => by
    have ih := spl_mid vs (pre ++ [v]) mid post (by simpa using h)
    simp only [spl]
    have e : (pre ++ (m :: mid ++ post)).set pre.length v = (pre ++ [v]) ++ (mid ++ post) := by simp
    rw [e]
    simp only [List.length_append, List.length_cons, List.length_nil, Nat.zero_add] at ih
    rw [ih]; simp

instance {sz i : Nat} {v : Value} {vs l m : List Value} {r : List (Nat × Value)} [hv : CellsV v vs] [hl : LenL vs sz] [hr : FlatC sz r l] [ha : AppL vs l m] : FlatC sz ((i, v) :: r) m := by
  obtain ⟨h1, h2, h3⟩ := hr.out
  have hm := ha.out
  refine ⟨by rw [← hm]; simp [h1, hl.out, Nat.add_mul, Nat.add_comm], fun u hu => ?_, fun k pre post hk hpre hpost => ?_⟩
  · rw [← hm, List.mem_append] at hu
    rcases hu with hu | hu
    · exact hv.out.2 u hu
    · exact h2 u hu
  · simp only [inOrd, Bool.and_eq_true] at hk
    have hik : i = k := Nat.eq_of_beq_eq_true hk.1
    subst hik
    have hsz : sz ≤ post.length := by rw [hpost]; simp [Nat.add_mul]
    have hs := spl_mid vs pre (post.take sz) (post.drop sz) (by simp [hl.out]; omega)
    rw [List.take_append_drop] at hs
    have hf := fold_spl vs (pre ++ post) (i * sz) 0 (by simp [hl.out, hpre]; omega)
    simp only [Nat.add_zero] at hf
    rw [Instr.fill]
    simp only [hv.out.1, List.size_toArray, hl.out]
    rw [if_neg (by simp; omega)]
    have h4 : (⟨vs⟩ : Array Value).zipIdx.foldl (fun (cs : Array Value) (x : Value × Nat) => cs.setIfInBounds (i * sz + x.2) x.1) ⟨pre ++ post⟩ = ⟨pre ++ (vs ++ post.drop sz)⟩ := by
      rw [← hs, hpre, ← hf, ← Array.foldl_toList]; simp
    rw [h4]
    have := h3 (i + 1) (pre ++ vs) (post.drop sz) hk.2 (by simp [hpre, hl.out, Nat.add_mul]) (by simp [hpost, Nat.add_mul])
    simp only [List.append_assoc] at this
    rw [this, ← hm]

theorem o_buildSlice {t e : TypeId} {len : Nat} {parts : Array (Nat × Operand)} {pvs : List (Nat × Value)} {z z' : Value} {s1 b1 sz by_ : Nat} {d' : TypeDesc} {zs ms : List Value} [Ty P t (.slice e) z s1 b1] [Ty P e d' z' sz by_] [hz : CellsV z' zs] [hzl : LenL zs sz]
    (he : evP env parts.toList = some pvs) [hf : FlatC sz pvs ms] (ho : inOrd 0 pvs = true) (hl : Nat.beq pvs.length len = true) (hs : Nat.ble (len * sz) 1000 = true) (hd : Nat.blt d n = true)
    (h : ∀ b, OpsJ P n ds F (Blk b (.cells ⟨ms⟩ e (0, 0)) :: L) ((d, .slice (some ⟨b, 0, none⟩) len len) :: env) ops rest Q) :
    OpsJ P n ds F L env ops (⟨some d, .buildSlice t len parts, ty, pos, af, none⟩ :: rest) Q :=
  o_value (X := Nat) (L' := fun b => Blk b (.cells ⟨ms⟩ e (0, 0)) :: L) (v := fun b => .slice (some ⟨b, 0, none⟩) len len) rfl hd (fun w a s k => ⟨w.heap.size, { w with heap := w.heap.push (.cells ⟨ms⟩ e) }, by
    have e1 := k.evP he
    have e2 : (parts.map fun (i, x) => (i, a.eval x)) = ⟨pvs⟩ := by apply Array.ext'; simpa using e1
    have hlen : pvs.length = len := Nat.eq_of_beq_eq_true hl
    have hle : len * sz ≤ 1000 := Nat.le_of_ble_eq_true hs
    have e3 : (2 : Nat) ^ 24 = 16777216 := by decide
    have e4 : ¬ len * sz > 2 ^ 24 := by rw [e3]; omega
    simp only [execOp, Instr.buildSlice, e2, Sem.run_bind, run_und, Result.andThen_ok, run_size, e4, if_false, Sem.run_pure]
    by_cases h0 : len * sz = 0
    · have hp0 : pvs.length * sz = 0 := by rw [hlen]; exact h0
      have := hf.out.2.2 0 [] [] ho (by simp) (by simp [hp0])
      simp only [List.nil_append] at this
      simp only [h0, if_true, Sem.run_pure, Result.andThen_ok, range0]
      rw [this]
      simp [newRow]
    · have hgen : ∀ post : Array Value, post.size = len * sz → Instr.fill (fun i => some (i * sz, sz)) post pvs = some ⟨ms⟩ := fun post hp => by
        have := hf.out.2.2 0 [] post.toList ho (by simp) (by rw [hlen]; simpa using hp)
        simpa using this
      simp only [h0, if_false, Sem.run_bind, run_zero, Result.andThen_ok, Sem.run_pure]
      rw [hgen _ (by simp)]
      simp [newRow], s.new _⟩) h

end
end Go.Lun

/- append, copy, maps, strings and bytes. -/
namespace Go.Lun

/-- A slice of the call's own: it begins at its block's head; what its places hold. -/
def Sl (E : TypeId) (sz : Nat) (a : Option Addr) (len cap : Nat) (xs : List Value) : Asrt := fun r =>
  xs.length = len * sz ∧ ((a = none ∧ len = 0 ∧ cap = 0) ∨ ∃ b rest, a = some ⟨b, 0, none⟩ ∧ len ≤ cap ∧ xs.length + rest.length = cap * sz ∧ r b = some (true, .cells ⟨xs ++ rest⟩ E (0, 0)))

theorem growBy_le (need : Nat) : ∀ (r c : Nat), c ≤ 2 * need + 300 → Builtin.growBy need r c ≤ 2 * need + 300
  | 0, c, h => by simpa [Builtin.growBy] using h
  | r + 1, c, h => by
    simp only [Builtin.growBy]
    split
    · exact h
    · exact growBy_le need r _ (by omega)
theorem nsc_le {need old : Nat} (h : old < need) : Builtin.nextslicecap need old ≤ 2 * need + 300 := by
  unfold Builtin.nextslicecap
  split
  · omega
  · split
    · omega
    · exact growBy_le need 4 old (by omega)

theorem spl_end (xs rest ys : List Value) (h : ys.length ≤ rest.length) : spl (xs ++ rest) xs.length ys = xs ++ ys ++ rest.drop ys.length := by
  have := spl_mid ys xs (rest.take ys.length) (rest.drop ys.length) (by simp; omega)
  rw [List.take_append_drop] at this
  rw [this, List.append_assoc]

theorem getN_length {cs vs : List Value} {off k : Nat} (h : getN cs off k = some vs) : vs.length = k := (takeN_get h).1
theorem getN_front (xs rest : List Value) : getN (xs ++ rest) 0 xs.length = some xs := by
  unfold getN
  rw [List.drop_zero, takeN_take (by simp)]
  simp

section
variable {P : Program} {n : Nat} {ds : List Deferred} {F : Fr} {L : List Asrt} {env : Env} {Q : Post} {ops : Array Oper} {rest : List Oper}
variable {dt : Option Tmp} {d : Tmp} {ty : TypeId} {pos : String} {af : Array Edge} {g : Option (Nat × Bool)}

/-- What a slice (or text) that is read holds at its first k places. -/
def Src (P : Program) (F : Fr) (L : List Asrt) (sz : Nat) (v : Value) (k : Nat) (ys : List Value) : Prop :=
  ∀ w, St F L w → (Builtin.lenOf v).run P w = .ok k w ∧ ys.length = k * sz ∧ ∀ j, j ≤ k → (Builtin.firstCells sz j v).run P w = .ok ⟨ys.take (j * sz)⟩ w

theorem Src.nil {sz : Nat} : Src P F L sz (.slice none 0 0) 0 [] := fun w _ => ⟨by simp [Builtin.lenOf], by simp, fun j hj => by simp [Builtin.firstCells]⟩
theorem Src.slice {sz b off k cap : Nat} {cs ys : List Value} {T : TypeId} {fz : Nat × Nat} [hb : Has F L b (.cells ⟨cs⟩ T fz)] (h : getN cs off (k * sz) = some ys) :
    Src P F L sz (.slice (some ⟨b, off, none⟩) k cap) k ys := fun w s => ⟨by simp [Builtin.lenOf], getN_length h, fun j hj => by
  have hle : j * sz ≤ k * sz := Nat.mul_le_mul_right _ hj
  have h2 : getN cs off (j * sz) = some (ys.take (j * sz)) := by
    have h3 : k * sz ≤ (cs.drop off).length ∨ (cs.drop off).length < k * sz := by omega
    have hl := getN_length h
    rcases h3 with h3 | h3
    · unfold getN at h ⊢
      rw [takeN_take h3] at h
      rw [takeN_take (by omega)]
      injection h with h
      rw [← h, List.take_take, Nat.min_eq_left hle]
    · exfalso
      have := (takeN_get h).2
      have h4 := this ((cs.drop off).length) (by omega)
      rw [List.getElem?_eq_none (Nat.le_refl _)] at h4
      rw [List.getElem?_eq_getElem (by omega)] at h4
      cases h4
  simp [Builtin.firstCells, run_loadCells (hb.out w s) h2]⟩

/-- A resource's block written anew, where it is told by an assertion that stands at place. -/
theorem St.upd_at {L R : List Asrt} {A B : Asrt} {w : World} (s : St F L w) (hr : Rem L A R) {b : Nat} {o : Obj} (hA : ∀ r, A r → (∃ o0, r b = some (true, o0)) ∧ B (Res.set r b o)) : St F (B :: R) (put w b o) := by
  obtain ⟨h1, h2, h3, r, hc, hf, hrs, hs⟩ := s
  obtain ⟨u, v, huv, rfl, hAu, hR⟩ := sep_perm hr.perm hs
  obtain ⟨⟨o0, hu⟩, hB⟩ := hA u hAu
  have hb : join u v b = some (true, o0) := join_some hu
  have hlt := lt_of_get (hrs _ _ _ hb)
  refine ⟨h1, h2, by simpa [put] using h3, Res.set (join u v) b o, (hc.symm.set hb).symm, ?_, ?_, Res.set u b o, v, huv.set hu, join_set_l.symm, hB, hR⟩
  · intro x p o' hx
    have hne : x ≠ b := by
      rintro rfl
      have := hc.none_l hb
      rw [this] at hx; cases hx
    rw [put_ne hne]; exact hf x p o' hx
  · intro x p o' hx
    by_cases e : x = b
    · subst e
      simp [Res.set] at hx
      rw [put_get hlt]; exact congrArg _ hx.2
    · simp [Res.set, e] at hx
      rw [put_ne e]; exact hrs x p o' hx

theorem St.look {L R : List Asrt} {A : Asrt} {w : World} (s : St F L w) (hr : Rem L A R) : ∃ r, A r ∧ Sat r w := by
  obtain ⟨h1, h2, h3, r, hc, hf, hrs, hs⟩ := s
  obtain ⟨u, v, huv, rfl, hAu, hR⟩ := sep_perm hr.perm hs
  exact ⟨u, hAu, hrs.left⟩

def isIntD : TypeDesc → Bool
  | .int _ => true
  | _ => false

theorem Sl.cases {E : TypeId} {sz len cap : Nat} {a : Option Addr} {xs : List Value} {r : Res} (h : Sl E sz a len cap xs r) :
    xs.length = len * sz ∧ ((a = none ∧ len = 0 ∧ cap = 0) ∨ ∃ b rs, a = some ⟨b, 0, none⟩ ∧ len ≤ cap ∧ xs.length + rs.length = cap * sz ∧ r b = some (true, .cells ⟨xs ++ rs⟩ E (0, 0))) := h

/-- A slice of the call's own, opened. -/
theorem c_openSl {c : Code} {E : TypeId} {sz len cap : Nat} {a : Option Addr} {xs : List Value} {R : List Asrt} (hr : Rem L (Sl E sz a len cap xs) R)
    (hn : xs.length = len * sz → a = none → len = 0 → cap = 0 → CodeJ P n ds F R env c Q)
    (hs : ∀ b rs, xs.length = len * sz → a = some ⟨b, 0, none⟩ → len ≤ cap → xs.length + rs.length = cap * sz → CodeJ P n ds F (Blk b (.cells ⟨xs ++ rs⟩ E (0, 0)) :: R) env c Q) : CodeJ P n ds F L env c Q := .mk fun w a' s o => by
  obtain ⟨h1, h2, h3, r, hc, hf, hrs, hsp⟩ := s
  obtain ⟨u, v, huv, rfl, hA, hR⟩ := sep_perm hr.perm hsp
  obtain ⟨hl, ⟨e1, e2, e3⟩ | ⟨b, rs, e1, e2, e3, hb⟩⟩ := hA.cases
  · exact (hn hl e1 e2 e3).out w a' ⟨h1, h2, h3, _, hc, hf, hrs, sep_grow huv hR⟩ o
  · exact (hs b rs hl e1 e2 e3).out w a' ⟨h1, h2, h3, _, hc, hf, hrs, u, v, huv, rfl, hb, hR⟩ o
theorem Sl.shut {E : TypeId} {sz len cap b : Nat} {xs rs : List Value} (h1 : xs.length = len * sz) (h2 : len ≤ cap) (h3 : xs.length + rs.length = cap * sz) :
    ∀ r, sep [Blk b (.cells ⟨xs ++ rs⟩ E (0, 0))] r → Sl E sz (some ⟨b, 0, none⟩) len cap xs r := fun r hr => by
  obtain ⟨u, v, huv, rfl, hA, _⟩ := hr
  exact ⟨h1, .inr ⟨b, rs, rfl, h2, h3, join_some hA⟩⟩
theorem Sl.shut_nil {E : TypeId} {sz : Nat} : ∀ r, sep [] r → Sl E sz none 0 0 [] r := fun _ _ => ⟨by simp, .inl ⟨rfl, rfl, rfl⟩⟩

/-- append to a slice of the call's own. -/
theorem o_append {x y : Operand} {t t2 e : TypeId} {z z' : Value} {s1 b1 sz by_ : Nat} {d' : TypeDesc} {e2 : TypeId} {z2 : Value} {s2 b2 : Nat} {a0 : Option Addr} {len cap k : Nat} {sv : Value} {xs ys zs : List Value} {R : List Asrt}
    [Ty P t (.slice e) z s1 b1] [Ty P e d' z' sz by_] [hzc : CellsV z' zs] [hzn : LenL zs sz] [Ty P t2 (.slice e2) z2 s2 b2] (hx : ev env x = some (.slice a0 len cap)) (hy : ev env y = some sv) (hsrc : Src P F L sz sv k ys) (hr : Rem L (Sl e sz a0 len cap xs) R)
    (h1 : ∀ u ∈ ys, u.oneCell' = true) (hroom : (2 * (len + k) + 300) * by_ ≤ 281474976710656) (hby : Nat.ble 1 by_ = true) (hmax : len + k ≤ 9223372036854775807) (hd : Nat.blt d n = true)
    (h : ∀ a' cap', OpsJ P n ds F (Sl e sz a' (len + k) cap' (xs ++ ys) :: R) ((d, .slice a' (len + k) cap') :: env) ops rest Q) :
    OpsJ P n ds F L env ops (⟨some d, .call ⟨.builtin .append, #[x, y], #[t, t2]⟩, ty, pos, af, none⟩ :: rest) Q := by
  have hzs : z'.cells.size = sz := by rw [hzc.out.1]; simpa using hzn.out
  refine o_value (X := Option Addr × Nat) (L' := fun p => Sl e sz p.1 (len + k) p.2 (xs ++ ys) :: R) (v := fun p => .slice p.1 (len + k) p.2) rfl hd (fun w a s kk => ?_) (fun p => h p.1 p.2)
  obtain ⟨hlen, hyl, hfc⟩ := hsrc w s
  obtain ⟨r, ⟨hxl, hA⟩, hsat⟩ := s.look hr
  obtain ⟨inf, hinf, _, _, hib⟩ := run_info (P := P) (t := e) (w := w)
  have hk : (Builtin.firstCells sz k sv).run P w = .ok ⟨ys⟩ w := by
    have := hfc k (Nat.le_refl _)
    rwa [← hyl, List.take_length] at this
  rw [run_builtin kk (vs := [.slice a0 len cap, sv]) (by simp [evs, hx, hy])]
  simp only [builtin, Sem.run_bind, Builtin.append_]
  simp only [List.getElem?_toArray, List.getElem?_cons_zero, List.getElem?_cons_succ, Sem.run_bind, run_und, Result.andThen_ok, run_size, Sem.run_pure]
  simp only [Bool.false_eq_true, if_false, Sem.run_bind, hlen, Result.andThen_ok, Bool.not_false, if_true]
  by_cases hfit : len + k ≤ cap
  · simp only [hfit, if_true, Sem.run_bind, hk, Result.andThen_ok]
    rcases hA with ⟨rfl, rfl, rfl⟩ | ⟨b, rs, rfl, hlc, hrl, hrb⟩
    · have k0 : k = 0 := by omega
      subst k0
      have hy0 : ys = [] := by simpa using hyl
      have hx0 : xs = [] := by simpa using hxl
      subst hy0; subst hx0
      refine ⟨(none, 0), w, by simp, ?_⟩
      obtain ⟨q1, q2, q3, r', q4, q5, q6, q7⟩ := s
      exact ⟨q1, q2, q3, r', q4, q5, q6, sep_perm hr.perm q7⟩
    · have hw : w.heap[b]? = some (.cells ⟨xs ++ rs⟩ e (0, 0)) := hsat b _ _ hrb
      have hyr : ys.length ≤ rs.length := by
        have : (len + k) * sz ≤ cap * sz := Nat.mul_le_mul_right _ hfit
        rw [Nat.add_mul] at this; omega
      have hst := run_storeCells (P := P) (off := len * sz) ys 0 w (xs ++ rs) hw (by simp [frz]) (by simp; omega) h1
      simp only [Nat.add_zero] at hst
      rw [← hxl, spl_end xs rs ys hyr] at hst
      refine ⟨(some ⟨b, 0, none⟩, cap), put w b (.cells ⟨xs ++ ys ++ rs.drop ys.length⟩ e (0, 0)), by simp [add_none, ← hxl, hst], ?_⟩
      refine s.upd_at hr fun r2 hr2 => ?_
      obtain ⟨_, hr2⟩ := hr2
      rcases hr2 with ⟨h0, _⟩ | ⟨b', rs', hb', hlc', hrl', hrb'⟩
      · cases h0
      · injection hb' with hb'; injection hb' with hb'; subst hb'
        refine ⟨⟨_, hrb'⟩, by simp [hxl, hyl, Nat.add_mul], .inr ⟨b, rs.drop ys.length, rfl, hfit, ?_, ?_⟩⟩
        · simp; omega
        · simp [Res.set]
  · have hn1 : ¬ ((((len + k : Nat) : Int) > IntKind.i64.max) ∧ (False ∨ inf.bytes = 0)) := by
      rintro ⟨h9, _⟩
      have e9 : IntKind.i64.max = 9223372036854775807 := by decide
      rw [e9] at h9; omega
    have hn2 : ¬ (Builtin.nextslicecap (len + k) cap * inf.bytes > 2 ^ 48) := by
      have e3 : (2 : Nat) ^ 48 = 281474976710656 := by decide
      have h7 := nsc_le (need := len + k) (old := cap) (by omega)
      have h8 := Nat.mul_le_mul_right by_ h7
      rw [e3, hib]; omega
    have hn1' : ¬ ((((len + k : Nat) : Int) > IntKind.i64.max) ∧ ((false = true) ∨ inf.bytes = 0)) := by simpa using hn1
    simp only [hfit, if_false, Sem.run_bind, hinf, Result.andThen_ok]
    rw [if_neg (by simpa using hn1')]
    simp only [Sem.run_bind, hinf, Result.andThen_ok]
    rw [if_neg hn2]
    simp only [Sem.run_bind, run_choose, Question.forced, Bool.false_eq_true, if_false, Result.andThen_ok, run_askRoom]
    generalize hq : (Question.appendCap (len + k) cap e).cut (w.tape w.drawn (.appendCap (len + k) cap e)) = nc
    have hnc : len + k ≤ nc := by rw [← hq]; simp [Question.cut]
    have s' := s.drew (w.drawn + 1)
    generalize hw' : ({ w with drawn := w.drawn + 1 } : World) = w' at *
    obtain ⟨hlen', hyl', hfc'⟩ := hsrc w' s'
    obtain ⟨r', ⟨hxl', hA'⟩, hsat'⟩ := s'.look hr
    have hk' : (Builtin.firstCells sz k sv).run P w' = .ok ⟨ys⟩ w' := by
      have := hfc' k (Nat.le_refl _)
      rwa [← hyl', List.take_length] at this
    have hold : (Builtin.firstCells sz len (.slice a0 len cap)).run P w' = .ok ⟨xs⟩ w' := by
      rcases hA' with ⟨rfl, rfl, rfl⟩ | ⟨b, rs, rfl, hlc, hrl, hrb⟩
      · have hx0 : xs = [] := by simpa using hxl'
        subst hx0
        simp [Builtin.firstCells]
      · simp only [Builtin.firstCells]
        have := getN_front xs rs
        rw [hxl'] at this
        exact run_loadCells (hsat' b _ _ hrb) this
    obtain ⟨inf', hinf', hiz', _, hib'⟩ := run_info (P := P) (t := e) (w := w')
    simp only [hinf', Result.andThen_ok, hold, hk', run_zero]
    have hzl : (Builtin.zeroCells z'.cells (nc - (len + k))).toList.length = (nc - (len + k)) * sz := by simp [Builtin.zeroCells, hzs]
    have hobj : ((⟨xs⟩ : Array Value) ++ ⟨ys⟩ ++ Builtin.zeroCells z'.cells (nc - (len + k))) = ⟨xs ++ ys ++ (Builtin.zeroCells z'.cells (nc - (len + k))).toList⟩ := by apply Array.ext'; simp
    rw [hobj]
    generalize (Builtin.zeroCells z'.cells (nc - (len + k))).toList = zc at hzl
    refine ⟨(some ⟨w'.heap.size, 0, none⟩, nc), { w' with heap := w'.heap.push (.cells ⟨xs ++ ys ++ zc⟩ e) }, by simp [newRow], ?_⟩
    obtain ⟨q1, q2, q3, r3, q4, q5, q6, q7⟩ := s'.new (.cells ⟨xs ++ ys ++ zc⟩ e)
    refine ⟨q1, q2, q3, r3, q4, q5, q6, ?_⟩
    obtain ⟨u, v, huv, rfl, hu, hv⟩ := q7
    obtain ⟨u2, v2, huv2, rfl, hu2, hv2⟩ := sep_perm hr.perm hv
    refine ⟨u, join u2 v2, huv, rfl, ⟨by simp [hxl, hyl, Nat.add_mul], .inr ⟨_, zc, rfl, hnc, ?_, hu⟩⟩, sep_grow huv2 hv2⟩
    rw [hzl]
    simp only [List.length_append, hxl, hyl]
    rw [← Nat.add_mul, ← Nat.add_mul]; congr 1; omega

end
end Go.Lun

/- copy; maps with whole numbers as keys; strings and bytes. -/
namespace Go.Lun

section
variable {P : Program} {n : Nat} {ds : List Deferred} {F : Fr} {L : List Asrt} {env : Env} {Q : Post} {ops : Array Oper} {rest : List Oper}
variable {dt : Option Tmp} {d : Tmp} {ty : TypeId} {pos : String} {af : Array Edge} {g : Option (Nat × Bool)}

/-- copy onto a row that is owned. -/
theorem o_copy {x y : Operand} {t t2 e : TypeId} {z z' : Value} {s1 b1 sz by_ : Nat} {d' : TypeDesc} {b off dl dc k : Nat} {sv : Value} {cs cs' ys : List Value} {T : TypeId} {fz : Nat × Nat} {M : List Asrt}
    [Ty P t (.slice e) z s1 b1] [Ty P e d' z' sz by_] (hx : ev env x = some (.slice (some ⟨b, off, none⟩) dl dc)) (hy : ev env y = some sv) (hsrc : Src P F L sz sv k ys)
    [hb : Find L b true (.cells ⟨cs⟩ T fz)] (hcs : spl cs off (ys.take (min k dl * sz)) = cs') [hu : Upd L b (.cells ⟨cs'⟩ T fz) M] (hroom : off + dl * sz ≤ cs.length) (h1 : ∀ u ∈ ys, u.oneCell' = true)
    (hf : ∀ j, off ≤ j → j < off + dl * sz → frz fz j = false) (hd : fits n dt = true)
    (h : OpsJ P n ds F M (putE env dt (.int .i64 ((min k dl : Nat) : Int))) ops rest Q) : OpsJ P n ds F L env ops (⟨dt, .call ⟨.builtin .copy, #[x, y], #[t, t2]⟩, ty, pos, af, none⟩ :: rest) Q :=
  o_value (X := Unit) (L' := fun _ => M) (v := fun _ => .int .i64 ((min k dl : Nat) : Int)) rfl hd (fun w a s kk => ⟨(), put w b (.cells ⟨cs'⟩ T fz), by
    obtain ⟨hlen, hyl, hfc⟩ := hsrc w s
    have hfc' := hfc (min k dl) (Nat.min_le_left _ _)
    have hle : (ys.take (min k dl * sz)).length ≤ dl * sz := by
      have : min k dl * sz ≤ dl * sz := Nat.mul_le_mul_right _ (Nat.min_le_right _ _)
      simp; omega
    have hst := run_storeCells (P := P) (off := off) (ys.take (min k dl * sz)) 0 w cs (s.find hb) (fun j h1 h2 => hf j (by omega) (by omega)) (by simp only [Nat.add_zero]; omega) (fun u hu => h1 u (List.mem_of_mem_take hu))
    simp only [Nat.add_zero, hcs] at hst
    rw [run_builtin kk (vs := [.slice (some ⟨b, off, none⟩) dl dc, sv]) (by simp [evs, hx, hy])]
    simp only [builtin, Sem.run_bind, Builtin.copy_]
    simp only [List.getElem?_toArray, List.getElem?_cons_zero, List.getElem?_cons_succ, Sem.run_bind, run_und, Result.andThen_ok, run_size, Sem.run_pure, hlen]
    rw [show Nat.min k dl = min k dl from rfl, hfc']
    simp [hst, goInt], s.upd hu⟩) (fun _ => h)

/-! #### Maps with whole numbers as keys -/

def ents (es : List (Int × Value × Nat)) : Array MapEntry := ⟨es.map fun e => ⟨.int .i64 e.1, e.2.1, e.2.2⟩⟩

def mget : List (Int × Value × Nat) → Int → Option Value
  | [], _ => none
  | (k', v, _) :: es, k => if k = k' then some v else mget es k
/-- The first entry of a key anew. -/
def mmod : List (Int × Value × Nat) → Int → Value → List (Int × Value × Nat)
  | [], _, _ => []
  | (k', v', s) :: es, k, v => if k = k' then (k, v, s) :: es else (k', v', s) :: mmod es k v
def mdel : List (Int × Value × Nat) → Int → List (Int × Value × Nat)
  | [], _ => []
  | (k', v', s) :: es, k => if k = k' then es else (k', v', s) :: mdel es k
def mput (es : List (Int × Value × Nat)) (ck : Nat) (k : Int) (v : Value) : Obj :=
  match mget es k with
  | some _ => .map (ents (mmod es k v)) ck
  | none => .map (ents (es ++ [(k, v, ck)])) (ck + 1)

def mfind : List (Int × Value × Nat) → Int → Nat → Option (Nat × Value)
  | [], _, _ => none
  | (k', v, _) :: es, k, i => if k = k' then some (i, v) else mfind es k (i + 1)

theorem findNow_ents {k : Int} : ∀ (es : List (Int × Value × Nat)) (i : Nat), Instr.findNow (.int .i64) (.int .i64 k) (ents es).toList i = some (mfind es k i)
  | [], _ => rfl
  | (k', v, s) :: es, i => by
    have ih := findNow_ents (k := k) es (i + 1)
    simp only [ents] at ih ⊢
    simp only [List.map_cons, Instr.findNow, Instr.sameNow, if_true, mfind]
    by_cases e : k = k'
    · subst e; simp
    · have : (k == k') = false := by simpa using e
      simp only [this, e, if_false]; exact ih

theorem mfind_mget {k : Int} : ∀ (es : List (Int × Value × Nat)) (i : Nat), (mfind es k i).map (·.2) = mget es k
  | [], _ => rfl
  | (k', v, s) :: es, i => by
    simp only [mfind, mget]
    split
    · rfl
    · exact mfind_mget es (i + 1)

theorem mfind_mod {k : Int} {v : Value} : ∀ (es : List (Int × Value × Nat)) (i j : Nat) (u : Value), mfind es k i = some (j, u) → i ≤ j ∧ ∃ e, (es[j - i]?) = some e ∧ e.1 = k ∧
    (ents es).modify (j - i) (fun e => { e with key := .int .i64 k, val := v }) = ents (mmod es k v)
  | [], _, _, _, h => by cases h
  | (k', v', s) :: es, i, j, u, h => by
    simp only [mfind] at h
    by_cases e : k = k'
    · subst e
      simp at h
      obtain ⟨rfl, rfl⟩ := h
      refine ⟨Nat.le_refl _, (k, v', s), by simp, rfl, ?_⟩
      simp only [ents, mmod, if_true, Nat.sub_self]
      apply Array.ext'
      simp [List.modify_zero_cons]
    · simp only [e, if_false] at h
      obtain ⟨h1, e0, h2, h3, h4⟩ := mfind_mod es (i + 1) j u h
      have hj : j - i = (j - (i + 1)) + 1 := by omega
      refine ⟨by omega, e0, by rw [hj]; simpa using h2, h3, ?_⟩
      have h5 := congrArg Array.toList h4
      apply Array.ext'
      simp only [ents, mmod, e, if_false, hj] at h5 ⊢
      simp only [Array.toList_modify] at h5 ⊢
      simp only [List.map_cons, List.modify_succ_cons]
      rw [h5]

section
theorem run_checkKey {K : TypeId} {z0 : Value} {s0 b0 : Nat} {w : World} [hK : Ty P K (.int .i64) z0 s0 b0] {em : Bool} {k : Int} : (Instr.checkKey em 10000 K (.int .i64 k)).run P w = .ok () w := by
  rw [show (10000 : Nat) = 9999 + 1 from rfl, Instr.checkKey]
  simp only [Sem.run_bind, run_und, Result.andThen_ok, Sem.run_pure]
theorem run_findKey {K : TypeId} {z0 : Value} {s0 b0 : Nat} {w : World} [hK : Ty P K (.int .i64) z0 s0 b0] {k : Int} {es : List (Int × Value × Nat)} : (Instr.findKey K (.int .i64 k) (ents es).toList).run P w = .ok (mfind es k 0) w := by
  simp only [Instr.findKey, Sem.run_bind, run_und, Result.andThen_ok, findNow_ents, Sem.run_pure]
end

/-- A key's value, or the nought. -/
theorem y_lookup {t K E : TypeId} {x ix : Operand} {zt zk ze : Value} {s1 b1 s2 b2 s3 b3 : Nat} {de : TypeDesc} {m ck : Nat} {es : List (Int × Value × Nat)} {k : Int} [Ty P t (.map K E) zt s1 b1] [Ty P K (.int .i64) zk s2 b2] [Ty P E de ze s3 b3]
    (hx : ev env x = some (.map (some m))) (hi : ev env ix = some (.int .i64 k)) [hb : Has F L m (.map (ents es) ck)] :
    Yld P n ds F L env ⟨dt, .lookup t x ix false, ty, pos, af, g⟩ ((mget es k).getD ze) := .mk fun w a s kk => by
  have e1 := kk.ev hx
  have e2 := kk.ev hi
  have hw := hb.out w s
  have hg : (getObj m).run P w = .ok (.map (ents es) ck) w := by simp [getObj, Sem.run, hw]
  simp only [execOp, e1, e2, Instr.lookup, Sem.run_bind, run_und, Result.andThen_ok, hg, Sem.run_pure, run_checkKey, run_findKey]
  rw [← mfind_mget es 0]
  cases mfind es k 0 with
  | none => simp [run_zero]
  | some p => simp
theorem y_lookup_ok {t K E : TypeId} {x ix : Operand} {zt zk ze : Value} {s1 b1 s2 b2 s3 b3 : Nat} {de : TypeDesc} {m ck : Nat} {es : List (Int × Value × Nat)} {k : Int} [Ty P t (.map K E) zt s1 b1] [Ty P K (.int .i64) zk s2 b2] [Ty P E de ze s3 b3]
    (hx : ev env x = some (.map (some m))) (hi : ev env ix = some (.int .i64 k)) [hb : Has F L m (.map (ents es) ck)] :
    Yld P n ds F L env ⟨dt, .lookup t x ix true, ty, pos, af, g⟩ (.tuple ⟨[(mget es k).getD ze, .bool (mget es k).isSome]⟩) := .mk fun w a s kk => by
  have e1 := kk.ev hx
  have e2 := kk.ev hi
  have hw := hb.out w s
  have hg : (getObj m).run P w = .ok (.map (ents es) ck) w := by simp [getObj, Sem.run, hw]
  simp only [execOp, e1, e2, Instr.lookup, Sem.run_bind, run_und, Result.andThen_ok, hg, Sem.run_pure, run_checkKey, run_findKey]
  rw [← mfind_mget es 0]
  cases mfind es k 0 with
  | none => simp [run_zero]
  | some p => simp

theorem y_lookup_v {t K E : TypeId} {x ix : Operand} {zt zk ze v : Value} {s1 b1 s2 b2 s3 b3 : Nat} {de : TypeDesc} {m ck : Nat} {es : List (Int × Value × Nat)} {k : Int} [Ty P t (.map K E) zt s1 b1] [Ty P K (.int .i64) zk s2 b2] [Ty P E de ze s3 b3]
    (hx : ev env x = some (.map (some m))) (hi : ev env ix = some (.int .i64 k)) [hb : Has F L m (.map (ents es) ck)] (hv : mget es k = some v) :
    Yld P n ds F L env ⟨dt, .lookup t x ix false, ty, pos, af, g⟩ v := by
  have := y_lookup (P := P) (n := n) (ds := ds) (F := F) (L := L) (dt := dt) (ty := ty) (pos := pos) (af := af) (g := g) (t := t) hx hi
  rwa [hv] at this
theorem y_lookup_z {t K E : TypeId} {x ix : Operand} {zt zk ze : Value} {s1 b1 s2 b2 s3 b3 : Nat} {de : TypeDesc} {m ck : Nat} {es : List (Int × Value × Nat)} {k : Int} [Ty P t (.map K E) zt s1 b1] [Ty P K (.int .i64) zk s2 b2] [Ty P E de ze s3 b3]
    (hx : ev env x = some (.map (some m))) (hi : ev env ix = some (.int .i64 k)) [hb : Has F L m (.map (ents es) ck)] (hv : mget es k = none) :
    Yld P n ds F L env ⟨dt, .lookup t x ix false, ty, pos, af, g⟩ ze := by
  have := y_lookup (P := P) (n := n) (ds := ds) (F := F) (L := L) (dt := dt) (ty := ty) (pos := pos) (af := af) (g := g) (t := t) hx hi
  rwa [hv] at this
theorem y_lookup_okv {t K E : TypeId} {x ix : Operand} {zt zk ze v : Value} {s1 b1 s2 b2 s3 b3 : Nat} {de : TypeDesc} {m ck : Nat} {es : List (Int × Value × Nat)} {k : Int} [Ty P t (.map K E) zt s1 b1] [Ty P K (.int .i64) zk s2 b2] [Ty P E de ze s3 b3]
    (hx : ev env x = some (.map (some m))) (hi : ev env ix = some (.int .i64 k)) [hb : Has F L m (.map (ents es) ck)] (hv : mget es k = some v) :
    Yld P n ds F L env ⟨dt, .lookup t x ix true, ty, pos, af, g⟩ (.tuple ⟨[v, .bool true]⟩) := by
  have := y_lookup_ok (P := P) (n := n) (ds := ds) (F := F) (L := L) (dt := dt) (ty := ty) (pos := pos) (af := af) (g := g) (t := t) hx hi
  rwa [hv] at this
theorem y_lookup_okz {t K E : TypeId} {x ix : Operand} {zt zk ze : Value} {s1 b1 s2 b2 s3 b3 : Nat} {de : TypeDesc} {m ck : Nat} {es : List (Int × Value × Nat)} {k : Int} [Ty P t (.map K E) zt s1 b1] [Ty P K (.int .i64) zk s2 b2] [Ty P E de ze s3 b3]
    (hx : ev env x = some (.map (some m))) (hi : ev env ix = some (.int .i64 k)) [hb : Has F L m (.map (ents es) ck)] (hv : mget es k = none) :
    Yld P n ds F L env ⟨dt, .lookup t x ix true, ty, pos, af, g⟩ (.tuple ⟨[ze, .bool false]⟩) := by
  have := y_lookup_ok (P := P) (n := n) (ds := ds) (F := F) (L := L) (dt := dt) (ty := ty) (pos := pos) (af := af) (g := g) (t := t) hx hi
  rwa [hv] at this

theorem run_setObj {w : World} {m : Nat} {o o' : Obj} (h : w.heap[m]? = some o) (hc : ∀ c e f, o ≠ .cells c e f) : (setObj m o').run P w = .ok () (put w m o') := by
  simp only [setObj, Sem.run, h]
  cases o <;> first | rfl | exact absurd rfl (hc _ _ _)

theorem o_mapUpdate {t K E : TypeId} {x ix y : Operand} {zt zk : Value} {s1 b1 s2 b2 : Nat} {m ck : Nat} {es : List (Int × Value × Nat)} {k : Int} {v : Value} {M : List Asrt} [Ty P t (.map K E) zt s1 b1] [Ty P K (.int .i64) zk s2 b2]
    (hx : ev env x = some (.map (some m))) (hi : ev env ix = some (.int .i64 k)) (hy : ev env y = some v) [hb : Find L m true (.map (ents es) ck)] [hu : Upd L m (mput es ck k v) M]
    (h : OpsJ P n ds F M env ops rest Q) : OpsJ P n ds F L env ops (⟨none, .mapUpdate t x ix y, ty, pos, af, none⟩ :: rest) Q :=
  o_void (X := Unit) (L' := fun _ => M) rfl rfl (fun w a s kk => ⟨(), put w m (mput es ck k v), by
    have e1 := kk.ev hx
    have e2 := kk.ev hi
    have e3 := kk.ev hy
    have hw := s.find hb
    have hg : (getObj m).run P w = .ok (.map (ents es) ck) w := by simp [getObj, Sem.run, hw]
    have hs : ∀ o', (setObj m o').run P w = .ok () (put w m o') := fun o' => run_setObj hw (by intro _ _ _ h; cases h)
    simp only [execOp, e1, e2, e3, Instr.mapUpdate, Sem.run_bind, run_und, Result.andThen_ok, hg, run_checkKey, run_findKey]
    have hfm := mfind_mget (k := k) es 0
    unfold mput
    cases hf : mfind es k 0 with
    | none =>
      rw [hf] at hfm
      rw [← hfm]
      simp only [Option.map_none, hs, Result.andThen_ok, Sem.run_pure]
      have : (ents es).push { key := .int .i64 k, val := v, born := ck } = ents (es ++ [(k, v, ck)]) := by apply Array.ext'; simp [ents]
      rw [this]
    | some p =>
      obtain ⟨j, u⟩ := p
      rw [hf] at hfm
      rw [← hfm]
      obtain ⟨h1, e0, h2, h3, h4⟩ := mfind_mod (v := v) es 0 j u hf
      simp only [Nat.sub_zero] at h2 h4
      have hkey : ((ents es)[j]?).map (·.key) = some (.int .i64 k) := by simp [ents, h2, h3]
      simp only [Option.map_some, hkey, Option.getD_some, Instr.keyThatStays, Instr.sameBits, beq_self_eq_true, Bool.and_self, if_true, Sem.run_bind, Sem.run_pure, Result.andThen_ok, h4, hs], s.upd hu⟩) (fun _ => h)

theorem o_clear {x : Operand} {t K E : TypeId} {zt : Value} {s1 b1 m ck : Nat} {es : Array MapEntry} {M : List Asrt} [Ty P t (.map K E) zt s1 b1] (hx : ev env x = some (.map (some m))) [hb : Find L m true (.map es ck)] [hu : Upd L m (.map #[] ck) M]
    (hd : fits n dt = true) (h : OpsJ P n ds F M (putE env dt (.tuple #[])) ops rest Q) : OpsJ P n ds F L env ops (⟨dt, .call ⟨.builtin .clear, #[x], #[t]⟩, ty, pos, af, none⟩ :: rest) Q :=
  o_value (X := Unit) (L' := fun _ => M) (v := fun _ => .tuple #[]) rfl hd (fun w a s kk => ⟨(), put w m (.map #[] ck), by
    have hw := s.find hb
    have hg : (getObj m).run P w = .ok (.map es ck) w := by simp [getObj, Sem.run, hw]
    have hs : ∀ o', (setObj m o').run P w = .ok () (put w m o') := fun o' => run_setObj hw (by intro _ _ _ h; cases h)
    rw [run_builtin kk (vs := [.map (some m)]) (by simp [evs, hx])]
    simp [builtin, Builtin.clear_, run_und, hg, hs], s.upd hu⟩) (fun _ => h)

/-! #### Texts -/

def byteV (c : UInt8) : Value := .int .u8 (c.toNat : Int)
def str (l : List UInt8) : Value := .string ⟨⟨l⟩⟩

/-- string(b) -/
theorem y_conv_str {src dst e : TypeId} {x : Operand} {zs zd : Value} {s1 b1 s2 b2 : Nat} {ze : Value} {s3 b3 b off len cap : Nat} {cs : List Value} {T : TypeId} {fz : Nat × Nat} {l : List UInt8} [Ty P src (.slice e) zs s1 b1] [Ty P dst .string zd s2 b2] [Ty P e (.int .u8) ze s3 b3]
    (hx : ev env x = some (.slice (some ⟨b, off, none⟩) len cap)) [hb : Has F L b (.cells ⟨cs⟩ T fz)] (hl : getN cs off len = some (l.map byteV)) :
    Yld P n ds F L env ⟨dt, .convert src dst x, ty, pos, af, g⟩ (str l) := .mk fun w a s kk => by
  have e1 := kk.ev hx
  have h1 := run_loadCells (P := P) (hb.out w s) hl
  have h2 := run_bytesToString (P := P) w ⟨b, off, none⟩ len cap (l.map fun c => (c.toNat : Int)) (by rw [h1]; congr 1; apply Array.ext'; simp [byteV, Function.comp_def])
  simp only [execOp, e1, convert, Sem.run_bind, run_und, Result.andThen_ok, h2, Sem.run_pure]
  have : (l.map fun c => (c.toNat : Int)).foldl (fun r n => r.push (UInt8.ofNat n.toNat)) ByteArray.empty = ⟨⟨l⟩⟩ := by
    have gen : ∀ (l : List UInt8) (r : ByteArray), (l.map fun c => (c.toNat : Int)).foldl (fun r n => r.push (UInt8.ofNat n.toNat)) r = ⟨⟨r.data.toList ++ l⟩⟩ := by
      intro l
      induction l with
      | nil => intro r; apply ByteArray.ext; simp
      | cons c l ih => intro r; simp [ih]
    have := gen l ByteArray.empty
    simpa using this
  rw [this]; rfl
theorem y_index_str {t : TypeId} {x ix : Operand} {z : Value} {s1 b1 : Nat} {l : List UInt8} {kd : IntKind} {i0 : Int} (i : Nat) {c : UInt8} [Ty P t .string z s1 b1] (hx : ev env x = some (str l)) (hi : ev env ix = some (.int kd i0)) (h0 : i0 = (i : Int)) (hc : l[i]? = some c) :
    Yld P n ds F L env ⟨dt, .index t x ix, ty, pos, af, g⟩ (byteV c) := .mk fun w a s kk => by
  have e1 := kk.ev hx
  have e2 := kk.ev hi
  subst h0
  have hlt : i < l.length := by
    rcases Nat.lt_or_ge i l.length with h | h
    · exact h
    · rw [List.getElem?_eq_none h] at hc; cases hc
  have hb : (⟨⟨l⟩⟩ : ByteArray)[i]? = some c := by
    have hlt' : i < (⟨⟨l⟩⟩ : ByteArray).size := hlt
    rw [ByteArray.getElem?_lt' _ _ hlt']
    have h3 : l[i]? = some l[i] := List.getElem?_eq_getElem hlt
    rw [h3] at hc
    exact hc
  unfold str at e1
  have h0' : (0 : Int) ≤ (i : Int) := by omega
  simp [execOp, e1, e2, Instr.index, asIntOf, run_und, hb, byteV]

theorem y_eq_str {op : BinOp} {xt yt : TypeId} {x y : Operand} {l m : List UInt8} {c : Bool} (hx : ev env x = some (str l)) (hy : ev env y = some (str m))
    (hop : (match op with | .eql => c = decide (l = m) | .neq => c = !decide (l = m) | _ => False)) : Yld P n ds F L env ⟨dt, .binOp op xt x y yt, ty, pos, af, g⟩ (.bool c) := .mk fun w a s kk => by
  have e1 := kk.ev hx
  have e2 := kk.ev hy
  unfold str at e1 e2
  have hl : (⟨⟨l⟩⟩ : ByteArray).toList = l := by rw [ByteArray.toList_eq]
  have hm : (⟨⟨m⟩⟩ : ByteArray).toList = m := by rw [ByteArray.toList_eq]
  cases op <;> simp at hop <;> subst hop <;> simp [execOp, e1, e2, eqGuard, binOp, Op.stringOp, hl, hm] <;> (rw [Bool.eq_iff_iff]; simp)

end
end Go.Lun

/- Ranging over a map. -/
namespace Go.Lun

section
variable {P : Program} {n : Nat} {ds : List Deferred} {F : Fr} {L : List Asrt} {env : Env} {Q : Post} {ops : Array Oper} {rest : List Oper}
variable {dt : Option Tmp} {d : Tmp} {ty : TypeId} {pos : String} {af : Array Edge} {g : Option (Nat × Bool)}

theorem o_range {t K E : TypeId} {x : Operand} {z : Value} {s1 b1 m ck : Nat} {es : Array MapEntry} [Ty P t (.map K E) z s1 b1] (hx : ev env x = some (.map (some m))) [hb : Has F L m (.map es ck)] (hd : Nat.blt d n = true)
    (h : ∀ it, OpsJ P n ds F (Blk it (.mapIter (some m) ck #[] ck) :: L) ((d, .pointer (some ⟨it, 0, none⟩)) :: env) ops rest Q) : OpsJ P n ds F L env ops (⟨some d, .range t x, ty, pos, af, none⟩ :: rest) Q :=
  o_value (X := Nat) (L' := fun b => Blk b (.mapIter (some m) ck #[] ck) :: L) (v := fun b => .pointer (some ⟨b, 0, none⟩)) rfl hd (fun w a s kk => ⟨w.heap.size, { w with heap := w.heap.push (.mapIter (some m) ck #[] ck) }, by
    have e1 := kk.ev hx
    have hg : (getObj m).run P w = .ok (.map es ck) w := by simp [getObj, Sem.run, hb.out w s]
    simp [execOp, e1, Instr.range, run_und, hg], s.new _⟩) h

theorem ents_filter (es : List (Int × Value × Nat)) (p : MapEntry → Bool) : (ents es).filter p = ⟨(es.map fun e => ({ key := .int .i64 e.1, val := e.2.1, born := e.2.2 } : MapEntry)).filter p⟩ := by
  apply Array.ext'; simp [ents]

/-- The next entry, whichever it is; or that there is none left. -/
theorem o_next {x : Operand} {it m ck : Nat} {es : List (Int × Value × Nat)} {seen : List Nat} (hx : ev env x = some (.pointer (some ⟨it, 0, none⟩))) [hi : Find L it true (.mapIter (some m) ck ⟨seen⟩ ck)] [hm : Has F L m (.map (ents es) ck)]
    (hold : ∀ e ∈ es, e.2.2 < ck) (M : (Int × Value × Nat) → List Asrt) [hu : ∀ e, Upd L it (.mapIter (some m) ck ⟨seen ++ [e.2.2]⟩ ck) (M e)] (hd : Nat.blt d n = true)
    (h0 : (∀ e ∈ es, e.2.2 ∈ seen) → OpsJ P n ds F L ((d, .tuple ⟨[.bool false]⟩) :: env) ops rest Q)
    (h1 : ∀ e, e ∈ es → e.2.2 ∉ seen → OpsJ P n ds F (M e) ((d, .tuple ⟨[.bool true, .int .i64 e.1, e.2.1]⟩) :: env) ops rest Q) :
    OpsJ P n ds F L env ops (⟨some d, .next x false, ty, pos, af, none⟩ :: rest) Q := .mk fun w a s k => by
  refine wpList_plain rfl fun K hK => ?_
  have e1 := k.ev hx
  have hwi := s.find hi
  have hwm := hm.out w s
  have hgi : (getObj it).run P w = .ok (.mapIter (some m) ck ⟨seen⟩ ck) w := by simp [getObj, Sem.run, hwi]
  have hgm : (getObj m).run P w = .ok (.map (ents es) ck) w := by simp [getObj, Sem.run, hwm]
  have hall : ((!(⟨seen⟩ : Array Nat).isEmpty && !(ents es).isEmpty && (ents es).all (fun e => decide (e.born ≥ ck)))) = false := by
    cases es with
    | nil => simp [ents]
    | cons e es =>
      have := hold e (by simp)
      simp [ents]; intros; omega
  -- what is left
  let me : (Int × Value × Nat) → MapEntry := fun e => { key := .int .i64 e.1, val := e.2.1, born := e.2.2 }
  let lf := es.filter fun e => !(seen.contains e.2.2)
  have hleft : (ents es).filter (fun e => !(⟨seen⟩ : Array Nat).contains e.born) = ⟨lf.map me⟩ := by
    rw [ents_filter]; congr 1
    rw [List.filter_map]; congr 1
    apply List.filter_congr; intro e _; simp [me]
  have hoo : (⟨lf.map me⟩ : Array MapEntry).filter (fun e => decide (e.born < ck)) = ⟨lf.map me⟩ := by
    apply Array.ext'
    simp only [Array.toList_filter]
    rw [List.filter_eq_self]
    intro e he
    obtain ⟨y, hy, rfl⟩ := List.mem_map.1 he
    have := hold y (List.mem_filter.1 hy).1
    simp [me, this]
  have hnn : (⟨lf.map me⟩ : Array MapEntry).filter (fun e => decide (e.born ≥ ck)) = ⟨[]⟩ := by
    apply Array.ext'
    simp only [Array.toList_filter]
    rw [List.filter_eq_nil_iff]
    intro e he
    obtain ⟨y, hy, rfl⟩ := List.mem_map.1 he
    have := hold y (List.mem_filter.1 hy).1
    simp [me]; omega
  have hset : ∀ (w' : World) o', w'.heap = w.heap → (setObj it o').run P w' = .ok () (put w' it o') := fun w' o' hw' => run_setObj (by rw [hw']; exact hwi) (by intro _ _ _ h; cases h)
  unfold Oper.wp
  cases hl : lf with
  | nil =>
    have hr : (execOp a.eval ⟨some d, .next x false, ty, pos, af, none⟩).run P w = .ok (.value (.tuple ⟨[.bool false]⟩)) w := by
      rw [hl] at hleft hoo hnn
      simp only [execOp, e1, Instr.next, Sem.run_bind, hgi, Result.andThen_ok, hgm, hall, Bool.false_eq_true, if_false, hleft, hoo, hnn]
      simp [Question.forced]
    rw [hr]
    refine hK _ _ ((h0 ?_).out w _ s (k.put (d := some d) hd _))
    intro e he
    have h3 : e ∉ lf := by rw [hl]; simp
    have h4 : ¬ (!(seen.contains e.2.2)) = true := fun h4 => h3 (List.mem_filter.2 ⟨he, h4⟩)
    simpa using h4
  | cons y ys =>
    have hne : lf ≠ [] := by rw [hl]; simp
    have hex : ∃ e w', e ∈ lf ∧ w'.heap = w.heap ∧ w'.os = w.os ∧ w'.output = w.output ∧ (execOp a.eval ⟨some d, .next x false, ty, pos, af, none⟩).run P w = .ok (.value (.tuple ⟨[.bool true, .int .i64 e.1, e.2.1]⟩)) (put w' it (.mapIter (some m) ck ⟨seen ++ [e.2.2]⟩ ck)) := by
      have hemp : (⟨lf.map me⟩ : Array MapEntry).isEmpty = false := by rw [hl]; simp
      have hsz : ((#[] : Array (Option MapEntry)) ++ ((⟨lf.map me⟩ : Array MapEntry) ++ ⟨[]⟩).map some).size = lf.length := by simp
      simp only [execOp, e1, Instr.next, Sem.run_bind, hgi, Result.andThen_ok, hgm, hall, Bool.false_eq_true, if_false, hleft, hoo, hnn, hemp, hsz, run_choose]
      have pick : ∀ j, j < lf.length → ∃ e, e ∈ lf ∧ lf[j]? = some e := fun j hj => ⟨lf[j], List.getElem_mem hj, List.getElem?_eq_getElem hj⟩
      have hpos : 0 < lf.length := by rw [hl]; simp
      by_cases hfo : (Question.mapNext lf.length).forced = true
      · obtain ⟨e, he, hj⟩ := pick 0 hpos
        refine ⟨e, w, he, rfl, rfl, rfl, ?_⟩
        simp [hfo, hj, me, hset w _ rfl]
      · obtain ⟨e, he, hj⟩ := pick ((Question.mapNext lf.length).cut (w.tape w.drawn (.mapNext lf.length))) (by simp only [Question.cut]; exact Nat.mod_lt _ hpos)
        refine ⟨e, { w with drawn := w.drawn + 1 }, he, rfl, rfl, rfl, ?_⟩
        simp [hfo, hj, me]
        rw [hset w.drew _ rfl]
        simp
    obtain ⟨e, w', he, hh, ho, hou, hr⟩ := hex
    rw [hr]
    have he' := List.mem_filter.1 he
    refine hK _ _ ((h1 e he'.1 (by simpa using he'.2)).out _ _ ?_ (k.put (d := some d) hd _))
    have s' : St F L w' := by
      obtain ⟨q1, q2, q3, r, q4, q5, q6, q7⟩ := s
      exact ⟨ho.trans q1, hou.trans q2, by rw [hh]; exact q3, r, q4, fun b p o hb => by rw [hh]; exact q5 b p o hb, fun b p o hb => by rw [hh]; exact q6 b p o hb, q7⟩
    exact s'.upd (hu e)

theorem y_entry {x : Operand} {it m ck since : Nat} {es : List (Int × Value × Nat)} {seen : List Nat} {e : Int × Value × Nat} (hx : ev env x = some (.pointer (some ⟨it, 0, none⟩))) [hi : Has F L it (.mapIter (some m) since ⟨seen ++ [e.2.2]⟩ ck)] [hm : Has F L m (.map (ents es) ck)]
    (he : e ∈ es) (hn : (es.map fun e => e.2.2).Nodup) : Yld P n ds F L env ⟨dt, .entry x, ty, pos, af, g⟩ (.tuple ⟨[.int .i64 e.1, e.2.1]⟩) := .mk fun w a s k => by
  have e1 := k.ev hx
  have hgi : (getObj it).run P w = .ok (.mapIter (some m) since ⟨seen ++ [e.2.2]⟩ ck) w := by simp [getObj, Sem.run, hi.out w s]
  have hgm : (getObj m).run P w = .ok (.map (ents es) ck) w := by simp [getObj, Sem.run, hm.out w s]
  have hb : (⟨seen ++ [e.2.2]⟩ : Array Nat).back? = some e.2.2 := by simp [Array.back?]
  have hf : (ents es).find? (fun y => y.born == e.2.2) = some { key := .int .i64 e.1, val := e.2.1, born := e.2.2 } := by
    simp only [ents]
    rw [List.find?_toArray, List.find?_map]
    have : List.find? ((fun y : MapEntry => y.born == e.2.2) ∘ fun e => ({ key := .int .i64 e.1, val := e.2.1, born := e.2.2 } : MapEntry)) es = some e := by
      clear hm hgm
      induction es with
      | nil => cases he
      | cons y es ih =>
        simp only [List.map_cons, List.nodup_cons] at hn
        rcases List.mem_cons.1 he with rfl | he
        · simp
        · have hne : y.2.2 ≠ e.2.2 := fun h => hn.1 (h ▸ List.mem_map.2 ⟨e, he, rfl⟩)
          have : ((fun y : MapEntry => y.born == e.2.2) ∘ fun e => ({ key := .int .i64 e.1, val := e.2.1, born := e.2.2 } : MapEntry)) y = false := by simpa using hne
          rw [List.find?_cons, this]; exact ih he hn.2
    rw [this]; rfl
  simp only [execOp, e1, Instr.entry, Sem.run_bind, hgi, Result.andThen_ok, hb, hgm, bne_self_eq_false, Bool.false_eq_true, if_false, hf, Sem.run_pure]

end
end Go.Lun

/- Comparing pointers, slices and truths. -/
namespace Go.Lun
section
variable {P : Program} {n : Nat} {ds : List Deferred} {F : Fr} {L : List Asrt} {env : Env}
variable {dt : Option Tmp} {ty : TypeId} {pos : String} {af : Array Edge} {g : Option (Nat × Bool)}

theorem run_eqIn_p {t e : TypeId} {z : Value} {s1 b1 : Nat} {p : Option Addr} {w : World} (d : Nat) [Ty P t (.pointer e) z s1 b1] : (Op.equalIn (d + 1) t (.pointer p) (.pointer none)).run P w = .ok p.isNone w := by
  unfold Op.equalIn
  simp only [Sem.run_bind, run_und, Result.andThen_ok]
  cases p <;> rfl
theorem run_eqIn_s {t e : TypeId} {z : Value} {s1 b1 l c l' c' : Nat} {p : Option Addr} {w : World} (d : Nat) [Ty P t (.slice e) z s1 b1] : (Op.equalIn (d + 1) t (.slice p l c) (.slice none l' c')).run P w = .ok p.isNone w := by
  unfold Op.equalIn
  simp only [Sem.run_bind, run_und, Result.andThen_ok]
  cases p <;> rfl
theorem eq_depth (t : TypeId) (x y : Value) : Op.equal t x y = Op.equalIn (9999 + 1) t x y := rfl

/-- Two values that are compared, by what is known of their being equal. -/
theorem y_eql_of {xt yt : TypeId} {x y : Operand} {a b : Value} {c : Bool} (hx : ev env x = some a) (hy : ev env y = some b) (hg : eqGuard .eql xt x y a b = pure ()) (hb : binOp .eql xt a b = (do pure (.bool (← Op.equal xt a b))))
    (h : ∀ w, (Op.equal xt a b).run P w = .ok c w) : Yld P n ds F L env ⟨dt, .binOp .eql xt x y yt, ty, pos, af, g⟩ (.bool c) := .mk fun w t s k => by
  have e1 := k.ev hx
  have e2 := k.ev hy
  simp only [execOp, e1, e2, hg, hb, Sem.run_bind, Sem.run_pure, Result.andThen_ok, h]
theorem y_eql_nil {xt yt e : TypeId} {x y : Operand} {z : Value} {s1 b1 : Nat} {p : Option Addr} [Ty P xt (.pointer e) z s1 b1] (hx : ev env x = some (.pointer p)) (hy : ev env y = some (.pointer none)) :
    Yld P n ds F L env ⟨dt, .binOp .eql xt x y yt, ty, pos, af, g⟩ (.bool p.isNone) := y_eql_of hx hy rfl rfl fun w => by rw [eq_depth]; exact run_eqIn_p _
theorem y_eql_snil {xt yt e : TypeId} {x y : Operand} {z : Value} {s1 b1 : Nat} {p : Option Addr} {l c l' c' : Nat} [Ty P xt (.slice e) z s1 b1] (hx : ev env x = some (.slice p l c)) (hy : ev env y = some (.slice none l' c')) :
    Yld P n ds F L env ⟨dt, .binOp .eql xt x y yt, ty, pos, af, g⟩ (.bool p.isNone) := y_eql_of hx hy rfl rfl fun w => by rw [eq_depth]; exact run_eqIn_s _

theorem y_len_str {x : Operand} {t : TypeId} {z : Value} {sz by_ : Nat} {l : List UInt8} [Ty P t .string z sz by_] (hx : ev env x = some (str l)) :
    Yld P n ds F L env ⟨dt, .call ⟨.builtin .len, #[x], #[t]⟩, ty, pos, af, g⟩ (.int .i64 (l.length : Int)) := y_len_string (s := ⟨⟨l⟩⟩) hx
end
instance {c : UInt8} : CellsV (byteV c) [byteV c] := ⟨rfl, by simp [byteV, Value.oneCell']⟩
instance {l : List UInt8} : CellsV (str l) [str l] := ⟨rfl, by simp [str, Value.oneCell']⟩
end Go.Lun

/- Functions without a Go text (atomic cells, marks of races), numbers' bits, and places of an array. -/
namespace Go.Lun

section
variable {P : Program} {n : Nat} {ds : List Deferred} {F : Fr} {L : List Asrt} {env : Env} {Q : Post} {ops : Array Oper} {rest : List Oper}
variable {dt : Option Tmp} {d : Tmp} {ty : TypeId} {pos : String} {af : Array Edge} {g : Option (Nat × Bool)}

theorem y_conv_unsafe {src dst e : TypeId} {x : Operand} {z1 z2 z3 v : Value} {s1 b1 s2 b2 sz b3 b off : Nat} {d3 : TypeDesc} {cs : List Value} {T : TypeId} {fz : Nat × Nat} [h1 : Ty P src (.pointer e) z1 s1 b1] [h2 : Ty P dst .unsafePointer z2 s2 b2] [h3 : Ty P e d3 z3 sz b3]
    (hx : ev env x = some (.pointer (some ⟨b, off, none⟩))) [hb : Has F L b (.cells ⟨cs⟩ T fz)] (hv : cs[off]? = some v) (hs : Nat.beq sz 0 = false) :
    Yld P n ds F L env ⟨dt, .convert src dst x, ty, pos, af, g⟩ (.pointer (some ⟨b, off, none⟩)) := .mk fun w a s k => by
  have e1 := k.ev hx
  have hc : w.cell? ⟨b, off, none⟩ = some v := by rw [cell_of (hb.out w s)]; exact hv
  obtain ⟨i, q1, _, q2, _⟩ := h3.info
  have h0 := of_beq_ff hs
  have := run_convert_to_unsafe (P := P) (src := src) (dst := dst) (t := e) h1.und h2.und (by rw [q1]; simp [q2, h0]) hc
  simp [execOp, e1, this]

/-- A function without a Go text, and what it is. -/
class ExtF (P : Program) (f : FuncId) (e : outParam (Array Value → Sem Value)) : Prop where
  out : ∃ fn, P.funcs[f]? = some fn ∧ (fn.name == "runtime.NumGoroutine") = false ∧ fn.body.isNone = true ∧ Extern.findNext fn = none ∧ Extern.find fn = some e
theorem ExtF.of {f : FuncId} {fn : Func} {e : Array Value → Sem Value} (hf : P.funcs[f]? = some fn) (h1 : (fn.name == "runtime.NumGoroutine") = false) (h2 : fn.body.isNone = true) (h3 : Extern.findNext fn = none) (h4 : Extern.find fn = some e) : ExtF P f e :=
  ⟨fn, hf, h1, h2, h3, h4⟩

theorem o_ext {f : FuncId} {args : Array Operand} {ats : Array TypeId} {vs : List Value} {v : Value} {L' : List Asrt} (hargs : evs env args.toList = some vs)
    (hrun : ∀ w, St F L w → ∃ w', (callFunc f ⟨vs⟩).run P w = .ok (.value v) w' ∧ St F L' w') (hd : fits n dt = true) (h : OpsJ P n ds F L' (putE env dt v) ops rest Q) :
    OpsJ P n ds F L env ops (⟨dt, .call ⟨.value (.func f), args, ats⟩, ty, pos, af, none⟩ :: rest) Q :=
  o_value (X := Unit) (L' := fun _ => L') (v := fun _ => v) rfl hd (fun w a s k => by
    obtain ⟨w', hr, s'⟩ := hrun w s
    refine ⟨(), w', ?_, s'⟩
    simp [execOp, resolve, k.evsA hargs, Act.eval, Deferred.ofValue, invoke, hr]) (fun _ => h)

theorem o_mark0 {f : FuncId} {ats : Array TypeId} {m : Mark} [hx : ExtF P f (fun _ => do mark m; pure Extern.Race.none_)] (hd : fits n dt = true) (h : OpsJ P n ds F L (putE env dt (.tuple ⟨[]⟩)) ops rest Q) :
    OpsJ P n ds F L env ops (⟨dt, .call ⟨.value (.func f), #[], ats⟩, ty, pos, af, none⟩ :: rest) Q := by
  obtain ⟨fn, h1, h2, h3, h4, h5⟩ := hx.out
  exact o_ext (vs := []) rfl (fun w s => ⟨w, run_call_mark0 h1 h2 h3 h4 m h5 w, s⟩) hd h
theorem o_marked {f : FuncId} {x : Operand} {ats : Array TypeId} {m : Addr → Mark} {b off : Nat} [hx : ExtF P f (Extern.Race.marked m)] (he : ev env x = some (.pointer (some ⟨b, off, none⟩))) (hd : fits n dt = true)
    (h : OpsJ P n ds F L (putE env dt (.tuple ⟨[]⟩)) ops rest Q) : OpsJ P n ds F L env ops (⟨dt, .call ⟨.value (.func f), #[x], ats⟩, ty, pos, af, none⟩ :: rest) Q := by
  obtain ⟨fn, h1, h2, h3, h4, h5⟩ := hx.out
  exact o_ext (vs := [.pointer (some ⟨b, off, none⟩)]) (by simp [evs, he]) (fun w s => ⟨w, run_call_marked h1 h2 h3 h4 m h5 _ w, s⟩) hd h

theorem o_aload {f : FuncId} {x : Operand} {ats : Array TypeId} {k : IntKind} {b off : Nat} {cs : List Value} {T : TypeId} {fz : Nat × Nat} {y : Int} [hx : ExtF P f (Extern.Atomic.loadT (.int k))] (he : ev env x = some (.pointer (some ⟨b, off, none⟩)))
    [hb : Has F L b (.cells ⟨cs⟩ T fz)] (hv : cs[off]? = some (.int k y)) (hd : fits n dt = true)
    (h : OpsJ P n ds F L (putE env dt (.int k y)) ops rest Q) : OpsJ P n ds F L env ops (⟨dt, .call ⟨.value (.func f), #[x], ats⟩, ty, pos, af, none⟩ :: rest) Q := by
  obtain ⟨fn, h1, h2, h3, h4, h5⟩ := hx.out
  exact o_ext (vs := [.pointer (some ⟨b, off, none⟩)]) (by simp [evs, he]) (fun w s => ⟨w, run_call_load h1 h2 h3 h4 k h5 (by rw [cell_of (hb.out w s)]; exact hv), s⟩) hd h

theorem o_astore {f : FuncId} {x y : Operand} {ats : Array TypeId} {k : IntKind} {b off : Nat} {cs cs' : List Value} {T : TypeId} {fz : Nat × Nat} {u : Value} {i : Int} {M : List Asrt} [hx : ExtF P f Extern.Atomic.storeT] (he : ev env x = some (.pointer (some ⟨b, off, none⟩)))
    (hy : ev env y = some (.int k i)) [hb : Find L b true (.cells ⟨cs⟩ T fz)] (hv : cs[off]? = some u) (hz : frz fz off = false) [hset : SetL cs off (.int k i) cs'] [hu : Upd L b (.cells ⟨cs'⟩ T fz) M] (hd : fits n dt = true)
    (h : OpsJ P n ds F M (putE env dt (.tuple ⟨[]⟩)) ops rest Q) : OpsJ P n ds F L env ops (⟨dt, .call ⟨.value (.func f), #[x, y], ats⟩, ty, pos, af, none⟩ :: rest) Q := by
  obtain ⟨fn, h1, h2, h3, h4, h5⟩ := hx.out
  refine o_ext (vs := [.pointer (some ⟨b, off, none⟩), .int k i]) (by simp [evs, he, hy]) (fun w s => ⟨put w b (.cells ⟨cs'⟩ T fz), ?_, s.upd hu⟩) hd h
  have hw := s.find hb
  have := run_call_store (P := P) h1 h2 h3 h4 h5 (k := k) (y := i) (a := ⟨b, off, none⟩) (w := w) (by rw [cell_of hw]; exact hv) (by rw [frozen_of hw]; exact hz)
  rw [setCell_of hw, hset.out.2] at this
  exact this

theorem o_acas {f : FuncId} {x y y' : Operand} {ats : Array TypeId} {k : IntKind} {b off : Nat} {cs cs' : List Value} {T : TypeId} {fz : Nat × Nat} {i j : Int} {M : List Asrt} [hx : ExtF P f (Extern.Atomic.casT (.int k))] (he : ev env x = some (.pointer (some ⟨b, off, none⟩)))
    (hy : ev env y = some (.int k i)) (hy' : ev env y' = some (.int k j)) [hb : Find L b true (.cells ⟨cs⟩ T fz)] (hv : cs[off]? = some (.int k i)) (hz : frz fz off = false) [hset : SetL cs off (.int k j) cs'] [hu : Upd L b (.cells ⟨cs'⟩ T fz) M] (hd : fits n dt = true)
    (h : OpsJ P n ds F M (putE env dt (.bool true)) ops rest Q) : OpsJ P n ds F L env ops (⟨dt, .call ⟨.value (.func f), #[x, y, y'], ats⟩, ty, pos, af, none⟩ :: rest) Q := by
  obtain ⟨fn, h1, h2, h3, h4, h5⟩ := hx.out
  refine o_ext (vs := [.pointer (some ⟨b, off, none⟩), .int k i, .int k j]) (by simp [evs, he, hy, hy']) (fun w s => ⟨put w b (.cells ⟨cs'⟩ T fz), ?_, s.upd hu⟩) hd h
  have hw := s.find hb
  have := run_call_cas_hit (P := P) h1 h2 h3 h4 k h5 (y := j) (a := ⟨b, off, none⟩) (w := w) (by rw [cell_of hw]; exact hv) (by rw [frozen_of hw]; exact hz)
  rw [setCell_of hw, hset.out.2] at this
  exact this

theorem o_aadd {f : FuncId} {x y : Operand} {ats : Array TypeId} {k : IntKind} {b off : Nat} {cs cs' : List Value} {T : TypeId} {fz : Nat × Nat} {i j : Int} {M : List Asrt} [hx : ExtF P f (Extern.Atomic.update (Op.intArith .add) k true)] (he : ev env x = some (.pointer (some ⟨b, off, none⟩)))
    (hy : ev env y = some (.int k j)) [hb : Find L b true (.cells ⟨cs⟩ T fz)] (hv : cs[off]? = some (.int k i)) (hz : frz fz off = false) [hset : SetL cs off (.int k (k.wrap (i + j))) cs'] [hu : Upd L b (.cells ⟨cs'⟩ T fz) M] (hd : fits n dt = true)
    (h : OpsJ P n ds F M (putE env dt (.int k (k.wrap (i + j)))) ops rest Q) : OpsJ P n ds F L env ops (⟨dt, .call ⟨.value (.func f), #[x, y], ats⟩, ty, pos, af, none⟩ :: rest) Q := by
  obtain ⟨fn, h1, h2, h3, h4, h5⟩ := hx.out
  refine o_ext (vs := [.pointer (some ⟨b, off, none⟩), .int k j]) (by simp [evs, he, hy]) (fun w s => ⟨put w b (.cells ⟨cs'⟩ T fz), ?_, s.upd hu⟩) hd h
  have hw := s.find hb
  have := run_call_add (P := P) h1 h2 h3 h4 k h5 (x := i) (y := j) (s := k.wrap (i + j)) (a := ⟨b, off, none⟩) (w := w) (by rw [cell_of hw]; exact hv) (by rw [frozen_of hw]; exact hz) (by simp [Op.intArith])
  rw [setCell_of hw, hset.out.2] at this
  exact this
end
end Go.Lun

/- Numbers' bits, and places of an array. -/
namespace Go.Lun

/-- How many bits a number of a kind has that isn't below zero. -/
def hib (k : IntKind) : Nat := if k.signed then k.bits - 1 else k.bits
theorem wrap_nat {k : IntKind} {c : Nat} (h : c < 2 ^ hib k) : k.wrap (c : Int) = (c : Int) := by
  have e8 : (2 : Int) ^ 8 = 256 := by decide
  have e7 : (2 : Int) ^ (8 - 1) = 128 := by decide
  have e16 : (2 : Int) ^ 16 = 65536 := by decide
  have e15 : (2 : Int) ^ (16 - 1) = 32768 := by decide
  have e32 : (2 : Int) ^ 32 = 4294967296 := by decide
  have e31 : (2 : Int) ^ (32 - 1) = 2147483648 := by decide
  have e64 : (2 : Int) ^ 64 = 18446744073709551616 := by decide
  have e63 : (2 : Int) ^ (64 - 1) = 9223372036854775808 := by decide
  cases k <;> simp only [hib, IntKind.signed, IntKind.bits, if_true, if_false, Bool.false_eq_true] at h <;>
    simp only [IntKind.wrap, IntKind.signed, IntKind.bits, e8, e7, e16, e15, e32, e31, e64, e63, Bool.true_and, Bool.false_and, Bool.false_eq_true, if_false, decide_eq_true_eq] <;>
    (try split) <;> omega
theorem hib_le (k : IntKind) : hib k ≤ k.bits := by unfold hib; split <;> omega
theorem bits_nat {k : IntKind} {c : Nat} (h : c < 2 ^ hib k) : (BitVec.ofInt k.bits (c : Int)).toNat = c := by
  rw [BitVec.ofInt_natCast, BitVec.toNat_ofNat]
  exact Nat.mod_eq_of_lt (Nat.lt_of_lt_of_le h (Nat.pow_le_pow_right (by decide) (hib_le k)))

section
variable {P : Program} {n : Nat} {ds : List Deferred} {F : Fr} {L : List Asrt} {env : Env} {Q : Post} {ops : Array Oper} {rest : List Oper}
variable {dt : Option Tmp} {d : Tmp} {ty : TypeId} {pos : String} {af : Array Edge} {g : Option (Nat × Bool)}
variable {xt yt : TypeId} {x y : Operand} {k0 k1 : IntKind} {a0 b0 : Int}

theorem y_xor (u v : Nat) (hx : ev env x = some (.int k0 a0)) (hy : ev env y = some (.int k0 b0)) (ha : a0 = (u : Int)) (hb : b0 = (v : Int)) (hu : u < 2 ^ hib k0) (hv : v < 2 ^ hib k0) :
    Yld P n ds F L env ⟨dt, .binOp .xor xt x y yt, ty, pos, af, g⟩ (.int k0 ((u ^^^ v : Nat) : Int)) := .mk fun w a _ k => by
  have ex := k.ev hx
  have ey := k.ev hy
  subst ha; subst hb
  simp only [execOp, ex, ey, eqGuard, binOp, Op.intBits, Sem.run_bind, BitVec.toNat_xor, bits_nat hu, bits_nat hv, wrap_nat (Nat.xor_lt_two_pow hu hv)]
  simp
theorem y_or (u v : Nat) (hx : ev env x = some (.int k0 a0)) (hy : ev env y = some (.int k0 b0)) (ha : a0 = (u : Int)) (hb : b0 = (v : Int)) (hu : u < 2 ^ hib k0) (hv : v < 2 ^ hib k0) :
    Yld P n ds F L env ⟨dt, .binOp .or xt x y yt, ty, pos, af, g⟩ (.int k0 ((u ||| v : Nat) : Int)) := .mk fun w a _ k => by
  have ex := k.ev hx
  have ey := k.ev hy
  subst ha; subst hb
  simp only [execOp, ex, ey, eqGuard, binOp, Op.intBits, Sem.run_bind, BitVec.toNat_or, bits_nat hu, bits_nat hv, wrap_nat (Nat.or_lt_two_pow hu hv)]
  simp
theorem y_and (u v : Nat) (hx : ev env x = some (.int k0 a0)) (hy : ev env y = some (.int k0 b0)) (ha : a0 = (u : Int)) (hb : b0 = (v : Int)) (hu : u < 2 ^ hib k0) (hv : v < 2 ^ hib k0) :
    Yld P n ds F L env ⟨dt, .binOp .and xt x y yt, ty, pos, af, g⟩ (.int k0 ((u &&& v : Nat) : Int)) := .mk fun w a _ k => by
  have ex := k.ev hx
  have ey := k.ev hy
  subst ha; subst hb
  simp only [execOp, ex, ey, eqGuard, binOp, Op.intBits, Sem.run_bind, BitVec.toNat_and, bits_nat hu, bits_nat hv, wrap_nat (Nat.and_lt_two_pow _ hv)]
  simp
theorem y_shl (u m : Nat) (hx : ev env x = some (.int k0 a0)) (hy : ev env y = some (.int k1 b0)) (ha : a0 = (u : Int)) (hb : b0 = (m : Int)) (hm : m ≤ k0.bits) (hu : u * 2 ^ m < 2 ^ hib k0) :
    Yld P n ds F L env ⟨dt, .binOp .shl xt x y yt, ty, pos, af, g⟩ (.int k0 ((u * 2 ^ m : Nat) : Int)) := .mk fun w a _ k => by
  have ex := k.ev hx
  have ey := k.ev hy
  subst ha; subst hb
  have h0 : ¬ ((m : Int) < 0) := by omega
  have h1 : min (m : Int).toNat k0.bits = m := by simp; omega
  have h2 : (u : Int) * 2 ^ m = ((u * 2 ^ m : Nat) : Int) := by simp
  simp only [execOp, ex, ey, eqGuard, binOp, Op.shift, Sem.run_bind, h0, if_false, h1, h2, wrap_nat hu]
  simp
/-- ^x of a number without a sign. -/
theorem y_compl (u : Nat) (hs : k0.signed = false) (hx : ev env x = some (.int k0 a0)) (ha : a0 = (u : Int)) (hu : u < 2 ^ hib k0) :
    Yld P n ds F L env ⟨dt, .unOp .xor xt x, ty, pos, af, g⟩ (.int k0 (((2 ^ hib k0 - 1) ^^^ u : Nat) : Int)) := .mk fun w a _ k => by
  have ex := k.ev hx
  subst ha
  have hm : k0.max = ((2 ^ hib k0 - 1 : Nat) : Int) := by
    unfold IntKind.max hib
    rw [hs]
    have : 1 ≤ 2 ^ k0.bits := Nat.one_le_two_pow
    simp [Int.natCast_sub this]
  have h1 : 2 ^ hib k0 - 1 < 2 ^ hib k0 := by have := Nat.one_le_two_pow (n := hib k0); omega
  simp only [execOp, ex, Op.unary, hs, Bool.false_eq_true, if_false, hm, Op.intBits, BitVec.toNat_xor, bits_nat hu, bits_nat h1, wrap_nat (Nat.xor_lt_two_pow h1 hu)]
  simp

/-- A number as a byte. -/
theorem y_conv_u8 {src dst : TypeId} {d0 : TypeDesc} {z0 z1 : Value} {s0 b1 s1 b2 : Nat} [Ty P src d0 z0 s0 b1] [Ty P dst (.int .u8) z1 s1 b2] (u : Nat) (hx : ev env x = some (.int k0 a0)) (ha : a0 = (u : Int)) :
    Yld P n ds F L env ⟨dt, .convert src dst x, ty, pos, af, g⟩ (.int .u8 ((u % 256 : Nat) : Int)) := .mk fun w a _ k => by
  subst ha
  have h : IntKind.u8.wrap (u : Int) = ((u % 256 : Nat) : Int) := by
    have e : (2 : Int) ^ 8 = 256 := by decide
    unfold IntKind.wrap
    simp only [IntKind.bits, IntKind.signed, e, Bool.false_and, Bool.false_eq_true, if_false]
    omega
  simp [execOp, k.ev hx, convert, run_und, Conv.intToInt, h]
/-- A number as one of another kind that has room for it. -/
theorem y_conv_fit {src dst : TypeId} {d0 : TypeDesc} {z0 z1 : Value} {s0 b1 s1 b2 : Nat} [Ty P src d0 z0 s0 b1] [Ty P dst (.int k1) z1 s1 b2] (u : Nat) (hx : ev env x = some (.int k0 a0)) (ha : a0 = (u : Int)) (hu : u < 2 ^ hib k1) :
    Yld P n ds F L env ⟨dt, .convert src dst x, ty, pos, af, g⟩ (.int k1 (u : Int)) := .mk fun w a _ k => by
  subst ha
  simp [execOp, k.ev hx, convert, run_und, Conv.intToInt, wrap_nat hu]

/-- A place of an array. -/
theorem y_indexAddrA {ix : Operand} {t e : TypeId} {z z' : Value} {s1 b1 sz by_ b off len : Nat} {kd : IntKind} {i0 : Int} (i : Nat) {d' : TypeDesc} [Ty P t (.array len e) z s1 b1] [Ty P e d' z' sz by_]
    (hx : ev env x = some (.pointer (some ⟨b, off, none⟩))) (hi : ev env ix = some (.int kd i0)) (h0 : i0 = (i : Int)) (h1 : i < len) :
    Yld P n ds F L env ⟨dt, .indexAddr t x ix, ty, pos, af, g⟩ (.pointer (some ⟨b, off + i * sz, none⟩)) := .mk fun w a _ k => by
  have e1 := k.ev hx
  have e2 := k.ev hi
  subst h0
  have h2 : (0 : Int) ≤ (i : Int) ∧ (i : Int) < (len : Int) := ⟨by omega, by omega⟩
  simp [execOp, e1, e2, Instr.indexAt, asIntOf, run_und, h2, run_size, add_none, h1, Instr.sureAddr]
end
end Go.Lun

/- Deferred calls. -/
namespace Go.Lun

section
variable {P : Program} {n : Nat} {ds : List Deferred} {F : Fr} {L : List Asrt} {env : Env} {Q : Post} {ops : Array Oper} {rest : List Oper}
variable {ty : TypeId} {pos : String} {af : Array Edge}

/-- A statement that may hold a 'defer': in a function's own frame. -/
theorem c_regionD {id : Nat} {l : List Oper} (hro : F.ro = none) (h : OpsJ P n ds F L env l.toArray l Q) : CodeJ P n ds F L env (.region id l.toArray false) Q := .mk fun w a s o => by
  rw [hro]; exact wpr_none.2 (wp_region_lit (h.out w a s o))

/-- 'defer f(..)'. -/
theorem o_defer {f : FuncId} {args : Array Operand} {ats : Array TypeId} {vs : List Value} (hargs : evs env args.toList = some vs)
    (h : OpsJ P n ({ target := .fn (.func f) #[], args := ⟨vs⟩ } :: ds) F L env ops rest Q) : OpsJ P n ds F L env ops (⟨none, .defer ⟨.value (.func f), args, ats⟩, ty, pos, af, none⟩ :: rest) Q := .mk fun w a s k => by
  refine wpList_plain rfl fun K hK => ?_
  have he : (execOp a.eval ⟨none, .defer ⟨.value (.func f), args, ats⟩, ty, pos, af, none⟩).run P w = .ok (.defer { target := .fn (.func f) #[], args := ⟨vs⟩ }) w := by
    simp [execOp, resolve, k.evsA hargs, Act.eval, Deferred.ofValue]
  unfold Oper.wp
  rw [he, Oper.upon_defer]
  exact hK _ _ (h.out w _ s ⟨k.size, by show _ :: a.defers = _; rw [k.defers], k.val⟩)

/-- What a function does that is called as a deferred one. -/
structure FnD (P : Program) (f : FuncId) (args : List Value) (pre : List Asrt) (R : Value → List Asrt → Prop) : Prop where
  out : ∀ F w u, St F pre w → CallsDIn (fe none) 0 P f ⟨args⟩ u w fun e u' w' => u' = u ∧ ∃ v L', e = .returned v ∧ R v L' ∧ St F L' w'

def FnPost0 (P : Program) (fn : Func) (F : Fr) (R : Value → List Asrt → Prop) : Post
  | .normal, a, w | .ret, a, w => a.defers = [] ∧ ∃ v, (results fn a.tmps).run P w = .ok v w ∧ ∃ v' L', Ending.returned v = .returned v' ∧ R v' L' ∧ St F L' w
  | _, _, _ => False
instance {fn : Func} {R : Value → List Asrt → Prop} : NoOut (FnPost0 P fn F R) := ⟨fun _ _ h => h⟩
instance {P : Program} {fn : Func} {F : Fr} {R : Value → List Asrt → Prop} : Calm (FnPost0 P fn F R) := ⟨fun _ _ _ _ k _ => k⟩

theorem fnD_start {f : FuncId} {fn : Func} {c : Code} {args : List Value} {pre : List Asrt} {R : Value → List Asrt → Prop} (hf : P.funcs[f]? = some fn) (hb : fn.body = some c) (hn : fn.ntmps = n)
    (hl : Nat.ble args.length n = true) (h : ∀ F, CodeJ P n [] F pre (argEnv 0 args) c (FnPost0 P fn F R)) : FnD P f args pre R := .mk fun F w u s => by
  refine callsDIn_of_wp (F := fe none) (R := fun e w' => ∃ v L', e = .returned v ∧ R v L' ∧ St F L' w') hf hb trivial (wpIn_mono ((h { F with ro := none }).out w _ s ⟨?_, rfl, ?_⟩) ?_)
  · have := Nat.le_of_ble_eq_true hl
    simp [hn]; omega
  · intro t v ht
    obtain ⟨_, h2⟩ := look_argEnv ht
    have hlt : t < args.length := by
      rcases Nat.lt_or_ge t args.length with h | h
      · exact h
      · simp [List.getElem?_eq_none h] at h2
    simp [Array.getElem?_append, hlt]
    simpa [hlt] using h2
  · intro e a w hq
    cases e with
    | normal => exact hq
    | ret => exact hq
    | _ => exact hq.elim

theorem f_end0 {fn : Func} {R : Value → List Asrt → Prop} {vs : List Value} (hr : resE env fn.results.toList = some vs) (hR : R (tup vs) L) : FinJ P n [] F L env .normal (FnPost0 P fn F R) := .mk fun w a s k =>
  ⟨k.defers, _, results_of k hr, _, _, rfl, hR, s⟩

/-- At a function's end its newest deferred call is made. -/
theorem leave {fn : Func} {R R' : Value → List Asrt → Prop} {f : FuncId} {vs : List Value} {pre M : List Asrt} [hc : Callee P f] (hf : FnD P f vs pre R') (ht : Takes L pre M)
    (h : ∀ v L', R' v L' → ∀ w a, St F (L' ++ M) w → Ok n ds env a → LeavesInM (fe none) 0 P fn a.tmps (fun e w' => ∃ v L', e = .returned v ∧ R v L' ∧ St F L' w') a.defers .returning w) :
    ∀ w a, St F L w → Ok n ({ target := .fn (.func f) #[], args := ⟨vs⟩ } :: ds) env a → LeavesInM (fe none) 0 P fn a.tmps (fun e w' => ∃ v L', e = .returned v ∧ R v L' ∧ St F L' w') a.defers .returning w := by
  intro w a s k
  obtain ⟨F', s', hback⟩ := s.frame ht
  rw [k.defers]
  refine ⟨by simp, .inr ⟨fe_depth, .func f, #[], f, ⟨vs⟩, rfl, by simp [invoke, hc.run], fun _ _ => trivial, ?_⟩⟩
  refine (hf.out F' w .returning s').mono fun e u' w' => ?_
  rintro ⟨rfl, v, L', rfl, hR, s''⟩
  exact h v L' hR w' { a with defers := ds } (hback _ _ s'') ⟨k.size, rfl, k.val⟩

theorem f_leave_end {fn : Func} {R R' : Value → List Asrt → Prop} {f : FuncId} {vs : List Value} {pre M : List Asrt} [hc : Callee P f] (hf : FnD P f vs pre R') (ht : Takes L pre M)
    (h : ∀ v L', R' v L' → FinJ P n ds F (L' ++ M) env .normal (FnPost P fn F R)) : FinJ P n ({ target := .fn (.func f) #[], args := ⟨vs⟩ } :: ds) F L env .normal (FnPost P fn F R) :=
  ⟨leave hf ht fun v L' hR w a s k => (h v L' hR).out w a s k⟩
end
end Go.Lun

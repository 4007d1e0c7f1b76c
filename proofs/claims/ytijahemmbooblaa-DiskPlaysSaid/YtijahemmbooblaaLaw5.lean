/- Rows of acts; what holds of a disk whatever is done. -/
import Derived.Test.YtijahemmbooblaaLaw4
namespace Go.Lun
open Go.Proofs

theorem flat_get {α : Type} (f : α → List Value) (k : Nat) (hf : ∀ x, (f x).length = k) : ∀ {xs : List α} {i : Nat} {x : α}, xs[i]? = some x → getN (xs.flatMap f) (i * k) k = some (f x)
  | [], i, x, h => by simp at h
  | y :: xs, 0, x, h => by
    simp only [List.getElem?_cons_zero, Option.some.injEq] at h
    subst h
    have := getN_front (f y) (xs.flatMap f)
    rw [hf] at this
    rw [Nat.zero_mul, List.flatMap_cons]; exact this
  | y :: xs, i + 1, x, h => by
    have ih := flat_get f k hf (xs := xs) (i := i) (by simpa using h)
    unfold getN at ih ⊢
    rw [List.flatMap_cons]
    have e : (i + 1) * k = (f y).length + i * k := by rw [hf, Nat.add_mul, Nat.one_mul, Nat.add_comm]
    rw [e, ← List.drop_drop, List.drop_left]; exact ih

theorem flat_len {α : Type} (f : α → List Value) (k : Nat) (hf : ∀ x, (f x).length = k) : ∀ xs : List α, (xs.flatMap f).length = xs.length * k
  | [] => by simp
  | x :: xs => by rw [List.flatMap_cons, List.length_append, hf, flat_len f k hf xs, List.length_cons, Nat.add_mul, Nat.one_mul, Nat.add_comm]

/-- One of many assertions taken out, and put back. -/
theorem star_at {α : Type} (A : α → Asrt) : ∀ {xs : List α} {i : Nat} {x : α}, xs[i]? = some x → ∃ rs : List α, Ent [Star (xs.map A)] [A x, Star (rs.map A)] ∧ Ent [A x, Star (rs.map A)] [Star (xs.map A)]
  | [], i, x, h => by simp at h
  | y :: xs, 0, x, h => by
    simp only [List.getElem?_cons_zero, Option.some.injEq] at h
    subst h
    exact ⟨xs, Ent.star_cons, Ent.cons_star⟩
  | y :: xs, i + 1, x, h => by
    obtain ⟨rs, h1, h2⟩ := star_at A (xs := xs) (i := i) (x := x) (by simpa using h)
    refine ⟨y :: rs, ?_, ?_⟩
    · exact Ent.star_cons.trans ((Ent.cons h1).trans ((Ent.perm (.swap _ _ _)).trans (Ent.cons Ent.cons_star)))
    · exact (Ent.cons Ent.star_cons).trans ((Ent.perm (.swap _ _ _)).trans ((Ent.cons h2).trans Ent.cons_star))

/-- What is made fast by all acts: how many writes are loose, how much the fuse is, what is read anew. -/
structure DI (c : Nat) (S : DS) : Prop where
  loose : S.loose.length ≤ c
  low : -(c : Int) ≤ S.fuse
  high : S.fuse ≤ 50
  now : S.now = S.loose.foldl (fun f w => upd f w.1 w.2) (fun _ => none)
  most : S.most ≤ 4096
  room : S.pages ≤ S.most

theorem lay_or (ws : List (Int × Bytes)) : ∀ (f g : Int → Option Bytes) (x : Int), (ws.foldl (fun f w => upd f w.1 w.2) (fun y => (g y).or (f y))) x = ((ws.foldl (fun f w => upd f w.1 w.2) g) x).or (f x) := by
  induction ws with
  | nil => intro f g x; rfl
  | cons w ws ih =>
    intro f g x
    simp only [List.foldl_cons]
    have e : upd (fun y => (g y).or (f y)) w.1 w.2 = fun y => ((upd g w.1 w.2) y).or (f y) := by
      funext y; simp only [upd]; split <;> simp
    rw [e, ih]
theorem lay_now {S : DS} {c : Nat} (h : DI c S) (x : Int) : S.sync.last x = (S.now x).or (S.last x) := by
  have := lay_or S.loose S.last (fun _ => none) x
  simp only [Option.none_or] at this
  rw [h.now]
  exact this

theorem lay_map (p : Int) (k : Nat) (l : Bytes) (ws : List (Int × Bytes)) : ∀ (f g : Int → Option Bytes), (∀ x, g x = if x = p then (f p).map (fun o => splb o k l) else f x) →
    ∀ x, ((ws.map fun w => if w.1 = p then (w.1, splb w.2 k l) else w).foldl (fun f w => upd f w.1 w.2) g) x = if x = p then ((ws.foldl (fun f w => upd f w.1 w.2) f) p).map (fun o => splb o k l) else (ws.foldl (fun f w => upd f w.1 w.2) f) x := by
  induction ws with
  | nil => intro f g h x; exact h x
  | cons w ws ih =>
    intro f g h x
    simp only [List.map_cons, List.foldl_cons]
    refine ih _ _ (fun y => ?_) x
    by_cases hw : w.1 = p
    · simp only [hw, if_true, upd]
      by_cases hy : y = p
      · simp [hy]
      · simp [hy, h y]
    · simp only [hw, if_false, upd]
      by_cases hy : y = p
      · have h1 : ¬ p = w.1 := fun e => hw e.symm
        simp [hy, h1, h p]
      · simp only [hy, if_false, h y]

theorem DI.mono {c e : Nat} {S : DS} (h : DI c S) (hc : c ≤ e) : DI e S := ⟨Nat.le_trans h.loose hc, by have := h.low; omega, h.high, h.now, h.most, h.room⟩
theorem DI.sync {c : Nat} {S : DS} (h : DI c S) : DI (c + 1) S.sync := ⟨Nat.zero_le _, by have := h.low; simp only [DS.sync]; omega, by have := h.high; simp only [DS.sync]; omega, rfl, h.most, h.room⟩

theorem keep_same (ks : List TK) : ∀ S : DS, (ks.foldl DS.keep S).fuse = S.fuse ∧ (ks.foldl DS.keep S).pages = S.pages ∧ (ks.foldl DS.keep S).most = S.most := by
  induction ks with
  | nil => intro S; exact ⟨rfl, rfl, rfl⟩
  | cons k ks ih =>
    intro S
    rw [List.foldl_cons]
    have h := ih (S.keep k)
    have e : (S.keep k).fuse = S.fuse ∧ (S.keep k).pages = S.pages ∧ (S.keep k).most = S.most := by
      unfold DS.keep
      split
      · split <;> exact ⟨rfl, rfl, rfl⟩
      · exact ⟨rfl, rfl, rfl⟩
    exact ⟨h.1.trans e.1, h.2.1.trans e.2.1, h.2.2.trans e.2.2⟩

theorem DI.act {c : Nat} {S : DS} {x : ActM} (h : DI c S) (hx : x.few = true) : DI (c + 1) (S.act x).1 := by
  obtain ⟨h1, h2, h3, h4, h5, h6⟩ := h
  have h0 : DI (c + 1) S := ⟨by omega, by omega, h3, h4, h5, h6⟩
  simp only [ActM.few, Bool.and_eq_true, decide_eq_true_eq] at hx
  unfold DS.act
  split
  · split
    · exact h0
    · split
      · exact h0
      · exact ⟨by simp only [DS.grow]; omega, by simp only [DS.grow]; omega, h3, h4, h5, by simp only [DS.grow]; omega⟩
  split
  · split
    · exact h0
    split
    · exact h0
    split
    · exact h0
    · refine ⟨?_, ?_, ?_, ?_, h5, h6⟩
      · simp only [DS.write, List.length_append, List.length_singleton]; omega
      · simp only [DS.write]; omega
      · simp only [DS.write]; omega
      · simp only [DS.write, List.foldl_append, List.foldl_cons, List.foldl_nil, h4]
  split
  · split
    · exact h0
    · exact DI.sync ⟨h1, h2, h3, h4, h5, h6⟩
  split
  · have hk := keep_same x.ks S
    refine ⟨Nat.zero_le _, ?_, ?_, rfl, by simp only [DS.crash, hk.2.2]; exact h5, by simp only [DS.crash, hk.2.1, hk.2.2]; exact h6⟩
    · simp only [DS.crash, hk.1]; omega
    · simp only [DS.crash, hk.1]; exact h3
  split
  · split
    · exact h0
    split
    · exact h0
    · refine ⟨?_, ?_, ?_, ?_, h5, h6⟩
      · simp only [DS.spoil, List.length_map]; omega
      · simp only [DS.spoil]; omega
      · exact h3
      · funext y
        have := lay_map x.page x.at_.toNat x.s S.loose (fun _ => none) (fun _ => none) (fun y => by simp) y
        simp only [DS.spoil]
        rw [this, h4]
  split
  · split
    · exact h0
    · exact ⟨by dsimp only; omega, by dsimp only; omega, by dsimp only; omega, h4, h5, h6⟩
  · exact h0
end Go.Lun

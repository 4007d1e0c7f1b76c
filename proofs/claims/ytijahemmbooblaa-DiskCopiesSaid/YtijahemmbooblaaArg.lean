/- Rows that are read alone, out of a call's arguments. -/
import Derived.Test.YtijahemmbooblaaLaw5
import Derived.Test.YtijahemmbooblaaFin
import Derived.Deep.Slices
import Derived.Test.YtijahemmbooblaaRows
namespace Go.Lun
open Go.Proofs Go.ChangeShapes Go.WideShapes Go.ChangeAt Go.RowKit Go.Deep

theorem sep_all {W : World} : ∀ {L : List Asrt}, (∀ A ∈ L, A (Fr.all W).res) → sep L (Fr.all W).res
  | [], _ => trivial
  | A :: L, h => by
    have hc : Compat (Fr.all W).res (Fr.all W).res := by
      intro b p o q o' h1 h2
      have : (p, o) = (q, o') := Option.some.inj (h1.symm.trans h2)
      injection this with e1 e2
      subst e1; subst e2
      simp only [Fr.all, Option.map_eq_some_iff] at h1
      obtain ⟨_, _, h3⟩ := h1
      injection h3 with h3 _
      exact ⟨h3.symm, h3.symm, rfl⟩
    refine ⟨(Fr.all W).res, (Fr.all W).res, hc, ?_, h A (by simp), sep_all fun B hB => h B (by simp [hB])⟩
    funext b
    simp only [join]
    split <;> simp_all

theorem st_args {W : World} {L : List Asrt} (h : ∀ A ∈ L, A (Fr.all W).res) : St (Fr.all W) L W := by
  refine ⟨rfl, rfl, Nat.le_refl _, (Fr.all W).res, ?_, sat_all W, sat_all W, sep_all h⟩
  intro b p o q o' h1 h2
  have : (p, o) = (q, o') := Option.some.inj (h1.symm.trans h2)
  injection this with e1 e2
  subst e1; subst e2
  simp only [Fr.all, Option.map_eq_some_iff] at h1
  obtain ⟨_, _, h3⟩ := h1
  injection h3 with h3 _
  exact ⟨h3.symm, h3.symm, rfl⟩

/-- A contract that only reads what the arguments read, in the world of a call. -/
theorem Fn.lift_args {P : Program} {f : FuncId} {args : List Value} {L0 : List Asrt} {R : Value → List Asrt → Prop} {W : World} (h : Fn P f args L0 R) (hL : ∀ A ∈ L0, A (Fr.all W).res) :
    Calls P f ⟨args⟩ W fun e w => ∃ v L, e = .returned v ∧ R v L ∧ Kept W w := (h.out (Fr.all W) W (st_args hL)).mono fun e w => by
  rintro ⟨v, L, rfl, hR, s⟩
  exact ⟨v, L, rfl, hR, kept_of s⟩

theorem mapM_get {α β : Type} {g : α → Option β} : ∀ {xs : List α} {ys : List β}, xs.mapM g = some ys → ys.length = xs.length ∧ ∀ (j : Nat) (x : α), xs[j]? = some x → g x = ys[j]?
  | [], ys, h => by simp at h; subst h; simp
  | x :: xs, ys, h => by
    rw [List.mapM_cons] at h
    cases hg : g x with
    | none => rw [hg] at h; cases h
    | some y =>
      cases hm : xs.mapM g with
      | none => rw [hg, hm] at h; cases h
      | some zs =>
        rw [hg, hm] at h
        have h' : y :: zs = ys := by injection h
        subst h'
        obtain ⟨h1, h2⟩ := mapM_get hm
        refine ⟨by simp [h1], fun j z hz => ?_⟩
        cases j with
        | zero => simp at hz; subst hz; simpa using hg
        | succ j => simpa using h2 j z (by simpa using hz)

theorem getN_of {cs ys : List Value} {off : Nat} (h : ∀ j, j < ys.length → cs[off + j]? = ys[j]?) : getN cs off ys.length = some ys := by
  have hl : ys.length ≤ (cs.drop off).length := by
    rw [List.length_drop]
    rcases Nat.eq_zero_or_pos ys.length with h0 | h0
    · omega
    · have := h (ys.length - 1) (by omega)
      rw [List.getElem?_eq_getElem (by omega : ys.length - 1 < ys.length)] at this
      have h2 : off + (ys.length - 1) < cs.length := by
        rcases Nat.lt_or_ge (off + (ys.length - 1)) cs.length with h3 | h3
        · exact h3
        · rw [List.getElem?_eq_none h3] at this; cases this
      omega
  unfold getN
  rw [takeN_take hl]
  congr 1
  apply List.ext_getElem?
  intro j
  rcases Nat.lt_or_ge j ys.length with hj | hj
  · rw [List.getElem?_take_of_lt hj, List.getElem?_drop]; exact h j hj
  · rw [List.getElem?_eq_none hj, List.getElem?_eq_none (by rw [List.length_take]; omega)]

theorem getN_app {cs us vs : List Value} {off k m : Nat} (h1 : getN cs off k = some us) (h2 : getN cs (off + k) m = some vs) : getN cs off (k + m) = some (us ++ vs) := by
  have l1 := getN_length h1
  have l2 := getN_length h2
  have g1 := (takeN_get h1).2
  have g2 := (takeN_get h2).2
  have := getN_of (cs := cs) (ys := us ++ vs) (off := off) (fun j hj => by
    rw [List.length_append] at hj
    by_cases hjk : j < us.length
    · rw [List.getElem?_append_left hjk, ← g1 j (by omega), List.getElem?_drop]
    · rw [List.getElem?_append_right (by omega), ← g2 (j - us.length) (by omega), List.getElem?_drop]
      congr 1; omega)
  rw [List.length_append, l1, l2] at this
  exact this

theorem getN_flat {α : Type} {f : α → List Value} {k : Nat} {cs : List Value} : ∀ {xs : List α} {off : Nat}, (∀ i x, xs[i]? = some x → getN cs (off + i * k) k = some (f x)) → getN cs off (xs.length * k) = some (xs.flatMap f)
  | [], off, _ => by simp [getN, takeN]
  | x :: xs, off, h => by
    have h0 := h 0 x rfl
    rw [Nat.zero_mul, Nat.add_zero] at h0
    have ih := getN_flat (xs := xs) (off := off + k) (fun i y hy => by
      have := h (i + 1) y (by simpa using hy)
      have e : off + (i + 1) * k = off + k + i * k := by rw [Nat.add_mul, Nat.one_mul]; omega
      rw [← e]; exact this)
    have := getN_app h0 ih
    rw [List.flatMap_cons, List.length_cons, Nat.add_mul, Nat.one_mul, Nat.add_comm]
    exact this

/-- Cells of a world's row. -/
theorem cells_at {W : World} {a : Addr} {o k : Nat} {l : List Value} (hk : 0 < k) (h : W.cells? 0 (a.add o) k = some l) :
    ∃ (c : List Value) (T : TypeId) (fz : Nat × Nat), W.heap[a.block]? = some (.cells ⟨c⟩ T fz) ∧ getN c (a.off + o) k = some l ∧ (o = 0 → a.spot = none) := by
  unfold World.cells? at h
  rw [if_pos (Nat.zero_le _)] at h
  obtain ⟨h1, h2⟩ := mapM_get h
  rw [List.length_range] at h1
  have hb : (a.add o).block = a.block := by unfold Addr.add; split <;> rfl
  have ho : (a.add o).off = a.off + o := by unfold Addr.add; split <;> simp_all
  have key : ∀ j, j < k → W.cell? ((a.add o).add j) = l[j]? := fun j hj => h2 j j (by rw [List.getElem?_range hj])
  have hbj : ∀ j, ((a.add o).add j).block = a.block := fun j => by rw [← hb]; generalize a.add o = a'; unfold Addr.add; split <;> rfl
  have hoj : ∀ j, ((a.add o).add j).off = a.off + o + j := fun j => by rw [← ho]; generalize a.add o = a'; unfold Addr.add; split <;> simp_all
  cases hh : W.heap[a.block]? with
  | none =>
    have := key 0 hk
    unfold World.cell? at this
    rw [hbj, hh, List.getElem?_eq_getElem (by omega)] at this
    cases this
  | some ob =>
    cases ob with
    | cells c T fz =>
      obtain ⟨c⟩ := c
      refine ⟨c, T, fz, rfl, ?_, ?_⟩
      · have := getN_of (cs := c) (ys := l) (off := a.off + o) (fun j hj => by
          have := key j (by omega)
          unfold World.cell? at this
          rw [hbj, hh] at this
          dsimp only at this
          split at this
          · rw [List.getElem?_eq_getElem hj] at this; cases this
          · rw [hoj] at this; simpa using this)
        rw [h1] at this; exact this
      · intro h0
        subst h0
        have := key 0 hk
        unfold World.cell? at this
        rw [hbj, hh, List.getElem?_eq_getElem (by omega)] at this
        dsimp only at this
        split at this
        · cases this
        · rename_i hs
          have e : (a.add 0).add 0 = a := by simp [Addr.add]
          rw [e] at hs
          simpa using hs
    | _ =>
      have := key 0 hk
      unfold World.cell? at this
      rw [hbj, hh, List.getElem?_eq_getElem (by omega)] at this
      cases this

theorem rowA_of {α : Type} {W : World} {f : α → List Value} {k : Nat} (hk : 0 < k) {a : Addr} {xs : List α} (h : ∀ i x, xs[i]? = some x → W.cells? 0 (a.add (i * k)) k = some (f x)) : RowA false f k (some a) xs (Fr.all W).res := by
  intro hne
  cases xs with
  | nil => exact absurd rfl hne
  | cons x xs =>
    obtain ⟨c, T, fz, h1, h2, h3⟩ := cells_at hk (h 0 x rfl)
    have hsp := h3 (Nat.zero_mul _)
    obtain ⟨b, off, sp⟩ := a
    dsimp only at hsp h1 h2
    subst hsp
    refine ⟨b, off, c, T, fz, rfl, getN_flat (fun i y hy => ?_), ?_⟩
    · obtain ⟨c', T', fz', g1, g2, _⟩ := cells_at hk (h i y hy)
      dsimp only at g1 g2
      rw [h1] at g1
      injection g1 with g1
      injection g1 with e1 e2 e3
      injection e1 with e1
      rw [e1]; exact g2
    · simp only [Fr.all, h1, Option.map_some]

theorem list_of {α : Type} {p : Nat → α → Prop} : ∀ n, (∀ i, i < n → ∃ x, p i x) → ∃ xs : List α, xs.length = n ∧ ∀ i x, xs[i]? = some x → p i x
  | 0, _ => ⟨[], rfl, fun i x h => by simp at h⟩
  | n + 1, h => by
    obtain ⟨xs, h1, h2⟩ := list_of n (fun i hi => h i (by omega))
    obtain ⟨x, hx⟩ := h n (by omega)
    refine ⟨xs ++ [x], by simp [h1], fun i y hy => ?_⟩
    rcases Nat.lt_or_ge i xs.length with hi | hi
    · rw [List.getElem?_append_left hi] at hy; exact h2 i y hy
    · rw [List.getElem?_append_right hi] at hy
      have : i = n := by
        rcases Nat.lt_or_ge (i - xs.length) 1 with g | g
        · omega
        · rw [List.getElem?_eq_none (by simpa using g)] at hy; cases hy
      subst this
      rw [h1, Nat.sub_self] at hy
      simp at hy; subst hy; exact hx

/-- A row out of an argument, by what each of its elements is. -/
theorem row_open {α : Type} {H : Type} {enc : TypeId × Value → H} {P : Program} {W : World} {sp : Nat → Bool} {hd : Bool} {fuel k : Nat} {t e : TypeId} {cs0 : List Value} {y : DataW H × List MemPlace} (f : α → List Value) (Q : α → Prop) (hk : 0 < k)
    (ht : P.underlying t = some (.slice e)) (hc : P.cellsOf e = k) (hel : ∀ n cs y, DataW.trod enc P W 0 sp hd n e cs = some y → ∃ x : α, cs = f x ∧ Q x) (h : DataW.trod enc P W 0 sp hd fuel t cs0 = some y) :
    ∃ (a : Option Addr) (cap : Nat) (xs : List α), cs0 = [.slice a xs.length cap] ∧ RowA false f k a xs (Fr.all W).res ∧ (∀ x ∈ xs, Q x) ∧ (a = none → cap = 0) ∧ xs.length ≤ cap ∧ cap ≤ maxLen := by
  rcases DataW.trod_slice ht h with ⟨h0, _⟩ | ⟨a, len, cap, elems, rest, n, _, hcs, _, _, hlc, hcm, hlen, hels, _, _⟩
  · exact ⟨none, 0, [], h0, fun hne => absurd rfl hne, by simp, fun _ => rfl, Nat.le_refl _, Nat.zero_le _⟩
  · rw [hc] at hels
    obtain ⟨xs, hxl, hx⟩ := list_of (α := α) (p := fun i x => W.cells? 0 (a.add (i * k)) k = some (f x) ∧ Q x) len (fun i hi => by
      have h1 := hels i hi
      rw [List.getElem?_eq_getElem (by omega)] at h1
      cases hcc : W.cells? 0 (a.add (i * k)) k with
      | none => rw [hcc] at h1; cases h1
      | some cs =>
        rw [hcc] at h1
        obtain ⟨x, rfl, hq⟩ := hel n cs _ h1
        exact ⟨x, rfl, hq⟩)
    refine ⟨some a, cap, xs, by rw [hxl]; exact hcs, rowA_of hk (fun i x hi => (hx i x hi).1), fun x hm => ?_, (fun h => by cases h), by omega, hcm⟩
    obtain ⟨i, hi, rfl⟩ := List.mem_iff_getElem.1 hm
    exact (hx i _ (List.getElem?_eq_getElem hi)).2
end Go.Lun

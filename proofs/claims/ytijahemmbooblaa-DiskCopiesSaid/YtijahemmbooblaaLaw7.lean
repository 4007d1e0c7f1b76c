/- The law on growing: what lies outside a disk. -/
import Derived.Test.YtijahemmbooblaaLaw6
namespace Go.Lun
open Go.Proofs

/-- Nothing lies outside; it doesn't burn. -/
structure OI (S : DS) : Prop where
  last : ∀ x, ¬ S.has x → S.last x = none
  loose : ∀ w ∈ S.loose, S.has w.1
  burns : S.burns = false

theorem lay_out (f : Int → Option Bytes) (x : Int) : ∀ ws : List (Int × Bytes), (∀ w ∈ ws, w.1 ≠ x) → (ws.foldl (fun f w => upd f w.1 w.2) f) x = f x := by
  intro ws
  induction ws generalizing f with
  | nil => intro _; rfl
  | cons w ws ih =>
    intro h
    rw [List.foldl_cons, ih _ (fun v hv => h v (by simp [hv]))]
    have : ¬ x = w.1 := fun e => h w (by simp) e.symm
    simp [upd, this]

theorem OI.now {S : DS} {c : Nat} (h : OI S) (hd : DI c S) (x : Int) (hx : ¬ S.has x) : S.now x = none := by
  have hl : ∀ w ∈ S.loose, w.1 ≠ x := fun w hw e => hx (by have := h.loose w hw; rw [e] at this; exact this)
  rw [hd.now, lay_out _ _ _ hl]

theorem OI.read {S : DS} {c : Nat} (h : OI S) (hd : DI c S) (x : Int) (hx : ¬ S.has x) : S.read x = List.replicate 256 0 := by
  unfold DS.read
  rw [h.now hd x hx, h.last x hx]
  rfl

theorem OI.keep {S : DS} {k : TK} (h : OI S) : OI (S.keep k) := by
  by_cases hk : 0 ≤ k.wr ∧ k.wr < S.loose.length
  · obtain ⟨n, hn⟩ : ∃ n : Nat, k.wr = (n : Int) := ⟨k.wr.toNat, by omega⟩
    have hlt : n < S.loose.length := by omega
    rw [keep_in hn (List.getElem?_eq_getElem hlt)]
    have hw := h.loose _ (List.getElem_mem hlt)
    refine ⟨fun x hx => ?_, h.loose, h.burns⟩
    have : ¬ x = (S.loose[n]).1 := fun e => hx (e ▸ hw)
    simp only [upd, this, if_false]
    exact h.last x hx
  · rw [keep_out hk]; exact h
theorem OI.keeps {ks : List TK} : ∀ {S : DS}, OI S → OI (ks.foldl DS.keep S) := by
  induction ks with
  | nil => intro S h; exact h
  | cons k ks ih => intro S h; rw [List.foldl_cons]; exact ih h.keep

theorem OI.act {S : DS} {x : ActM} {c : Nat} (h : OI S) (hd : DI c S) (h6 : x.kind ≠ 6) : OI (S.act x).1 := by
  have dA : S.dead = false := by simp [DS.dead, h.burns]
  unfold DS.act
  simp only [dA, h6, if_false, Bool.false_eq_true]
  split
  · split
    · exact h
    · refine ⟨fun y hy => h.last y (fun hs => hy ?_), fun w hw => ?_, h.burns⟩
      · simp only [DS.has, DS.grow] at hs ⊢; omega
      · have := h.loose w hw
        simp only [DS.has, DS.grow] at this ⊢; omega
  split
  · split
    · exact h
    split
    · exact h
    · rename_i hp _
      refine ⟨h.last, fun w hw => ?_, h.burns⟩
      simp only [DS.write, List.mem_append, List.mem_singleton] at hw
      rcases hw with hw | rfl
      · exact h.loose w hw
      · exact Decidable.not_not.1 hp
  split
  · refine ⟨fun y hy => ?_, (fun w hw => by cases hw), h.burns⟩
    rw [lay_now hd, h.now hd y hy, h.last y hy]; rfl
  split
  · have hk := keep_same x.ks S
    have ho := OI.keeps (ks := x.ks) h
    refine ⟨fun y hy => ho.last y (fun hs => hy ?_), (fun w hw => by cases hw), rfl⟩
    simpa only [DS.has, DS.crash] using hs
  split
  · split
    · exact h
    split
    · exact h
    · rename_i hp _
      have hp' := Decidable.not_not.1 hp
      refine ⟨fun y hy => ?_, fun w hw => ?_, h.burns⟩
      · have : ¬ y = x.page := fun e => hy (e ▸ hp')
        simp only [DS.spoil, upd, this, if_false]
        exact h.last y hy
      · obtain ⟨v, hv, rfl⟩ := List.mem_map.1 hw
        have := h.loose v hv
        split <;> exact this
  · exact h
end Go.Lun

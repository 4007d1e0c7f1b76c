/- The document's disk: an act done. -/
import Derived.Test.YtijahemmbooblaaRef3
import Derived.Test.YtijahemmbooblaaRef4
import Derived.Test.YtijahemmbooblaaRef5
import Derived.Test.YtijahemmbooblaaRef7
import Derived.Test.YtijahemmbooblaaRef8
import Derived.Test.YtijahemmbooblaaRef9
namespace Go.Lun
open Go.Proofs

theorem rdo_f (M : RM) (A : MA) (x : ActM) (h : RIn M x) : RDo M A x := by
  by_cases k0 : x.kind = 0
  · exact rdo0_f M A x h k0
  by_cases k1 : x.kind = 1
  · exact rdo1_f M A x h k1
  by_cases k2 : x.kind = 2
  · exact rdo2_f M A x h k2
  by_cases k3 : x.kind = 3
  · exact rdo3_f M A x h k3
  by_cases k4 : x.kind = 4
  · exact rdo4_f M A x h k4
  by_cases k6 : x.kind = 6
  · exact rdo6_f M A x h k6
  exact rdox_f M A x h ⟨k0, k1, k2, k3, k4, k6⟩

/-- All that holds of a disk whatever is done. -/
structure AI (c : Nat) (S : DS) : Prop where
  di : DI c S
  li : LI S
  ui : UI S
  pos : 0 ≤ S.pages

theorem AI.new {most : Int} (h : most ≤ 4096) (h1 : 1 ≤ most) : AI 0 (DS.new most) :=
  ⟨⟨Nat.le_refl _, (by show -((0 : Nat) : Int) ≤ (0 : Int); omega), (by show (0 : Int) ≤ 50; omega), rfl, h, by show (0 : Int) ≤ most; omega⟩, ⟨(fun _ _ h => by cases h), (fun w hw => by cases hw)⟩, ⟨fun _ _ => rfl, (fun w hw => by cases hw)⟩, Int.le_refl _⟩
theorem AI.act {c e : Nat} {S : DS} {x : ActM} (h : AI c S) (hx : x.few = true) (he : c + 1 ≤ e) : AI e (S.act x).1 := by
  refine ⟨(h.di.act hx).mono he, h.li.act, h.ui.act, ?_⟩
  have hp := h.pos
  unfold DS.act
  split
  · split
    · exact hp
    split
    · exact hp
    · simp only [DS.grow]; omega
  split
  · split
    · exact hp
    split
    · exact hp
    split
    · exact hp
    · exact hp
  split
  · dsimp only; split <;> exact hp
  split
  · rw [crash_pages]; exact hp
  split
  · split
    · exact hp
    split
    · exact hp
    · exact hp
  split
  · dsimp only; split <;> exact hp
  · exact hp
theorem AI.mono {c e : Nat} {S : DS} (h : AI c S) (he : c ≤ e) : AI e S := ⟨h.di.mono he, h.li, h.ui, h.pos⟩

theorem doc_len {c : Nat} {S : DS} (h : AI c S) : ((S.doc.last.length : Nat) : Int) = S.pages := by
  have := h.pos
  simp only [DS.doc, mkM_len]; omega

theorem rdo_doc (S : DS) (A : MA) (x : ActM) (c : Nat) (hc : c ≤ 1000) (h : AI c S) (hx : x.few = true) (hok : x.ok) :
    Fn Try.prog 23 [S.doc.val A, x.val] [RowL S.doc A, RowW S.doc A, KA x]
      (fun v L => ∃ A', v = .tuple ⟨[(S.act x).1.doc.val A', .int .i64 (S.act x).2]⟩ ∧ L = [RowL (S.act x).1.doc A', RowW (S.act x).1.doc A', KA x]) := by
  have h1 := h.di.loose
  have h2 := h.di.low
  have h3 := h.di.high
  have h4 := h.di.most
  have h5 := h.di.room
  have h6 := doc_len h
  have := rdo_f S.doc A x ⟨hx, hok, doc_ok h.li h.ui, by show S.loose.length ≤ 1000000; omega, by omega, by show -9223372036854775808 < S.fuse; omega, by show S.fuse ≤ 9223372036854775807; omega⟩
  unfold RDo at this
  rw [doc_act h.li h.ui] at this
  exact this
end Go.Lun

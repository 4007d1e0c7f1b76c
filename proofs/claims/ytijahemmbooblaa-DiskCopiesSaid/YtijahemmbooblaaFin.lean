/- From a contract to the world of a call: what was there stays as it was. -/
import Derived.Test.YtijahemmbooblaaTab
import Derived.Test.YtijahemmbooblaaLib5
import Derived.ProofKit
import Derived.Carry
namespace Go.Lun
open Go.Proofs Go.ChangeShapes Go.WideShapes Go.ChangeAt Go.RowKit

/-- All that there is when a call begins, as its frame. -/
def Fr.all (W : World) : Fr := ⟨W.os, W.output, W.heap.size, fun b => W.heap[b]?.map fun o => (false, o)⟩

structure Kept (W w : World) : Prop where
  os : w.os = W.os
  output : w.output = W.output
  size : W.heap.size ≤ w.heap.size
  block : ∀ k, k < W.heap.size → w.heap[k]? = W.heap[k]?

theorem sat_all (W : World) : Sat (Fr.all W).res W := by
  intro b p o h
  simp only [Fr.all, Option.map_eq_some_iff] at h
  obtain ⟨o', h1, h2⟩ := h
  injection h2 with _ h2
  rw [h1, h2]

theorem st_all (W : World) : St (Fr.all W) [] W := by
  refine ⟨rfl, rfl, Nat.le_refl _, (fun _ => none), ?_, sat_all W, ?_, trivial⟩
  · intro b p o q o' _ h; cases h
  · intro b p o h; cases h

theorem kept_of {W w : World} {L : List Asrt} (s : St (Fr.all W) L w) : Kept W w := by
  obtain ⟨h1, h2, h3, _, _, hf, _, _⟩ := s
  refine ⟨h1, h2, h3, fun k hk => ?_⟩
  have h4 : W.heap[k]? = some W.heap[k] := Array.getElem?_eq_getElem hk
  rw [h4]
  exact hf k false _ (by simp only [Fr.all, h4, Option.map_some])

theorem Kept.frame {W w : World} (h : Kept W w) (may : MemPlace → Prop) : W.keptBut w may := by
  refine ⟨h.os, h.output, fun i hi => ?_⟩
  rw [h.block i hi]
  split <;> simp_all

theorem Kept.same {W w : World} (h : Kept W w) {p : MemPlace} (hp : p.block < W.heap.size) : W.sameAt w p := by
  cases p with
  | cell b o => exact World.cell?_of_block (w := W) (h.block b hp)
  | map b => exact h.block b hp

theorem Kept.trod {H : Type} {enc : TypeId × Value → H} {P : Program} {t : TypeId} (hl : laidOutB P = true) (hr : P.readableRec t = true) (hrow : t < P.types.size) {W w : World} {v : Value} {d : DataW H} {ps : List MemPlace}
    (h : DataW.Trod enc P W 0 (fun _ => true) true t v d ps) (hb : Kept W w) (hlt : ∀ x ∈ ps, x.block < W.heap.size) :
    DataW.Trod enc P w 0 (fun b => decide (b < W.heap.size)) true t v d ps :=
  WideElems.Trod_stays hl hr hrow h (fun x hx => hb.same (hlt x hx)) (fun x hx => by simpa using hlt x hx)

/-- A contract that needs nothing but what there is, in the world of a call. -/
theorem Fn.lift {P : Program} {f : FuncId} {args : List Value} {R : Value → List Asrt → Prop} {W : World} (h : Fn P f args [] R) :
    Calls P f ⟨args⟩ W fun e w => ∃ v L, e = .returned v ∧ R v L ∧ Kept W w := (h.out (Fr.all W) W (st_all W)).mono fun e w => by
  rintro ⟨v, L, rfl, hR, s⟩
  exact ⟨v, L, rfl, hR, kept_of s⟩

theorem Try.own : ownKnob Try.prog.godebug = none := by kernel_rfl
theorem Try.laidOut : laidOutB Try.prog = true := by kernel_rfl

/-- A byte as an argument. -/
theorem open_u8 {H : Type} {enc : TypeId × Value → H} {P : Program} {W : World} {r : Reach} {b0 base : Nat} {sp : Nat → Bool} {hd : Bool} {t : TypeId} {v : Value} {d : DataW H} {ps : List MemPlace} (ht : P.underlying t = some (.int .u8)) (hval : Value.okWide P W r b0 t v) (h : DataW.Trod enc P W base sp hd t v d ps) :
    ∃ c : UInt8, v = byteV c ∧ d = .lit (.int .u8 (c.toNat : Int)) ∧ ps = [] ∧ (Lit.int .u8 (c.toNat : Int)).wf = true := by
  obtain ⟨n, rfl, rfl, rfl, hw⟩ := open_int ht hval h
  have hw' := hw
  simp only [Lit.wf, Bool.and_eq_true, decide_eq_true_eq] at hw'
  have h1 : IntKind.u8.min = 0 := rfl
  have h2 : IntKind.u8.max = 255 := rfl
  have e : ((UInt8.ofNat n.toNat).toNat : Int) = n := by
    have : (UInt8.ofNat n.toNat).toNat = n.toNat % 256 := by simp
    rw [this]; omega
  exact ⟨UInt8.ofNat n.toNat, by rw [byteV, e], by rw [e], rfl, by rw [e]; exact hw⟩
end Go.Lun

/- DiskFuses: whatever the two numbers, the law answers true, and what was there reads as it did. No condition. -/
import Derived.Test.YtijahemmbooblaaRows
import Derived.Test.YtijahemmbooblaaChecked
import Derived.Test.YtijahemmbooblaaLaw3
import Derived.Test.YtijahemmbooblaaFin
namespace Go.Proofs.Ytijahemmbooblaa
open Go.ChangeShapes Go.WideShapes Go.ChangeAt Go.RowKit Go.Lun

set_option maxRecDepth 100000 in
theorem diskFuses_lifted (os : Os) (started : os.Started) (H : Type) (enc : TypeId × Value → H) :
    ReturnsInHanded {} Try.checked os 4 .any (Rows.diskFusesSpec.pre6 enc Try.prog Try.f4 Rows.diskFusesRow.domain false) (Rows.diskFusesSpec.post enc Try.prog Try.f4 false true false false) := by
  refine returnsInHanded_of_change (C := Try.checked) Try.own started (by kernel_rfl) Try.func4
    (ChangeSpec.witness6 (enc := enc) (C := Try.checked) false ⟨#[], #[.int .u8 0, .int .u8 0], []⟩ 8 (by kernel_rfl) (by kernel_rfl) (by kernel_rfl) (by kernel_rfl)) ?_
  intro W base args ds gs before hval0 hW _ _
  have hval : ∀ (j : Nat) t v, Try.f4.params[j]? = some t → args[j]? = some v → Value.okWide Try.prog W .any base t v := hval0
  have hW' := hW
  obtain ⟨p, q, hA0, hV, rfl, hfz, hnd⟩ := hW
  have hA : DataW.TrodAll enc Try.prog W 0 (fun _ => true) true Try.f4.params.toList args.toList ds p := hA0
  rw [Try.params4] at hA hval
  obtain ⟨v0, v1, d0, d1, p0, p1, rfl, rfl, rfl, h0, h1⟩ := trodAll_two hA
  obtain ⟨rfl, rfl⟩ := trodVars_none hV
  obtain ⟨a, rfl, rfl, rfl, wa⟩ := open_u8 Try.underlying5 (hval 0 5 v0 rfl rfl) h0
  obtain ⟨b, rfl, rfl, rfl, wb⟩ := open_u8 Try.underlying5 (hval 1 5 v1 rfl rfl) h1
  clear hA0 hval0
  simp only [List.append_nil] at hW'
  refine (Fn.lift (W := W) (fuses_f a b)).mono fun e W' => ?_
  rintro ⟨v, L, rfl, ⟨rfl, rfl⟩, hk⟩
  exact ⟨_, rfl, _, _, _, [], _, [], hW', trodAll_mk1 (shut_bool Try.underlying4 true), trodAll_mk2 (shut_int Try.underlying5 wa) (shut_int Try.underlying5 wb), rfl, hk.frame _, fun h => by cases h⟩

theorem diskFuses_holds : Rows.DiskFusesSaid :=
  OpenClaim.holds_of_wide 4 Try.f4 rfl rfl rfl rfl rfl rfl rfl ⟨rfl, rfl, rfl, rfl, rfl⟩ rfl rfl rfl rfl rfl (by kernel_rfl) Try.func4 (by kernel_rfl)
    (of_decide_eq_true (by kernel_rfl)) (by unfold Func.isWrapper; first | (rw [if_pos (by decide +kernel)]; kernel_rfl) | (rw [if_neg (by decide +kernel)]; exact ⟨rfl, rfl⟩))
    (fun os started H enc _ => diskFuses_lifted os started H enc)

end Go.Proofs.Ytijahemmbooblaa

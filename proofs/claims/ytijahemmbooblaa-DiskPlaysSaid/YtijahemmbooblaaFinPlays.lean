/- DiskPlays: whatever the bound and the acts, the law answers true, and what was there reads as it did. No condition. -/
import Derived.Test.YtijahemmbooblaaRows
import Derived.Test.YtijahemmbooblaaChecked
import Derived.Test.YtijahemmbooblaaLaw12
import Derived.Test.YtijahemmbooblaaArg2
namespace Go.Proofs.Ytijahemmbooblaa
open Go.ChangeShapes Go.WideShapes Go.ChangeAt Go.RowKit Go.Lun

set_option maxRecDepth 100000 in
theorem diskPlays_lifted (os : Os) (started : os.Started) (H : Type) (enc : TypeId × Value → H) :
    ReturnsInHanded {} Try.checked os 5 .any (Rows.diskPlaysSpec.pre6 enc Try.prog Try.f5 Rows.diskPlaysRow.domain false) (Rows.diskPlaysSpec.post enc Try.prog Try.f5 false true false false) := by
  refine returnsInHanded_of_change (C := Try.checked) Try.own started (by kernel_rfl) Try.func5
    (ChangeSpec.witness6 (enc := enc) (C := Try.checked) false ⟨#[], #[.int .i64 0, .slice none 0 0], []⟩ 8 (by kernel_rfl) (by kernel_rfl) (by kernel_rfl) (by kernel_rfl)) ?_
  intro W base args ds gs before hval0 hW _ _
  have hval : ∀ (j : Nat) t v, Try.f5.params[j]? = some t → args[j]? = some v → Value.okWide Try.prog W .any base t v := hval0
  have hW' := hW
  obtain ⟨p, q, hA0, hV, rfl, hfz, hnd⟩ := hW
  have hA : DataW.TrodAll enc Try.prog W 0 (fun _ => true) true Try.f5.params.toList args.toList ds p := hA0
  rw [Try.params5] at hA hval
  obtain ⟨v0, v1, d0, d1, p0, p1, rfl, rfl, rfl, h0, h1⟩ := trodAll_two hA
  obtain ⟨rfl, rfl⟩ := trodVars_none hV
  obtain ⟨a0, l0, c0, rfl⟩ := okWide_slice Try.underlying42 (hval 1 42 v1 rfl rfl)
  obtain ⟨n, rfl, rfl, rfl, wn⟩ := open_int Try.underlying3 (hval 0 3 v0 rfl rfl) h0
  have k0 := h1
  obtain ⟨n0, g0⟩ := h1
  have g0' : DataW.trod enc Try.prog W 0 (fun _ => true) true n0 42 [.slice a0 l0 c0] = some (d1, p1) := g0
  obtain ⟨a, ac, xs, e0, r0, q0, _, _, _⟩ := row_open ActM.cells (fun x => x.ok ∧ KA x (Fr.all W).res) (by decide) Try.underlying42 cells_act act_open g0'
  injection e0 with e0
  injection e0 with x1 x2 x3
  subst x1; subst x2; subst x3
  clear hA0 hval0
  simp only [List.nil_append] at hW'
  have hW2 := hW'
  simp only [List.append_nil] at hW2
  have hlt0 : ∀ x ∈ p1, x.block < W.heap.size := fun x hx => by simpa using hW2.lt x hx
  refine (Fn.lift_args (W := W) (plays_f n a0 c0 xs (fun x hx => (q0 x hx).1)) ?_).mono fun e W' => ?_
  · intro A hA
    simp only [List.mem_cons, List.not_mem_nil, or_false] at hA
    rcases hA with rfl | rfl
    · exact r0
    · exact sep_all fun A hA => by
        obtain ⟨x, hx, rfl⟩ := List.mem_map.1 hA
        exact (q0 x hx).2
  · rintro ⟨v, L, rfl, ⟨rfl, rfl⟩, hk⟩
    exact ⟨_, rfl, _, _, _, [], [] ++ p1, [], hW', trodAll_mk1 (shut_bool Try.underlying4 true),
      trodAll_mk2 (shut_int Try.underlying3 wn) (hk.trod Try.laidOut (by kernel_rfl) (of_decide_eq_true (by kernel_rfl)) k0 hlt0), rfl, hk.frame _, fun h => by cases h⟩

theorem diskPlays_holds : Rows.DiskPlaysSaid :=
  OpenClaim.holds_of_wide 5 Try.f5 rfl rfl rfl rfl rfl rfl rfl ⟨rfl, rfl, rfl, rfl, rfl⟩ rfl rfl rfl rfl rfl (by kernel_rfl) Try.func5 (by kernel_rfl)
    (of_decide_eq_true (by kernel_rfl)) (by unfold Func.isWrapper; first | (rw [if_pos (by decide +kernel)]; kernel_rfl) | (rw [if_neg (by decide +kernel)]; exact ⟨rfl, rfl⟩))
    (fun os started H enc _ => diskPlays_lifted os started H enc)

end Go.Proofs.Ytijahemmbooblaa

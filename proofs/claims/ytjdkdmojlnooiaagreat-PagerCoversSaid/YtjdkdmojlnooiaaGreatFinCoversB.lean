/- PagerCovers: pages in use, the chain's, and the free ones, are all, each once. No condition. -/
import Derived.Test.YtjdkdmojlnooiaaGreatRows
import Derived.Test.YtjdkdmojlnooiaaGreatChecked
import Derived.Test.YtjdkdmojlnooiaaGreatPc6
namespace Go.Proofs.YtjdkdmojlnooiaaGreat
open Go.ChangeShapes Go.WideShapes Go.ChangeAt Go.RowKit Go.Lun

set_option maxRecDepth 100000 in
theorem pagerCovers_lifted (os : Os) (started : os.Started) (H : Type) (enc : TypeId × Value → H) :
    ReturnsInHanded {} Tryz.checked os 7 .any (Rows.pagerCoversSpec.pre6 enc Tryz.prog Tryz.f7 Rows.pagerCoversRow.domain false) (Rows.pagerCoversSpec.post enc Tryz.prog Tryz.f7 false true false false) := by
  refine returnsInHanded_of_change (C := Tryz.checked) Try.own started (by kernel_rfl) Tryz.func7
    (ChangeSpec.witness6 (enc := enc) (C := Tryz.checked) false ⟨#[], #[.slice none 0 0], []⟩ 8 (by kernel_rfl) (by kernel_rfl) (by kernel_rfl) (by kernel_rfl)) ?_
  intro W base args ds gs before hval0 hW _ _
  have hval : ∀ (j : Nat) t v, Tryz.f7.params[j]? = some t → args[j]? = some v → Value.okWide Tryz.prog W .any base t v := hval0
  have hW' := hW
  obtain ⟨p, q, hA0, hV, rfl, hfz, hnd⟩ := hW
  have hA : DataW.TrodAll enc Tryz.prog W 0 (fun _ => true) true Tryz.f7.params.toList args.toList ds p := hA0
  rw [Tryz.params7] at hA hval
  obtain ⟨v0, d0, rfl, rfl, h0⟩ := trodAll_one hA
  obtain ⟨rfl, rfl⟩ := trodVars_none hV
  obtain ⟨a0, l0, c0, rfl⟩ := okWide_slice Tryz.underlying22 (hval 0 22 v0 rfl rfl)
  have k0 := h0
  obtain ⟨n0, g0⟩ := h0
  have g0' : DataW.trod enc Tryz.prog W 0 (fun _ => true) true n0 22 [.slice a0 l0 c0] = some (d0, p) := g0
  obtain ⟨a, ac, xs, e0, r0, q0, _, _, _⟩ := row_open AP.cellsV (fun x => KP x (Fr.all W).res) (by decide) Tryz.underlying22 cells_actP actP_open g0'
  injection e0 with e0
  injection e0 with x1 x2 x3
  subst x1; subst x2; subst x3
  clear hA0 hval0
  simp only [List.append_nil] at hW'
  have hlt0 : ∀ x ∈ p, x.block < W.heap.size := fun x hx => by simpa using hW'.lt x hx
  refine (Fn.lift_args (W := W) (covers_f a0 c0 xs) ?_).mono fun e W' => ?_
  · intro A hA
    simp only [Acts, List.cons_append, List.nil_append, List.mem_cons, List.not_mem_nil, or_false] at hA
    rcases hA with rfl | rfl
    · exact r0
    · exact sep_all fun A hA => by
        obtain ⟨x, hx, rfl⟩ := List.mem_map.1 hA
        exact q0 x hx
  · rintro ⟨v, L, rfl, ⟨rfl, rfl⟩, hk⟩
    exact ⟨_, rfl, _, _, _, [], p, [], hW', trodAll_mk1 (shut_bool Tryz.underlying4 true),
      trodAll_mk1 (hk.trod Try.laidOut (by kernel_rfl) (of_decide_eq_true (by kernel_rfl)) k0 hlt0), rfl, hk.frame _, fun h => by cases h⟩

theorem pagerCovers_holds : Rows.PagerCoversSaid :=
  OpenClaim.holds_of_wide 7 Tryz.f7 rfl rfl rfl rfl rfl rfl rfl ⟨rfl, rfl, rfl, rfl, rfl⟩ rfl rfl rfl rfl rfl (by kernel_rfl) Tryz.func7 (by kernel_rfl)
    (of_decide_eq_true (by kernel_rfl)) (by unfold Func.isWrapper; first | (rw [if_pos (by decide +kernel)]; kernel_rfl) | (rw [if_neg (by decide +kernel)]; exact ⟨rfl, rfl⟩))
    (fun os started H enc _ => pagerCovers_lifted os started H enc)

end Go.Proofs.YtjdkdmojlnooiaaGreat

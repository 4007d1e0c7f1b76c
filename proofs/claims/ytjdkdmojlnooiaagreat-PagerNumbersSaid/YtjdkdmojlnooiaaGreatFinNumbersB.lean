/- PagerNumbers: pages that are made, and not dropped, have numbers that no other one has, and are read as they were made. No condition. -/
import Derived.Test.YtjdkdmojlnooiaaGreatRows
import Derived.Test.YtjdkdmojlnooiaaGreatChecked
import Derived.Test.YtjdkdmojlnooiaaGreatPn6
namespace Go.Proofs.YtjdkdmojlnooiaaGreat
open Go.ChangeShapes Go.WideShapes Go.ChangeAt Go.RowKit Go.Lun

set_option maxRecDepth 100000 in
theorem pagerNumbers_lifted (os : Os) (started : os.Started) (H : Type) (enc : TypeId × Value → H) :
    ReturnsInHanded {} Tryz.checked os 6 .any (Rows.pagerNumbersSpec.pre6 enc Tryz.prog Tryz.f6 Rows.pagerNumbersRow.domain false) (Rows.pagerNumbersSpec.post enc Tryz.prog Tryz.f6 false true false false) := by
  refine returnsInHanded_of_change (C := Tryz.checked) Try.own started (by kernel_rfl) Tryz.func6
    (ChangeSpec.witness6 (enc := enc) (C := Tryz.checked) false ⟨#[], #[.slice none 0 0, .slice none 0 0], []⟩ 8 (by kernel_rfl) (by kernel_rfl) (by kernel_rfl) (by kernel_rfl)) ?_
  intro W base args ds gs before hval0 hW _ _
  have hval : ∀ (j : Nat) t v, Tryz.f6.params[j]? = some t → args[j]? = some v → Value.okWide Tryz.prog W .any base t v := hval0
  have hW' := hW
  obtain ⟨p, q, hA0, hV, rfl, hfz, hnd⟩ := hW
  have hA : DataW.TrodAll enc Tryz.prog W 0 (fun _ => true) true Tryz.f6.params.toList args.toList ds p := hA0
  rw [Tryz.params6] at hA hval
  obtain ⟨v0, v1, d0, d1, p0, p1, rfl, rfl, rfl, h0, h1⟩ := trodAll_two hA
  obtain ⟨rfl, rfl⟩ := trodVars_none hV
  obtain ⟨a0, l0, c0, rfl⟩ := okWide_slice Tryz.underlying22 (hval 0 22 v0 rfl rfl)
  obtain ⟨a1, l1, c1, rfl⟩ := okWide_slice Tryz.underlying37 (hval 1 37 v1 rfl rfl)
  have k0 := h0
  have k1 := h1
  obtain ⟨n0, g0⟩ := h0
  obtain ⟨n1, g1⟩ := h1
  have g0' : DataW.trod enc Tryz.prog W 0 (fun _ => true) true n0 22 [.slice a0 l0 c0] = some (d0, p0) := g0
  have g1' : DataW.trod enc Tryz.prog W 0 (fun _ => true) true n1 37 [.slice a1 l1 c1] = some (d1, p1) := g1
  obtain ⟨a, ac, xs, e0, r0, q0, _, _, _⟩ := row_open AP.cellsV (fun x => KP x (Fr.all W).res) (by decide) Tryz.underlying22 cells_actP actP_open g0'
  obtain ⟨w, wc, ys, e1, r1, _, _, _, _⟩ := row_open strC (fun _ => True) (by decide) Tryz.underlying37 cells_string str_open g1'
  injection e0 with e0
  injection e1 with e1
  injection e0 with x1 x2 x3
  injection e1 with y1 y2 y3
  subst x1; subst x2; subst x3; subst y1; subst y2; subst y3
  clear hA0 hval0
  simp only [List.append_nil] at hW'
  have hlt0 : ∀ x ∈ p0, x.block < W.heap.size := fun x hx => by simpa using hW'.lt x (List.mem_append_left _ hx)
  have hlt1 : ∀ x ∈ p1, x.block < W.heap.size := fun x hx => by simpa using hW'.lt x (List.mem_append_right _ hx)
  refine (Fn.lift_args (W := W) (numbers_f a0 a1 c0 c1 xs ys) ?_).mono fun e W' => ?_
  · intro A hA
    simp only [Acts, List.cons_append, List.nil_append, List.mem_cons, List.not_mem_nil, or_false] at hA
    rcases hA with rfl | rfl | rfl
    · exact r0
    · exact sep_all fun A hA => by
        obtain ⟨x, hx, rfl⟩ := List.mem_map.1 hA
        exact q0 x hx
    · exact r1
  · rintro ⟨v, L, rfl, ⟨rfl, rfl⟩, hk⟩
    exact ⟨_, rfl, _, _, _, [], p0 ++ p1, [], hW', trodAll_mk1 (shut_bool Tryz.underlying4 true),
      trodAll_mk2 (hk.trod Try.laidOut (by kernel_rfl) (of_decide_eq_true (by kernel_rfl)) k0 hlt0) (hk.trod Try.laidOut (by kernel_rfl) (of_decide_eq_true (by kernel_rfl)) k1 hlt1), rfl, hk.frame _, fun h => by cases h⟩

theorem pagerNumbers_holds : Rows.PagerNumbersSaid :=
  OpenClaim.holds_of_wide 6 Tryz.f6 rfl rfl rfl rfl rfl rfl rfl ⟨rfl, rfl, rfl, rfl, rfl⟩ rfl rfl rfl rfl rfl (by kernel_rfl) Tryz.func6 (by kernel_rfl)
    (of_decide_eq_true (by kernel_rfl)) (by unfold Func.isWrapper; first | (rw [if_pos (by decide +kernel)]; kernel_rfl) | (rw [if_neg (by decide +kernel)]; exact ⟨rfl, rfl⟩))
    (fun os started H enc _ => pagerNumbers_lifted os started H enc)

end Go.Proofs.YtjdkdmojlnooiaaGreat

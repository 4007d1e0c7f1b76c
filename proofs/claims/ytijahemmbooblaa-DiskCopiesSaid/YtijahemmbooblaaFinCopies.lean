/- DiskCopies: whatever the acts, the law answers true, and what was there reads as it did. No condition. -/
import Derived.Test.YtijahemmbooblaaRows
import Derived.Test.YtijahemmbooblaaChecked
import Derived.Test.YtijahemmbooblaaLaw13
import Derived.Test.YtijahemmbooblaaArg2
namespace Go.Proofs.Ytijahemmbooblaa
open Go.ChangeShapes Go.WideShapes Go.ChangeAt Go.RowKit Go.Lun

set_option maxRecDepth 100000 in
theorem diskCopies_lifted (os : Os) (started : os.Started) (H : Type) (enc : TypeId × Value → H) :
    ReturnsInHanded {} Try.checked os 6 .any (Rows.diskCopiesSpec.pre6 enc Try.prog Try.f6 Rows.diskCopiesRow.domain false) (Rows.diskCopiesSpec.post enc Try.prog Try.f6 false true false false) := by
  refine returnsInHanded_of_change (C := Try.checked) Try.own started (by kernel_rfl) Try.func6
    (ChangeSpec.witness6 (enc := enc) (C := Try.checked) false ⟨#[], #[.slice none 0 0, .slice none 0 0, .slice none 0 0], []⟩ 8 (by kernel_rfl) (by kernel_rfl) (by kernel_rfl) (by kernel_rfl)) ?_
  intro W base args ds gs before hval0 hW _ _
  have hval : ∀ (j : Nat) t v, Try.f6.params[j]? = some t → args[j]? = some v → Value.okWide Try.prog W .any base t v := hval0
  have hW' := hW
  obtain ⟨p, q, hA0, hV, rfl, hfz, hnd⟩ := hW
  have hA : DataW.TrodAll enc Try.prog W 0 (fun _ => true) true Try.f6.params.toList args.toList ds p := hA0
  rw [Try.params6] at hA hval
  obtain ⟨v0, v1, v2, d0, d1, d2, p0, p1, p2, rfl, rfl, rfl, h0, h1, h2⟩ := trodAll_three hA
  obtain ⟨rfl, rfl⟩ := trodVars_none hV
  obtain ⟨a0, l0, c0, rfl⟩ := okWide_slice Try.underlying42 (hval 0 42 v0 rfl rfl)
  obtain ⟨a1, l1, c1, rfl⟩ := okWide_slice Try.underlying42 (hval 1 42 v1 rfl rfl)
  obtain ⟨a2, l2, c2, rfl⟩ := okWide_slice Try.underlying42 (hval 2 42 v2 rfl rfl)
  have k0 := h0
  have k1 := h1
  have k2 := h2
  obtain ⟨n0, g0⟩ := h0
  obtain ⟨n1, g1⟩ := h1
  obtain ⟨n2, g2⟩ := h2
  have g0' : DataW.trod enc Try.prog W 0 (fun _ => true) true n0 42 [.slice a0 l0 c0] = some (d0, p0) := g0
  have g1' : DataW.trod enc Try.prog W 0 (fun _ => true) true n1 42 [.slice a1 l1 c1] = some (d1, p1) := g1
  have g2' : DataW.trod enc Try.prog W 0 (fun _ => true) true n2 42 [.slice a2 l2 c2] = some (d2, p2) := g2
  obtain ⟨a, ac, xs, e0, r0, q0, _, _, _⟩ := row_open ActM.cells (fun x => x.ok ∧ KA x (Fr.all W).res) (by decide) Try.underlying42 cells_act act_open g0'
  injection e0 with e0
  injection e0 with x0 y0 z0
  subst x0; subst y0; subst z0
  obtain ⟨b, bc, ys, e1, r1, q1, _, _, _⟩ := row_open ActM.cells (fun x => x.ok ∧ KA x (Fr.all W).res) (by decide) Try.underlying42 cells_act act_open g1'
  injection e1 with e1
  injection e1 with x1 y1 z1
  subst x1; subst y1; subst z1
  obtain ⟨c, cc, zs, e2, r2, q2, _, _, _⟩ := row_open ActM.cells (fun x => x.ok ∧ KA x (Fr.all W).res) (by decide) Try.underlying42 cells_act act_open g2'
  injection e2 with e2
  injection e2 with x2 y2 z2
  subst x2; subst y2; subst z2
  clear hA0 hval0
  have hW2 := hW'
  simp only [List.append_nil] at hW2
  have hlt0 : ∀ x ∈ p0, x.block < W.heap.size := fun x hx => by simpa using hW2.lt x (by simp [hx])
  have hlt1 : ∀ x ∈ p1, x.block < W.heap.size := fun x hx => by simpa using hW2.lt x (by simp [hx])
  have hlt2 : ∀ x ∈ p2, x.block < W.heap.size := fun x hx => by simpa using hW2.lt x (by simp [hx])
  have star : ∀ {p : List MemPlace} {l : List ActM}, (∀ x ∈ l, x.ok ∧ KA x (Fr.all W).res) → Star (l.map KA) (Fr.all W).res := fun h => sep_all fun A hA => by
    obtain ⟨x, hx, rfl⟩ := List.mem_map.1 hA
    exact (h x hx).2
  refine (Fn.lift_args (W := W) (copies_f a0 a1 a2 c0 c1 c2 xs ys zs (fun x hx => (q0 x hx).1) (fun x hx => (q1 x hx).1) (fun x hx => (q2 x hx).1)) ?_).mono fun e W' => ?_
  · intro A hA
    simp only [List.mem_cons, List.not_mem_nil, or_false] at hA
    rcases hA with rfl | rfl | rfl | rfl | rfl | rfl
    · exact r0
    · exact star (p := []) q0
    · exact r1
    · exact star (p := []) q1
    · exact r2
    · exact star (p := []) q2
  · rintro ⟨v, L, rfl, ⟨rfl, rfl⟩, hk⟩
    exact ⟨_, rfl, _, _, _, [], p0 ++ p1 ++ p2, [], hW', trodAll_mk1 (shut_bool Try.underlying4 true),
      (by rw [List.append_assoc]; exact trodAll_mk3 (hk.trod Try.laidOut (by kernel_rfl) (of_decide_eq_true (by kernel_rfl)) k0 hlt0) (hk.trod Try.laidOut (by kernel_rfl) (of_decide_eq_true (by kernel_rfl)) k1 hlt1) (hk.trod Try.laidOut (by kernel_rfl) (of_decide_eq_true (by kernel_rfl)) k2 hlt2)), rfl, hk.frame _, fun h => by cases h⟩

theorem diskCopies_holds : Rows.DiskCopiesSaid :=
  OpenClaim.holds_of_wide 6 Try.f6 rfl rfl rfl rfl rfl rfl rfl ⟨rfl, rfl, rfl, rfl, rfl⟩ rfl rfl rfl rfl rfl (by kernel_rfl) Try.func6 (by kernel_rfl)
    (of_decide_eq_true (by kernel_rfl)) (by unfold Func.isWrapper; first | (rw [if_pos (by decide +kernel)]; kernel_rfl) | (rw [if_neg (by decide +kernel)]; exact ⟨rfl, rfl⟩))
    (fun os started H enc _ => diskCopies_lifted os started H enc)

end Go.Proofs.Ytijahemmbooblaa

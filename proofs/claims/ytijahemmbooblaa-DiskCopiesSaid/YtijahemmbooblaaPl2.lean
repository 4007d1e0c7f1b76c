/- A region's drawn order: operations that look at no memory. -/
import Derived.Test.YtijahemmbooblaaPl
namespace Go.Lun

section
variable {P : Program} {n : Nat} {ds : List Deferred} {F : Fr} {L : List Asrt} {env : Env} {Q : Post} {ops : Array Oper} {eff : Nat → Bool} {T : Owed} {f : Nat} {listed : Array Bool}

/-- An operation that is the same in every world: nothing is owed to it. -/
theorem pl_pure {i : Nat} {d : Tmp} {op : Op} {ty : TypeId} {pos : String} {af : Array Edge} {v : Value} (hi : ops[i]? = some ⟨some d, op, ty, pos, af, none⟩) (ht : takeB n ops eff listed i = true) [hQ : Calm Q]
    (hy : ∀ F', Yld P n ds F' [] env ⟨some d, op, ty, pos, af, none⟩ v)
    (h : Down ops (listed.setIfInBounds i true) → PlJ P n ds F L ((d, v) :: env) ops eff ((i, fun _ => True) :: T) f (listed.setIfInBounds i true) Q)
    (hd : Down ops listed) : PlJ P n ds F L env ops eff T (f + 1) listed Q := by
  simp only [takeB, hi, Bool.and_eq_true, Bool.not_eq_true'] at ht
  obtain ⟨⟨⟨⟨h1, h2⟩, h3⟩, h4⟩, h5, _⟩ := ht
  have hr : i ∈ Region.ready .any ops listed := by simpa using h4
  have hd' := hd.set hr
  refine ⟨hd, fun w a s k hO => ?_⟩
  refine wpT_first (v := v) (S := fun _ => True) hi h1 (Region.noSelect_spec h2) (fun c b w' hq => hQ.out c _ _ w' hq (put_defers' _ _ _)) f listed a w (Region.free_spec hi h3) hd hr ?_ trivial hO ?_
  · exact .inl ⟨rfl, fun w' _ => (hy ⟨w'.os, w'.output, 0, fun _ => none⟩).out w' a ⟨rfl, rfl, Nat.zero_le _, fun _ => none, (fun _ _ _ _ _ _ h => by cases h), (fun _ _ _ h => by cases h), (fun _ _ _ h => by cases h), trivial⟩ k⟩
  · refine (h hd').2 w _ s (k.put (d := some d) h5 v) ?_
    intro x hx
    rcases List.mem_cons.1 hx with rfl | hx
    · exact .inr trivial
    · exact hO.set i x hx
end
end Go.Lun

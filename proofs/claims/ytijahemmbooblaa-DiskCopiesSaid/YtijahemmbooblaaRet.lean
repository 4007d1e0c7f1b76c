/- Results that lie in a block of their own; what is owned, shared from now on. -/
import Derived.Test.YtijahemmbooblaaDisk9
namespace Go.Lun
open Go.Proofs

section
variable {P : Program} {n : Nat} {ds : List Deferred} {F : Fr} {L : List Asrt} {env : Env} {Q : Post} {ops : Array Oper} {rest : List Oper}

/-- A function's end, its first result a block's cells. -/
theorem f_retc {fn : Func} {R : Value → List Asrt → Prop} {b : Nat} {cs vs us : List Value} {t : TypeId} {d : TypeDesc} {z : Value} {sz by_ : Nat} {T : TypeId} {fz : Nat × Nat} {a0 : Tmp} {l : List ResultVar} [Ty P t d z sz by_]
    (hl : fn.results.toList = .cell a0 t :: l) (hs : aggD d = true) (ha : look env a0 = some (.pointer (some ⟨b, 0, none⟩))) [hb : Has F L b (.cells ⟨cs⟩ T fz)] (hv : getN cs 0 sz = some vs)
    {L' : List Asrt} (hr : resE env l = some us) (hE : Ent L L') (hR : R (tup (.agg ⟨vs⟩ :: us)) L') : FinJ P n [] F L env .ret (FnPost P fn F R) := .mk fun w a s k => by
  have h1 : (results fn a.tmps).run P w = .ok (tup (.agg ⟨vs⟩ :: us)) w := by
    have ih := run_resE (P := P) (w := w) k hr
    have e : results fn a.tmps = (do let vs ← fn.results.mapM (resM a.tmps); pure (if h : vs.size = 1 then vs[0] else .tuple vs)) := rfl
    have hm : ((ResultVar.cell a0 t :: l).mapM (resM a.tmps)).run P w = .ok (.agg ⟨vs⟩ :: us) w := by
      rw [List.mapM_cons]
      have hc : (resM a.tmps (.cell a0 t)).run P w = .ok (.agg ⟨vs⟩) w := by
        simp [resM, k.val a0 _ ha, asAddr, loadVar, run_isAgg, hs, run_size, run_loadCells (hb.out w s) hv]
      simp only [Sem.run_bind, hc, Result.andThen_ok, ih, Sem.run_pure]
    rw [e, ← Array.toArray_toList (xs := fn.results), List.mapM_toArray, hl]
    simp only [Sem.run_bind, Sem.run_map, hm, Result.andThen_ok]
    cases us with
    | nil => simp [tup]
    | cons v r => simp [tup]
  exact bodyPost_ret h1 k.defers ⟨_, _, rfl, hR, s.ent hE⟩

theorem o_openSl {l : List Oper} {E : TypeId} {sz len cap : Nat} {a : Option Addr} {xs : List Value} {R : List Asrt} (hr : Rem L (Sl E sz a len cap xs) R)
    (hn : xs.length = len * sz → a = none → len = 0 → cap = 0 → OpsJ P n ds F R env ops l Q)
    (hs : ∀ b rs, xs.length = len * sz → a = some ⟨b, 0, none⟩ → len ≤ cap → xs.length + rs.length = cap * sz → OpsJ P n ds F (Blk b (.cells ⟨xs ++ rs⟩ E (0, 0)) :: R) env ops l Q) : OpsJ P n ds F L env ops l Q := .mk fun w a' s o => by
  obtain ⟨h1, h2, h3, r, hc, hf, hrs, hsp⟩ := s
  obtain ⟨u, v, huv, rfl, hA, hR⟩ := sep_perm hr.perm hsp
  obtain ⟨hl, ⟨e1, e2, e3⟩ | ⟨b, rs, e1, e2, e3, hb⟩⟩ := hA.cases
  · exact (hn hl e1 e2 e3).out w a' ⟨h1, h2, h3, _, hc, hf, hrs, sep_grow huv hR⟩ o
  · exact (hs b rs hl e1 e2 e3).out w a' ⟨h1, h2, h3, _, hc, hf, hrs, u, v, huv, rfl, hb, hR⟩ o

theorem o_open {l : List Oper} {A : Asrt} {R : List Asrt} {X : Type} {φ : X → Prop} {M : X → List Asrt} [h : Opens A X φ M] (ht : Rem L A R)
    (k : ∀ x, φ x → OpsJ P n ds F (M x ++ R) env ops l Q) : OpsJ P n ds F L env ops l Q := .mk fun w a s o => by
  obtain ⟨h1, h2, h3, r, hc, hf, hr, hs⟩ := s
  obtain ⟨u, v, huv, rfl, hA, hR⟩ := sep_perm ht.perm hs
  obtain ⟨x, hx, hM⟩ := h.out u hA
  exact (k x hx).out w a ⟨h1, h2, h3, _, hc, hf, hr, sep_append huv hM hR⟩ o
/-- What follows is told once, for all ways through. -/
theorem c_fin {X : Type} (M : X → List Asrt) (e : X → Env) {x : Code} (h1 : CodeJ P n ds F L env x (Cut n ds F M e Q)) (h2 : ∀ t, FinJ P n ds F (M t) (e t) .normal Q) : CodeJ P n ds F L env x Q := .mk fun w a s o =>
  wp_mono (h1.out w a s o) fun ex a w h => by
    cases ex with
    | normal => obtain ⟨t, hs, ho⟩ := h; exact (h2 t).out w a hs ho
    | exit _ => exact h
    | goto _ => exact h
    | ret => exact h
    | panic _ => exact h
    | outgrown => exact h
theorem o_share {b : Nat} {o : Obj} {R : List Asrt} (hr : Rem L (Blk b o) R) {l : List Oper} (h : OpsJ P n ds F (Sh b o :: R) env ops l Q) : OpsJ P n ds F L env ops l Q := .mk fun w a s k => h.out w a (s.share hr) k
theorem f_share {b : Nat} {o : Obj} {R : List Asrt} (hr : Rem L (Blk b o) R) {e : Exit} (h : FinJ P n ds F (Sh b o :: R) env e Q) : FinJ P n ds F L env e Q := .mk fun w a s k => h.out w a (s.share hr) k
theorem c_share {b : Nat} {o : Obj} {R : List Asrt} (hr : Rem L (Blk b o) R) {c : Code} (h : CodeJ P n ds F (Sh b o :: R) env c Q) : CodeJ P n ds F L env c Q := .mk fun w a s k => h.out w a (s.share hr) k

/-- A row that was owned. -/
theorem St.shareSl {α : Type} (f : α → List Value) {k : Nat} {E : TypeId} {w : World} {a : Option Addr} {cap m : Nat} {xs : List α} {cs : List Value} {R : List Asrt} (s : St F L w) (hr : Rem L (Sl E k a m cap cs) R) (hm : m = xs.length) (hc : cs = xs.flatMap f) :
    St F (RowA false f k a xs :: R) w := by
  subst hm; subst hc
  obtain ⟨h1, h2, h3, r, hcp, hf, hrs, hsp⟩ := s
  obtain ⟨u, v, huv, rfl, hA, hR⟩ := sep_perm hr.perm hsp
  obtain ⟨hl, ⟨e1, e2, e3⟩ | ⟨b, rs, e1, e2, e3, hb⟩⟩ := hA.cases
  · have hx : xs = [] := List.eq_nil_of_length_eq_zero e2
    subst hx
    exact ⟨h1, h2, h3, _, hcp, hf, hrs, u, v, huv, rfl, fun h => absurd rfl h, hR⟩
  · subst e1
    have s2 : St F (Sh b (.cells ⟨xs.flatMap f ++ rs⟩ E (0, 0)) :: R) w := St.share (L := Blk b (.cells ⟨xs.flatMap f ++ rs⟩ E (0, 0)) :: R) ⟨h1, h2, h3, _, hcp, hf, hrs, u, v, huv, rfl, hb, hR⟩ Rem.here
    obtain ⟨h1, h2, h3, r, hcp, hf, hrs, u', v', huv', rfl, hA', hR'⟩ := s2
    refine ⟨h1, h2, h3, _, hcp, hf, hrs, u', v', huv', rfl, fun _ => ⟨b, 0, _, _, _, rfl, ?_, hA'⟩, hR'⟩
    rw [← hl]; exact getN_front _ _
theorem o_shareSl {α : Type} (f : α → List Value) (xs : List α) {k : Nat} {E : TypeId} {a : Option Addr} {cap m : Nat} {cs : List Value} {R : List Asrt} (hr : Rem L (Sl E k a m cap cs) R) (hm : m = xs.length) (hc : cs = xs.flatMap f) {l : List Oper}
    (h : OpsJ P n ds F (RowA false f k a xs :: R) env ops l Q) : OpsJ P n ds F L env ops l Q := .mk fun w b s k => h.out w b (St.shareSl f s hr hm hc) k
theorem f_shareSl {α : Type} (f : α → List Value) (xs : List α) {k : Nat} {E : TypeId} {a : Option Addr} {cap m : Nat} {cs : List Value} {R : List Asrt} (hr : Rem L (Sl E k a m cap cs) R) (hm : m = xs.length) (hc : cs = xs.flatMap f) {e : Exit}
    (h : FinJ P n ds F (RowA false f k a xs :: R) env e Q) : FinJ P n ds F L env e Q := .mk fun w b s k => h.out w b (St.shareSl f s hr hm hc) k
theorem c_shareSl {α : Type} (f : α → List Value) (xs : List α) {k : Nat} {E : TypeId} {a : Option Addr} {cap m : Nat} {cs : List Value} {R : List Asrt} (hr : Rem L (Sl E k a m cap cs) R) (hm : m = xs.length) (hc : cs = xs.flatMap f) {c : Code}
    (h : CodeJ P n ds F (RowA false f k a xs :: R) env c Q) : CodeJ P n ds F L env c Q := .mk fun w b s k => h.out w b (St.shareSl f s hr hm hc) k
end

theorem RowA.dup {α : Type} {f : α → List Value} {k : Nat} {a : Option Addr} {xs : List α} {L : List Asrt} : Ent (RowA false f k a xs :: L) (RowA false f k a xs :: RowA false f k a xs :: L) := by
  intro r ⟨u, v, hc, e, hu, hv⟩
  by_cases hx : xs = []
  · refine ⟨fun _ => none, r, ?_, ?_, fun h => absurd hx h, u, v, hc, e, hu, hv⟩
    · intro x p o q o' h; cases h
    · funext x; rfl
  · obtain ⟨b, off, cs, T, fz, h1, h2, h3⟩ := hu hx
    obtain ⟨u1, v1, hc1, e1, hu1, u2, v2, hc2, e2, hu2, hv2⟩ := Ent.dup (b := b) (o := .cells ⟨cs⟩ T fz) (L := L) r ⟨u, v, hc, e, h3, hv⟩
    exact ⟨u1, v1, hc1, e1, fun _ => ⟨b, off, cs, T, fz, h1, h2, hu1⟩, u2, v2, hc2, e2, fun _ => ⟨b, off, cs, T, fz, h1, h2, hu2⟩, hv2⟩
end Go.Lun

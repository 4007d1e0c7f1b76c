/- Texts joined: FnK, PL5, PL6, PCv, PCw, PCx, Fin, Arg, ArgP. -/
import Derived.ProofKit
import Derived.Carry
import Derived.Deep.Slices
import Derived.Test.YtjdkdmojlnooiaaGreatRows
import Derived.Test.YtjdkdmojlnooiaaGreatPc1
import Derived.Test.YtjdkdmojlnooiaaGreatPc2
import Derived.Test.YtjdkdmojlnooiaaGreatPc5
/- What a function does where a block that it reads is held by the frame. -/
namespace Go.Lun

theorem St.frameK {F : Fr} {L P R : List Asrt} {w : World} (s : St F L w) (h : Takes L P R) :
    ∃ F', (∀ b x, F.res b = some x → F'.res b = some x) ∧ St F' P w ∧ ∀ L' w', St F' L' w' → St F (L' ++ R) w' := by
  obtain ⟨h1, h2, h3, r, hc, hf, hr, hs⟩ := s
  obtain ⟨a, b, hab, rfl, ha, hb⟩ := sep_split (h.ent r hs)
  have hFb : Compat F.res b := (hab.join_r hc.symm).symm
  have hFa : Compat F.res a := hc.symm.join_l.symm
  refine ⟨{ F with res := join F.res b }, fun _ _ h => join_some h, ⟨h1, h2, h3, a, .of_join hFa hab.symm, hf.join (hr.right hab), hr.left, ha⟩, ?_⟩
  rintro L' w' ⟨k1, k2, k3, r', kc, kf, kr, ks⟩
  have hbr : Compat b r' := hFb.join_r kc
  exact ⟨k1, k2, k3, join r' b, (Compat.of_join kc.join_l.symm hFb.symm).symm, kf.left, kr.join (kf.right hFb), sep_append hbr.symm ks hb⟩

structure FnK (P : Program) (f : FuncId) (args : List Value) (b : Nat) (o : Obj) (pre : List Asrt) (R : Value → List Asrt → Prop) : Prop where
  out : ∀ F w, FFind F b o → St F pre w → Calls P f ⟨args⟩ w fun e w' => ∃ v L', e = .returned v ∧ R v L' ∧ St F L' w'

section
variable {P : Program} {n : Nat} {ds : List Deferred} {F : Fr} {L : List Asrt} {env : Env} {Q : Post} {ops : Array Oper} {rest : List Oper}
variable {dt : Option Tmp} {ty : TypeId} {pos : String} {af : Array Edge} {g : Option (Nat × Bool)}
theorem fnK_start {f : FuncId} {fn : Func} {c : Code} {args : List Value} {b : Nat} {o : Obj} {pre : List Asrt} {R : Value → List Asrt → Prop} (hf : P.funcs[f]? = some fn) (hb : fn.body = some c) (hn : fn.ntmps = n)
    (hl : Nat.ble args.length n = true) (h : ∀ F, FFind F b o → CodeJ P n [] F pre (argEnv 0 args) c (FnPost P fn F R)) : FnK P f args b o pre R := .mk fun F w hF s => by
  refine (callsIn_wide (n := 0)).1 (callsIn_of_wp_marks (F := fe none) hf hb trivial (wpIn_mono ((h { F with ro := none } ⟨hF.out⟩).out w _ s ⟨?_, rfl, ?_⟩) ?_))
  · have := Nat.le_of_ble_eq_true hl
    simp [hn]; omega
  · intro t v ht
    obtain ⟨_, h2⟩ := look_argEnv ht
    have hlt : t < args.length := by
      rcases Nat.lt_or_ge t args.length with h | h
      · exact h
      · simp [List.getElem?_eq_none h] at h2
    simp [Array.getElem?_append, hlt]
    simpa [hlt] using h2
  · intro e a w hq
    cases e with
    | normal => exact hq
    | ret => exact hq
    | _ => exact hq.elim
theorem o_callK {f : FuncId} {args : Array Operand} {ats : Array TypeId} {vs : List Value} {b : Nat} {o : Obj} {pre M : List Asrt} {R : Value → List Asrt → Prop} [hc : Callee P f] [hb : FFind F b o] (hargs : evs env args.toList = some vs)
    (hf : FnK P f vs b o pre R) (ht : Takes L pre M) (hd : fits n dt = true) (h : ∀ v L', R v L' → OpsJ P n ds F (L' ++ M) (putE env dt v) ops rest Q) :
    OpsJ P n ds F L env ops (⟨dt, .call ⟨.value (.func f), args, ats⟩, ty, pos, af, none⟩ :: rest) Q := .mk fun w a s k => by
  refine wpList_plain rfl fun K hK => ?_
  obtain ⟨F', hsub, s', hback⟩ := s.frameK ht
  have hF' : FFind F' b o := by
    obtain ⟨q, hq⟩ := hb.out
    exact ⟨q, hsub _ _ hq⟩
  have he : (execOp a.eval ⟨dt, .call ⟨.value (.func f), args, ats⟩, ty, pos, af, none⟩).run P w = .ok (.enter f ⟨vs⟩) w := by
    simp [execOp, resolve, k.evsA hargs, Act.eval, Deferred.ofValue, invoke, hc.run]
  unfold Oper.wp
  rw [he, Oper.upon_enter]
  refine (hf.out F' w hF' s').mono fun e w' => ?_
  rintro ⟨v, L', rfl, hR, s''⟩
  exact hK _ _ ((h v L' hR).out w' _ (hback _ _ s'') (k.put hd v))
end
end Go.Lun

/- The pager's own, where its block is held; acts in a row. -/
namespace Go.Lun
open Go.Proofs

section
variable {p d rb m : Nat} {x : SP} {fv cv lf lc : Value} {old lp : Int}

theorem super_k : FnK Tryz.prog 25 [.pointer (some ⟨p, 0, none⟩)] p (pobj rb x fv cv m old lp lf lc) [] (fun v L => v = .agg ⟨x.vals⟩ ∧ L = []) := by
  refine fnK_start Tryz.func25 rfl rfl rfl fun F hF => ?_
  refine c_seq ?_
  refine c_region ?_
  refine o_alloc rfl (fun zb => ?_)
  refine o_nil ?_
  refine f_seq ?_
  refine c_seq ?_
  refine c_region ?_
  refine o_y (y_move rfl) rfl ?_
  refine o_y (y_nilCheck rfl) rfl ?_
  refine o_y (y_fieldAddr0 rfl) rfl ?_
  refine o_y (y_loadN rfl rfl rfl) rfl ?_
  refine o_store rfl rfl rfl frz0 ?_
  refine o_nil ?_
  refine f_seq ?_
  refine c_ret ?_
  exact f_retc rfl rfl rfl rfl rfl (by repeat (first | with_reducible exact Ent.nil | (apply Ent.one; focus (repeat (first | with_reducible exact Rem.here | apply Rem.there))))) ⟨rfl, rfl⟩
theorem free_k {a : Option Addr} {cap : Nat} {l : List FR} (hn : l.length ≤ 1000000) (hw : Wf a l.length cap) : FnK Tryz.prog 27 [.pointer (some ⟨p, 0, none⟩)] p (pobj rb x (.slice a l.length cap) cv m old lp lf lc) [RowA false freeC 2 a l]
    (fun v L => ∃ a' cap', Wf a' l.length cap' ∧ v = .slice a' l.length cap' ∧ L = [RowA false freeC 2 a' l, RowA false freeC 2 a l]) := by
  refine fnK_start Tryz.func27 rfl rfl rfl fun F hF => ?_
  refine c_seq ?_
  refine c_region ?_
  refine o_y (y_assign rfl) rfl ?_
  refine o_nil ?_
  refine f_seq ?_
  refine c_seq ?_
  refine c_region ?_
  refine o_y (y_move rfl) rfl ?_
  refine o_y (y_nilCheck rfl) rfl ?_
  refine o_y (y_fieldAddr0 rfl) rfl ?_
  refine o_y (y_load rfl rfl rfl) rfl ?_
  refine o_call rfl (clonef_f hn hw) (by repeat (first | with_reducible exact Takes.nil | (apply Takes.cons; focus (repeat (first | with_reducible exact Rem.here | apply Rem.there))))) rfl ?_
  rintro _ _ ⟨a', cap', hw', rfl, rfl⟩
  simp only [List.append_eq, List.cons_append, List.nil_append, List.append_nil, tup]
  refine o_y (y_assign rfl) rfl ?_
  refine o_nil ?_
  refine f_seq ?_
  refine c_ret ?_
  exact f_ret rfl ⟨a', cap', hw', rfl, rfl⟩
theorem chain_k {a : Option Addr} {cap : Nat} {l : List Int} (hn : l.length ≤ 1000000) (hw : Wf a l.length cap) : FnK Tryz.prog 29 [.pointer (some ⟨p, 0, none⟩)] p (pobj rb x fv (.slice a l.length cap) m old lp lf lc) [RowA false intC 1 a l]
    (fun v L => ∃ a' cap', Wf a' l.length cap' ∧ v = .slice a' l.length cap' ∧ L = [RowA false intC 1 a' l, RowA false intC 1 a l]) := by
  refine fnK_start Tryz.func29 rfl rfl rfl fun F hF => ?_
  refine c_seq ?_
  refine c_region ?_
  refine o_y (y_assign rfl) rfl ?_
  refine o_nil ?_
  refine f_seq ?_
  refine c_seq ?_
  refine c_region ?_
  refine o_y (y_move rfl) rfl ?_
  refine o_y (y_nilCheck rfl) rfl ?_
  refine o_y (y_fieldAddr0 rfl) rfl ?_
  refine o_y (y_load rfl rfl rfl) rfl ?_
  refine o_call rfl (clonei_f hn hw) (by repeat (first | with_reducible exact Takes.nil | (apply Takes.cons; focus (repeat (first | with_reducible exact Rem.here | apply Rem.there))))) rfl ?_
  rintro _ _ ⟨a', cap', hw', rfl, rfl⟩
  simp only [List.append_eq, List.cons_append, List.nil_append, List.append_nil, tup]
  refine o_y (y_assign rfl) rfl ?_
  refine o_nil ?_
  refine f_seq ?_
  refine c_ret ?_
  exact f_ret rfl ⟨a', cap', hw', rfl, rfl⟩
theorem pages_k {s : Nat} {n : Int} : FnK Tryz.prog 30 [.pointer (some ⟨rb, 0, none⟩)] rb (robj d s n) [] (fun v L => v = .int .i64 n ∧ L = []) := by
  refine fnK_start Tryz.func30 rfl rfl rfl fun F hF => ?_
  refine c_seq ?_
  refine c_region ?_
  refine o_y (y_assign rfl) rfl ?_
  refine o_nil ?_
  refine f_seq ?_
  refine c_seq ?_
  refine c_region ?_
  refine o_y (y_move rfl) rfl ?_
  refine o_y (y_nilCheck rfl) rfl ?_
  refine o_y (y_fieldAddr0 rfl) rfl ?_
  refine o_y (y_load rfl rfl rfl) rfl ?_
  refine o_y (y_assign rfl) rfl ?_
  refine o_nil ?_
  refine f_seq ?_
  refine c_ret ?_
  exact f_ret rfl ⟨rfl, rfl⟩
end

theorem star_dupP {i : Nat} {x : AP} {L : List Asrt} : ∀ {xs : List AP}, xs[i]? = some x → Ent (Star (xs.map fun x => KP x) :: L) (KP x :: Star (xs.map fun x => KP x) :: L) := by
  induction i with
  | zero =>
    intro ps h
    cases ps with
    | nil => cases h
    | cons q ps =>
      simp only [List.getElem?_cons_zero, Option.some.injEq] at h
      subst h
      rw [List.map_cons]
      exact ((Ent.star_cons.app (N := L)).trans RowA.dup).trans (Ent.cons (Ent.cons_star.app (N := L)))
  | succ i ih =>
    intro ps h
    cases ps with
    | nil => cases h
    | cons q ps =>
      rw [List.getElem?_cons_succ] at h
      rw [List.map_cons]
      refine ((Ent.star_cons.app (N := L)).trans (Ent.cons (ih h))).trans ?_
      refine (Ent.perm (List.Perm.swap _ _ _)).trans (Ent.cons ?_)
      exact Ent.cons_star.app (N := L)
/-- Acts that are arguments. -/
abbrev Acts (a : Option Addr) (xs : List AP) : List Asrt := [RowA false AP.cellsV 7 a xs, Star (xs.map fun x => KP x)]
theorem act_get {l : List AP} {cs : List Value} {off i : Nat} {s : AP} (h : getN cs off (l.length * 7) = some (l.flatMap AP.cellsV)) (hs : l[i]? = some s) : getN cs (off + i * 7) 7 = some s.cellsV :=
  getN_sub h (flat_get AP.cellsV 7 (fun _ => rfl) hs)
/-- The acts done that aren't too great. -/
def PS.acts (S : PS) (xs : List AP) : PS := xs.foldl (fun S x => if x.few = true then (S.act x).1 else S) S
theorem acts_snoc {S : PS} {xs : List AP} {i : Nat} {x : AP} (h : xs[i]? = some x) : S.acts (xs.take (i + 1)) = if x.few = true then ((S.acts (xs.take i)).act x).1 else S.acts (xs.take i) := by
  unfold PS.acts; rw [take_snoc' h, List.foldl_append]; rfl
theorem AFit.up {S : PS} {n m : Nat} (h : AFit S n) (hm : n ≤ m) : AFit S m := ⟨h.pf.up (by omega), h.cf, h.lf, by have := h.e; omega, h.old⟩
theorem acts_fit {S : PS} {n : Nat} (h : AFit S n) : ∀ (xs : List AP), n + xs.length ≤ 900000 → AFit (S.acts xs) (n + xs.length) := by
  have key : ∀ (xs : List AP) (S : PS) (n : Nat), AFit S n → n + xs.length ≤ 900000 → AFit (S.acts xs) (n + xs.length) := fun xs => by
    induction xs with
    | nil => intro S n h _; exact h
    | cons x xs ih =>
      intro S n h hl
      rw [List.length_cons] at hl ⊢
      have := ih (if x.few = true then (S.act x).1 else S) (n + 1) (by split; exact h.act (by omega) x; exact h.up (by omega)) (by omega)
      rw [show n + (xs.length + 1) = n + 1 + xs.length by omega]
      exact this
  exact fun xs hl => key xs S n h hl
end Go.Lun

/- The statements of layer 8: pages that are the same; a page made and read. -/
namespace Go.Lun
open Go.Proofs

set_option maxHeartbeats 6400000 in
theorem same4_f (p : PG) (a b : Option Addr) (ac bc : Nat) (q1 q2 : Bool) (hs : p.cells.length ≤ 1000000) : Fn Tryz.prog 33 [.agg ⟨p.vals a ac⟩, .agg ⟨p.vals b bc⟩] [RowA q1 strC 1 a p.cells, RowA q2 strC 1 b p.cells]
    (fun v L => v = .bool true ∧ L = [RowA q1 strC 1 a p.cells, RowA q2 strC 1 b p.cells]) := by
  refine fn_start Tryz.func33 rfl rfl rfl fun F => ?_
  obtain ⟨kind, no, epoch, link, cells⟩ := p
  dsimp only [PG.vals] at hs ⊢
  refine c_seq ?_
  refine c_region ?_
  refine o_box rfl rfl (fun xb => ?_)
  refine o_box rfl rfl (fun yb => ?_)
  refine o_y (y_assign rfl) rfl ?_
  refine o_nil ?_
  refine f_seq ?_
  refine c_seq ?_
  refine c_seq ?_
  refine c_region ?_
  refine o_y (y_fieldAddr0 rfl) rfl ?_
  refine o_y (y_load rfl rfl rfl) rfl ?_
  refine o_y (y_fieldAddr0 rfl) rfl ?_
  refine o_y (y_load rfl rfl rfl) rfl ?_
  refine o_y (y_neq_f rfl rfl (by omega)) rfl ?_
  refine o_y (y_move rfl) rfl ?_
  refine o_want rfl ?_
  refine o_y (y_fieldAddr0 rfl) rfl ?_
  refine o_want rfl ?_
  refine o_y (y_load rfl rfl rfl) rfl ?_
  refine o_want rfl ?_
  refine o_y (y_fieldAddr0 rfl) rfl ?_
  refine o_want rfl ?_
  refine o_y (y_load rfl rfl rfl) rfl ?_
  refine o_want rfl ?_
  refine o_y (y_neq_f rfl rfl (by omega)) rfl ?_
  refine o_y (y_pick_f rfl rfl) rfl ?_
  refine o_y (y_move rfl) rfl ?_
  refine o_want rfl ?_
  refine o_y (y_fieldAddr0 rfl) rfl ?_
  refine o_want rfl ?_
  refine o_y (y_load rfl rfl rfl) rfl ?_
  refine o_want rfl ?_
  refine o_y (y_fieldAddr0 rfl) rfl ?_
  refine o_want rfl ?_
  refine o_y (y_load rfl rfl rfl) rfl ?_
  refine o_want rfl ?_
  refine o_y (y_neq_f rfl rfl (by omega)) rfl ?_
  refine o_y (y_pick_f rfl rfl) rfl ?_
  refine o_y (y_move rfl) rfl ?_
  refine o_want rfl ?_
  refine o_y (y_fieldAddr0 rfl) rfl ?_
  refine o_want rfl ?_
  refine o_y (y_load rfl rfl rfl) rfl ?_
  refine o_want rfl ?_
  refine o_y (y_fieldAddr0 rfl) rfl ?_
  refine o_want rfl ?_
  refine o_y (y_load rfl rfl rfl) rfl ?_
  refine o_want rfl ?_
  refine o_y (y_neq_f rfl rfl (by omega)) rfl ?_
  refine o_y (y_pick_f rfl rfl) rfl ?_
  refine o_y (y_move rfl) rfl ?_
  refine o_want rfl ?_
  refine o_y (y_fieldAddr0 rfl) rfl ?_
  refine o_want rfl ?_
  refine o_y (y_load rfl rfl rfl) rfl ?_
  refine o_want rfl ?_
  refine o_y (y_len_slice rfl) rfl ?_
  refine o_want rfl ?_
  refine o_y (y_fieldAddr0 rfl) rfl ?_
  refine o_want rfl ?_
  refine o_y (y_load rfl rfl rfl) rfl ?_
  refine o_want rfl ?_
  refine o_y (y_len_slice rfl) rfl ?_
  refine o_want rfl ?_
  refine o_y (y_neq_f rfl rfl (by omega)) rfl ?_
  refine o_y (y_pick_f rfl rfl) rfl ?_
  refine o_nil ?_
  refine f_seq ?_
  refine c_false rfl ?_
  refine c_skip ?_
  refine f_seq ?_
  refine c_seq ?_
  refine c_seq ?_
  refine c_region ?_
  refine o_y (y_assign rfl) rfl ?_
  refine o_nil ?_
  refine f_seq ?_
  refine c_block ?_
  refine c_loop_inv (X := Nat) (fun i => i ≤ cells.length) (fun i => cells.length - i)
    (fun i => [Blk xb (.cells ⟨[.int .i64 kind, .int .i64 no, .int .i64 epoch, .int .i64 link, .slice a cells.length ac]⟩ 65 (0, 0)), Blk yb (.cells ⟨[.int .i64 kind, .int .i64 no, .int .i64 epoch, .int .i64 link, .slice b cells.length bc]⟩ 65 (0, 0)), RowA q1 strC 1 a cells, RowA q2 strC 1 b cells])
    (fun i => [(2, .pointer (some ⟨xb, 0, none⟩)), (3, .pointer (some ⟨yb, 0, none⟩)), (5, .int .i64 (i : Int))]) 0 (Nat.zero_le _) (by repeat (first | with_reducible exact Ent.nil | (apply Ent.one; focus (repeat (first | with_reducible exact Rem.here | apply Rem.there))))) (by repeat (first | exact trivial | refine ⟨rfl, ?_⟩)) ?_
  intro i hi ih
  by_cases hlt : i < cells.length
  case neg =>
    clear ih
    refine c_seq ?_
    refine c_seq ?_
    refine c_region ?_
    refine o_y (y_move rfl) rfl ?_
    refine o_y (y_fieldAddr0 rfl) rfl ?_
    refine o_y (y_load rfl rfl rfl) rfl ?_
    refine o_y (y_len_slice rfl) rfl ?_
    refine o_y (y_lss_f rfl rfl (by omega)) rfl ?_
    refine o_nil ?_
    refine f_seq ?_
    refine c_false rfl ?_
    refine c_exit ?_
    refine f_seq_exit ?_
    refine f_seq_exit ?_
    refine f_block_here ?_
    refine f_seq ?_
    refine c_seq ?_
    refine c_region ?_
    refine o_y (y_assign rfl) rfl ?_
    refine o_nil ?_
    refine f_seq ?_
    refine c_ret ?_
    exact f_ent (by repeat (first | with_reducible exact Ent.nil | (apply Ent.one; focus (repeat (first | with_reducible exact Rem.here | apply Rem.there))))) (f_ret rfl ⟨rfl, rfl⟩)
  obtain ⟨c, hc⟩ : ∃ c, cells[i]? = some c := ⟨_, List.getElem?_eq_getElem hlt⟩
  have hne : cells ≠ [] := by intro h; rw [h] at hlt; exact absurd hlt (by simp)
  refine c_open (A := RowA q1 strC 1 a cells) (h := RowA.opens (f := strC) hne) (by apply Rem.there; apply Rem.there; exact Rem.here) (fun y hy2 => ?_)
  obtain ⟨kb, ko, cs, T, fz⟩ := y
  obtain ⟨e1, e2⟩ := hy2
  dsimp only at e1 e2
  subst e1
  have hg1 := str_get e2 hc
  simp only [List.append_eq, List.cons_append, List.nil_append, List.append_nil, tup]
  refine c_open (A := RowA q2 strC 1 b cells) (h := RowA.opens (f := strC) hne) (by repeat (first | with_reducible exact Rem.here | apply Rem.there)) (fun y hy2 => ?_)
  obtain ⟨kb2, ko2, cs2, T2, fz2⟩ := y
  obtain ⟨e3, e4⟩ := hy2
  dsimp only at e3 e4
  subst e3
  have hg2 := str_get e4 hc
  simp only [List.append_eq, List.cons_append, List.nil_append, List.append_nil, tup]
  refine c_seq ?_
  refine c_seq ?_
  refine c_region ?_
  refine o_y (y_move rfl) rfl ?_
  refine o_y (y_fieldAddr0 rfl) rfl ?_
  refine o_y (y_load rfl rfl rfl) rfl ?_
  refine o_y (y_len_slice rfl) rfl ?_
  refine o_y (y_lss_t rfl rfl (by omega)) rfl ?_
  refine o_nil ?_
  refine f_seq ?_
  refine c_true rfl ?_
  refine c_skip ?_
  refine f_seq ?_
  refine c_seq ?_
  refine c_block ?_
  refine c_seq ?_
  refine c_ent (M := [Blk xb (.cells ⟨[.int .i64 kind, .int .i64 no, .int .i64 epoch, .int .i64 link, .slice (some ⟨kb, ko, none⟩) cells.length ac]⟩ 65 (0, 0)), Blk yb (.cells ⟨[.int .i64 kind, .int .i64 no, .int .i64 epoch, .int .i64 link, .slice (some ⟨kb2, ko2, none⟩) cells.length bc]⟩ 65 (0, 0)), Bkp q1 kb (.cells ⟨cs⟩ T fz), Bkp q2 kb2 (.cells ⟨cs2⟩ T2 fz2)]) (by repeat (first | with_reducible exact Ent.nil | (apply Ent.one; focus (repeat (first | with_reducible exact Rem.here | apply Rem.there))))) ?_
  refine pl_start [] Tryz.mixed ?_; intro hd
  refine pl_lock (A := Bkp _ _ _) Rem.here rfl ?_ hd; intro hb0
  refine pl_lock (A := Bkp _ _ _) Rem.here rfl ?_ hd; intro hb1
  refine pl_lock (A := Bkp _ _ _) Rem.here rfl ?_ hd; intro hb2
  refine pl_lock (A := Bkp _ _ _) Rem.here rfl ?_ hd; intro hb3
  refine pl_take (i := 0) rfl (by kernel_rfl) (y_fieldAddr0 rfl) ?_ hd; clear hd; intro hd
  refine pl_take (i := 1) rfl (by kernel_rfl) (y_load rfl rfl rfl) ?_ hd; clear hd; intro hd
  refine pl_take (i := 2) rfl (by kernel_rfl) (y_move rfl) ?_ hd; clear hd; intro hd
  refine pl_take (i := 3) rfl (by kernel_rfl) (y_indexAddr i rfl rfl rfl hlt) ?_ hd; clear hd; intro hd
  refine pl_take (i := 4) rfl (by kernel_rfl) (y_load rfl rfl hg1) ?_ hd; clear hd; intro hd
  refine pl_take (i := 5) rfl (by kernel_rfl) (y_fieldAddr0 rfl) ?_ hd; clear hd; intro hd
  refine pl_take (i := 6) rfl (by kernel_rfl) (y_load rfl rfl rfl) ?_ hd; clear hd; intro hd
  refine pl_take (i := 7) rfl (by kernel_rfl) (y_move rfl) ?_ hd; clear hd; intro hd
  refine pl_take (i := 8) rfl (by kernel_rfl) (y_indexAddr i rfl rfl rfl hlt) ?_ hd; clear hd; intro hd
  refine pl_take (i := 9) rfl (by kernel_rfl) (y_load rfl rfl hg2) ?_ hd; clear hd; intro hd
  refine pl_take (i := 10) rfl (by kernel_rfl) (y_eq_str (op := .neq) (l := c) (m := c) (c := false) rfl rfl (by simp)) ?_ hd; clear hd; intro hd
  refine pl_done (by kernel_rfl) ?_ hd
  refine f_unlock (A := Bkp _ _ _) ?_
  refine f_unlock (A := Bkp _ _ _) ?_
  refine f_unlock (A := Bkp _ _ _) ?_
  refine f_unlock (A := Bkp _ _ _) ?_
  refine f_seq ?_
  refine c_false rfl ?_
  refine c_skip ?_
  refine f_block ?_
  refine f_seq ?_
  refine c_region ?_
  refine o_y (y_move rfl) rfl ?_
  refine o_y (y_arith64 rfl rfl rfl (by omega)) rfl ?_
  refine o_y (y_assign rfl) rfl ?_
  refine o_nil ?_
  refine f_next ?_ (by repeat (first | exact trivial | refine ⟨rfl, ?_⟩)) (ih (i + 1) hlt (by omega))
  refine Ent.one (by repeat (first | with_reducible exact Rem.here | apply Rem.there)) (Ent.one (by repeat (first | with_reducible exact Rem.here | apply Rem.there)) ?_)
  exact Ent.put (P := [Bkp q1 kb (.cells ⟨cs⟩ T fz)]) (by repeat (first | with_reducible exact Takes.nil | (apply Takes.cons; focus (repeat (first | with_reducible exact Rem.here | apply Rem.there))))) (RowA.shut rfl e2) (Ent.put (P := [Bkp q2 kb2 (.cells ⟨cs2⟩ T2 fz2)]) (by repeat (first | with_reducible exact Takes.nil | (apply Takes.cons; focus (repeat (first | with_reducible exact Rem.here | apply Rem.there))))) (RowA.shut rfl e4) Ent.nil)

/-! ### How many pages there are -/

/-- What a telling takes. -/
theorem take_le (S : PS) : S.take.1.pages ≤ S.pages + 1 := by
  unfold PS.take
  split
  · show S.pages ≤ _; omega
  · split
    · show S.pages ≤ _; omega
    · exact Int.le_refl _
theorem take_none (S : PS) (h : S.take.2.2 ≠ 0) : S.take.1 = S := by
  unfold PS.take at h ⊢
  split
  · rename_i h1; rw [h1] at h; exact absurd rfl h
  · rename_i h1
    rw [h1] at h
    dsimp only at h ⊢
    split
    · rfl
    · rename_i h2; rw [if_neg h2] at h; exact absurd rfl h
theorem lay_pages {k : Nat} (S : PS) (h : PFit S k) (hc : CFit S) : S.lay.1.pages - S.lay.1.chain.length ≤ S.pages - S.chain.length ∧ (S.lay.1.chain.length = S.chain.length ∨ 22 * (S.lay.1.chain.length : Int) < S.pages - S.chain.length + 20) := by
  have hfl := h.sf.len2 h.lt h.pg.1
  have htl := take_le S
  rw [PS.lay]
  split
  · rename_i hm
    split
    · rename_i he
      rw [take_none S he]
      exact ⟨Int.le_refl _, .inl rfl⟩
    · rename_i he
      have he : S.take.2.2 = 0 := by simpa using he
      obtain ⟨h1, h2⟩ := h.link hc he hm
      have h3 := (take_len S)
      have hll : S.link.chain.length = S.chain.length + 1 := by show (S.take.1.chain ++ [S.take.2.1]).length = _; rw [h3.2, List.length_append]; rfl
      have hlp : S.link.pages = S.take.1.pages := rfl
      obtain ⟨i1, i2⟩ := lay_pages S.link h1 h2
      rw [hll, hlp] at i1 i2
      refine ⟨by omega, ?_⟩
      rcases i2 with i2 | i2
      · right; rw [i2]; omega
      · right; omega
  · exact ⟨Int.le_refl _, .inl rfl⟩
termination_by S.free.length - S.chain.length * 23
decreasing_by
  have := take_len S
  simp only [PS.link, List.length_append, List.length_cons, List.length_nil, this.2]
  omega
theorem relay_pages {S : PS} {k : Nat} (h : PFit S k) (hc : CFit S) : S.relay.1.pages ≤ S.pages ∨ ∃ c : Nat, S.relay.1.pages ≤ S.pages + c ∧ 22 * (c : Int) < S.pages + 20 := by
  obtain ⟨h1, h2⟩ := h.freed hc
  obtain ⟨i1, i2⟩ := lay_pages S.freed h1 h2
  have e1 : S.freed.pages = S.pages := rfl
  have e2 : S.freed.chain.length = 0 := rfl
  rw [e1, e2] at i1 i2
  have key : S.freed.lay.1.pages ≤ S.pages ∨ ∃ c : Nat, S.freed.lay.1.pages ≤ S.pages + c ∧ 22 * (c : Int) < S.pages + 20 := by
    rcases i2 with i2 | i2
    · left; omega
    · right; exact ⟨S.freed.lay.1.chain.length, by omega, by omega⟩
  unfold PS.relay
  split
  · exact key
  · dsimp only
    rw [(wr_up S.freed.lay.1 _).1]
    exact key
theorem new_le (S : PS) (kind link : Int) (cells : List Bytes) : (S.new kind link cells).1.pages ≤ S.pages + 1 := by
  have := take_le S
  unfold PS.new
  split
  · show S.pages ≤ _; omega
  · split
    · exact this
    · split
      · dsimp only; rw [(write_up _ _ _ _ _).1]; exact this
      · dsimp only; rw [(write_up _ _ _ _ _).1]; exact this
theorem change_le (S : PS) (no kind link : Int) (cells : List Bytes) : (S.change no kind link cells).1.pages ≤ S.pages + 1 := by
  have := new_le S kind link cells
  unfold PS.change
  split
  · split
    · split
      · dsimp only; rw [(write_up _ _ _ _ _).1]; omega
      · dsimp only; rw [(write_up _ _ _ _ _).1]; omega
    · split
      · exact this
      · dsimp only; rw [(drop_up _ _).1]; exact this
  · dsimp only; omega
/-- So many pages at most, so many on the disk. -/
structure PB (S : PS) (b most : Int) : Prop where
  pages : S.pages ≤ b
  lpages : S.lpages ≤ b
  most : S.D.most = most
theorem PB.mono {S : PS} {b c most : Int} (h : PB S b most) (hc : b ≤ c) : PB S c most := ⟨by have := h.pages; omega, by have := h.lpages; omega, h.most⟩
theorem PB.act {S : PS} {n : Nat} {b most : Int} (h : PB S b most) (hf : AFit S n) (hb : b ≤ 67) (x : AP) : PB (S.act x).1 (b + 3) most := by
  have hp := h.pages
  have hl := h.lpages
  unfold PS.act
  split
  · have := new_le S x.of_ x.link x.cells
    obtain ⟨u1, u2, u3, u4⟩ := new_up S x.of_ x.link x.cells
    exact ⟨by omega, by rw [(same_new ..).lpages]; omega, u3.trans h.most⟩
  · split
    · have := change_le S x.no x.of_ x.link x.cells
      obtain ⟨u1, u2, u3, u4⟩ := change_up S x.no x.of_ x.link x.cells
      exact ⟨by omega, by rw [(same_change ..).lpages]; omega, u3.trans h.most⟩
    · split
      · obtain ⟨u1, u2, u3⟩ := drop_up S x.no
        exact ⟨by dsimp only; omega, by dsimp only; rw [(same_drop ..).lpages]; omega, by dsimp only; rw [u2]; exact h.most⟩
      · split
        · obtain ⟨r1, r2, r3, r4, r5, r6⟩ := relay_fit hf.pf hf.cf
          have hr : S.relay.1.pages ≤ b + 3 := by
            rcases relay_pages hf.pf hf.cf with h1 | ⟨c, h1, h2⟩ <;> omega
          unfold PS.commit
          split
          · exact ⟨by dsimp only; omega, by dsimp only; omega, h.most⟩
          · split
            · exact ⟨by show S.relay.1.lpages ≤ _; rw [r6.lpages]; omega, by show S.relay.1.lpages ≤ _; rw [r6.lpages]; omega, r5.trans h.most⟩
            · exact ⟨hr, hr, r5.trans h.most⟩
        · split
          · exact ⟨by show S.lpages ≤ _; omega, by show S.lpages ≤ _; omega, h.most⟩
          · split
            · exact ⟨by show S.pages ≤ _; omega, by show S.lpages ≤ _; omega, h.most⟩
            · exact ⟨by dsimp only; omega, by dsimp only; omega, h.most⟩
theorem begin_pb (most : Int) : PB (PS.begin most) 2 most := ⟨Int.le_refl _, Int.le_refl _, rfl⟩
theorem acts_pb {S : PS} {n : Nat} {b most : Int} (h : PB S b most) (hf : AFit S n) : ∀ (xs : List AP), n + xs.length ≤ 900000 → b + 3 * xs.length ≤ 70 → PB (S.acts xs) (b + 3 * xs.length) most := by
  have key : ∀ (xs : List AP) (S : PS) (n : Nat) (b : Int), PB S b most → AFit S n → n + xs.length ≤ 900000 → b + 3 * xs.length ≤ 70 → PB (S.acts xs) (b + 3 * xs.length) most := fun xs => by
    induction xs with
    | nil => intro S n b h _ _ _; rw [show b + 3 * (([] : List AP).length : Int) = b by simp]; exact h
    | cons x xs ih =>
      intro S n b h hf hl hb
      rw [List.length_cons] at hl hb ⊢
      have := ih (if x.few = true then (S.act x).1 else S) (n + 1) (b + 3) (by split; exact h.act hf (by omega) x; exact h.mono (by omega)) (by split; exact hf.act (by omega) x; exact hf.up (by omega)) (by omega) (by omega)
      rw [show b + 3 * ((xs.length + 1 : Nat) : Int) = b + 3 + 3 * (xs.length : Int) by omega]
      exact this
  exact fun xs hl hb => key xs S n b h hf hl hb

/-! ### Pages made one behind another -/

theorem read_write (D : DS) (no x : Int) (l : Bytes) : (D.write no l).read x = if x = no then l else D.read x := by
  unfold DS.read DS.write upd
  dsimp only
  split
  · rename_i h1; split at h1
    · rename_i h2; injection h1 with h1; rw [if_pos h2, h1]
    · rename_i h2; rw [if_neg h2, h1]
  · rename_i h1; split at h1
    · cases h1
    · rename_i h2; rw [if_neg h2, h1]
theorem take_read (S : PS) (x : Int) : S.take.1.D.read x = S.D.read x := by
  unfold PS.take
  split
  · rfl
  · split <;> rfl
theorem take_free {S : PS} {k : Nat} (h : PFit S k) (he : S.take.2.2 = 0) : (∀ f ∈ S.take.1.free, f ∈ S.free ∧ f.p ≠ S.take.2.1) ∧ ((∃ f ∈ S.free, f.p = S.take.2.1) ∨ S.take.2.1 = S.pages) := by
  unfold PS.take at he ⊢
  cases ht : takeF S.free S.oldest with
  | some qm =>
    obtain ⟨q, m⟩ := qm
    obtain ⟨h1, ⟨f, hf, h2, _⟩, h3, _⟩ := takeF_mem h.sf ht
    exact ⟨fun g hg => (h3 g).1 hg, .inl ⟨f, hf, h2⟩⟩
  | none =>
    rw [ht] at he
    dsimp only at he ⊢
    split
    · rename_i h1; rw [if_pos h1] at he; exact absurd (show (82 : Int) = 0 from he) (by decide)
    · exact ⟨fun g hg => ⟨hg, by have := h.lt g hg; dsimp only; omega⟩, .inr rfl⟩
theorem take_ok {S : PS} (h : S.pages + 1 ≤ S.D.most) : S.take.2.2 = 0 := by
  unfold PS.take
  split
  · rfl
  · rw [if_neg (by omega)]
theorem new_ok {S : PS} {k : Nat} (h : PFit S k) {kind link : Int} {cells : List Bytes} (he : (S.page 0 kind link cells).err = 0) (ht : S.take.2.2 = 0) :
    S.new kind link cells = ({ S.take.1 with D := S.take.1.D.write S.take.2.1 (S.page S.take.2.1 kind link cells).bytes }, S.take.2.1, 0) ∧ (S.page S.take.2.1 kind link cells).err = 0 := by
  obtain ⟨t1, t2, t3⟩ := h.take
  obtain ⟨n1, n2⟩ := t2 ht
  have hp := t1.pg
  have hm := t1.most
  obtain ⟨e1, e2, e3⟩ := err_zero he
  have herr : (S.page S.take.2.1 kind link cells).err = 0 := by
    unfold PG.err fitsP
    obtain ⟨a1, a2, a3, a4, a5, a6, a7, a8⟩ := e3
    rw [if_pos, if_pos ⟨a1, a2, by show 0 ≤ S.take.2.1; omega, by show S.take.2.1 ≤ _; omega, a5, a6, a7, a8⟩]
    simp only [Bool.and_eq_true, decide_eq_true_eq, List.all_eq_true]
    exact ⟨e1, e2⟩
  have hw : S.take.1.write S.take.2.1 kind link cells = ({ S.take.1 with D := S.take.1.D.write S.take.2.1 (S.page S.take.2.1 kind link cells).bytes }, 0) := by
    have hpg : S.take.1.page S.take.2.1 kind link cells = S.page S.take.2.1 kind link cells := by unfold PS.page; rw [t3]
    unfold PS.write
    rw [hpg, if_pos herr]
  refine ⟨?_, herr⟩
  unfold PS.new
  rw [if_neg (fun h => h he), if_neg (fun h => h ht), hw, if_neg (fun h => h rfl)]
end Go.Lun

/- PagerCovers: pages in use, the chain's and the free ones, in plain words. -/
namespace Go.Lun
open Go.Proofs

def wo (l : List Int) (n : Int) : List Int := l.filter fun x => decide (x ≠ n)
theorem wo_mem {l : List Int} {n k : Int} : k ∈ wo l n ↔ k ∈ l ∧ k ≠ n := by unfold wo; rw [List.mem_filter]; simp
/-- Pages in use, the chain's, and free ones are all, each once. -/
structure Cov (fl : List FR) (ch us : List Int) (n : Int) : Prop where
  chn : ch.Nodup
  usn : us.Nodup
  d1 : ∀ f ∈ fl, f.p ∉ ch ∧ f.p ∉ us
  d2 : ∀ k ∈ ch, k ∉ us
  all : ∀ k, 2 ≤ k → k < n → (∃ f ∈ fl, f.p = k) ∨ k ∈ ch ∨ k ∈ us
  inn : ∀ k ∈ us, 2 ≤ k ∧ k < n
theorem Cov.put_us {fl : List FR} {ch us : List Int} {n no e : Int} (h : Cov fl ch us n) (hs : SF fl) (hno : no ∈ us) : Cov (putF fl no e) ch (wo us no) n where
  chn := h.chn
  usn := h.usn.filter _
  d1 := fun f hf => by
    rw [putF_ins] at hf
    rcases (ins_mem hs).1 hf with rfl | ⟨h1, h2⟩
    · exact ⟨fun hc => h.d2 _ hc hno, fun hc => (wo_mem.1 hc).2 rfl⟩
    · exact ⟨(h.d1 f h1).1, fun hc => (h.d1 f h1).2 (wo_mem.1 hc).1⟩
  d2 := fun k hk hc => h.d2 k hk (wo_mem.1 hc).1
  all := fun k h1 h2 => by
    by_cases hk : k = no
    · subst hk; exact .inl ⟨⟨k, e⟩, by rw [putF_ins]; exact (ins_mem hs).2 (.inl rfl), rfl⟩
    · rcases h.all k h1 h2 with ⟨f, hf, hp⟩ | hc | hu
      · exact .inl ⟨f, by rw [putF_ins]; exact (ins_mem hs).2 (.inr ⟨hf, by omega⟩), hp⟩
      · exact .inr (.inl hc)
      · exact .inr (.inr (wo_mem.2 ⟨hu, hk⟩))
  inn := fun k hk => h.inn k (wo_mem.1 hk).1
theorem Cov.put_ch {fl : List FR} {ch us : List Int} {n no e : Int} (h : Cov fl (no :: ch) us n) (hs : SF fl) : Cov (putF fl no e) ch us n where
  chn := (List.nodup_cons.1 h.chn).2
  usn := h.usn
  d1 := fun f hf => by
    rw [putF_ins] at hf
    rcases (ins_mem hs).1 hf with rfl | ⟨h1, h2⟩
    · exact ⟨(List.nodup_cons.1 h.chn).1, h.d2 no (by simp)⟩
    · exact ⟨fun hc => (h.d1 f h1).1 (List.mem_cons_of_mem _ hc), (h.d1 f h1).2⟩
  d2 := fun k hk => h.d2 k (List.mem_cons_of_mem _ hk)
  all := fun k h1 h2 => by
    by_cases hk : k = no
    · subst hk; exact .inl ⟨⟨k, e⟩, by rw [putF_ins]; exact (ins_mem hs).2 (.inl rfl), rfl⟩
    · rcases h.all k h1 h2 with ⟨f, hf, hp⟩ | hc | hu
      · exact .inl ⟨f, by rw [putF_ins]; exact (ins_mem hs).2 (.inr ⟨hf, by omega⟩), hp⟩
      · exact .inr (.inl ((List.mem_cons.1 hc).resolve_left hk))
      · exact .inr (.inr hu)
  inn := h.inn
theorem Cov.frs {S : PS} {us : List Int} {n : Int} (he : 0 ≤ S.x.e ∧ S.x.e ≤ 1000000) (hn : n ≤ 4096) : ∀ (l : List Int) (fl : List FR), (∀ no ∈ l, 2 ≤ no ∧ no < n) → SF fl → Cov fl l us n → Cov (l.foldl (fun l no => putF l no (S.x.e + 1)) fl) [] us n
  | [], _, _, _, h => h
  | no :: l, fl, hl, hs, h => by
    rw [List.foldl_cons]
    have := hl no (by simp)
    exact Cov.frs he hn l _ (fun x hx => hl x (List.mem_cons_of_mem _ hx)) (by rw [putF_ins]; exact ins_sf (by omega) (by omega) hs) (h.put_ch hs)

theorem take_eq {S : PS} {k : Nat} (h : PFit S k) (he : S.take.2.2 = 0) :
    (∀ g, g ∈ S.take.1.free → g ∈ S.free ∧ g.p ≠ S.take.2.1) ∧ (∀ g, g ∈ S.free → g.p ≠ S.take.2.1 → g ∈ S.take.1.free) ∧ ((∃ f ∈ S.free, f.p = S.take.2.1) ∨ S.take.2.1 = S.pages) ∧ (∀ k, k < S.take.1.pages → k < S.pages ∨ k = S.take.2.1) ∧ S.pages ≤ S.take.1.pages := by
  have hle := take_up S
  obtain ⟨f1, f2⟩ := take_free h he
  refine ⟨f1, ?_, f2, ?_, hle.1⟩
  · unfold PS.take
    cases ht : takeF S.free S.oldest with
    | some qm =>
      obtain ⟨q, m⟩ := qm
      obtain ⟨h1, _, h3, _⟩ := takeF_mem h.sf ht
      exact fun g hg hne => (h3 g).2 ⟨hg, hne⟩
    | none =>
      dsimp only
      split
      · exact fun g hg _ => hg
      · exact fun g hg _ => hg
  · unfold PS.take
    cases ht : takeF S.free S.oldest with
    | some qm => exact fun k hk => .inl hk
    | none =>
      dsimp only
      split
      · exact fun k hk => .inl hk
      · intro k hk
        have hk : k < S.pages + 1 := hk
        dsimp only; omega
theorem Cov.took {S : PS} {k : Nat} {us : List Int} (h : Cov S.free S.chain us S.pages) (hf : PFit S k) (hc : CFit S) (he : S.take.2.2 = 0) :
    Cov S.take.1.free S.chain (us ++ [S.take.2.1]) S.take.1.pages ∧ Cov S.take.1.free (S.chain ++ [S.take.2.1]) us S.take.1.pages := by
  obtain ⟨t1, t2, t3⟩ := hf.take
  obtain ⟨n1, n2⟩ := t2 he
  obtain ⟨e1, e2, e3, e4, e5⟩ := take_eq hf he
  have hnu : S.take.2.1 ∉ us := fun hn => by
    rcases e3 with ⟨f, hf, hp⟩ | hp
    · rw [← hp] at hn; exact (h.d1 f hf).2 hn
    · have := (h.inn _ hn).2; omega
  have hnc : S.take.2.1 ∉ S.chain := fun hn => by
    rcases e3 with ⟨f, hf, hp⟩ | hp
    · rw [← hp] at hn; exact (h.d1 f hf).1 hn
    · have := (hc.ok _ hn).2; omega
  have hall : ∀ k, 2 ≤ k → k < S.take.1.pages → (∃ f ∈ S.take.1.free, f.p = k) ∨ k ∈ S.chain ∨ k ∈ us ∨ k = S.take.2.1 := fun k k1 k2 => by
    by_cases hk : k = S.take.2.1
    · exact .inr (.inr (.inr hk))
    · rcases e4 k k2 with k3 | k3
      · rcases h.all k k1 k3 with ⟨f, hf, hp⟩ | hh | hh
        · exact .inl ⟨f, e2 f hf (by omega), hp⟩
        · exact .inr (.inl hh)
        · exact .inr (.inr (.inl hh))
      · exact absurd k3 hk
  refine ⟨⟨h.chn, ?_, ?_, ?_, ?_, ?_⟩, ⟨?_, h.usn, ?_, ?_, ?_, ?_⟩⟩
  · exact List.nodup_append.2 ⟨h.usn, by simp, fun a ha b hb hab => by rw [List.mem_singleton] at hb; subst hb; subst hab; exact hnu ha⟩
  · intro f hf
    have := e1 f hf
    exact ⟨(h.d1 f this.1).1, fun hu => by
      rcases List.mem_append.1 hu with hu | hu
      · exact (h.d1 f this.1).2 hu
      · rw [List.mem_singleton] at hu; exact this.2 hu⟩
  · intro k hk hu
    rcases List.mem_append.1 hu with hu | hu
    · exact h.d2 k hk hu
    · rw [List.mem_singleton] at hu; subst hu; exact hnc hk
  · intro k k1 k2
    rcases hall k k1 k2 with hh | hh | hh | hh
    · exact .inl hh
    · exact .inr (.inl hh)
    · exact .inr (.inr (List.mem_append_left _ hh))
    · exact .inr (.inr (List.mem_append_right _ (by rw [hh]; simp)))
  · intro k hk
    rcases List.mem_append.1 hk with hk | hk
    · have := h.inn k hk; omega
    · rw [List.mem_singleton] at hk; subst hk; exact ⟨n1, n2⟩
  · exact List.nodup_append.2 ⟨h.chn, by simp, fun a ha b hb hab => by rw [List.mem_singleton] at hb; subst hb; subst hab; exact hnc ha⟩
  · intro f hf
    have := e1 f hf
    exact ⟨fun hu => by
      rcases List.mem_append.1 hu with hu | hu
      · exact (h.d1 f this.1).1 hu
      · rw [List.mem_singleton] at hu; exact this.2 hu, (h.d1 f this.1).2⟩
  · intro k hk
    rcases List.mem_append.1 hk with hk | hk
    · exact h.d2 k hk
    · rw [List.mem_singleton] at hk; subst hk; exact hnu
  · intro k k1 k2
    rcases hall k k1 k2 with hh | hh | hh | hh
    · exact .inl hh
    · exact .inr (.inl (List.mem_append_left _ hh))
    · exact .inr (.inr hh)
    · exact .inr (.inl (List.mem_append_right _ (by rw [hh]; simp)))
  · intro k hk; have := h.inn k hk; omega

theorem take_err (S : PS) : S.take.2.2 = 0 ∨ S.take.2.2 = 82 := by
  unfold PS.take
  split
  · exact .inl rfl
  · split
    · exact .inr rfl
    · exact .inl rfl
theorem lay_cov {k : Nat} {us : List Int} (S : PS) (h : PFit S k) (hc : CFit S) (hv : Cov S.free S.chain us S.pages) :
    (S.lay.2 = 0 ∧ Cov S.lay.1.free S.lay.1.chain us S.lay.1.pages) ∨ S.lay.2 = 82 := by
  rw [PS.lay]
  split
  · rename_i hm
    split
    · rename_i he
      rcases take_err S with h1 | h1
      · exact absurd h1 he
      · exact .inr h1
    · rename_i he
      have he : S.take.2.2 = 0 := by simpa using he
      obtain ⟨h1, h2⟩ := h.link hc he hm
      have hv2 := (hv.took h hc he).2
      rw [← (take_len S).2] at hv2
      exact lay_cov S.link h1 h2 hv2
  · exact .inl ⟨rfl, hv⟩
termination_by S.free.length - S.chain.length * 23
decreasing_by
  have := take_len S
  simp only [PS.link, List.length_append, List.length_cons, List.length_nil, this.2]
  omega
theorem relay_cov {S : PS} {k : Nat} {us : List Int} (h : PFit S k) (hc : CFit S) (hv : Cov S.free S.chain us S.pages) :
    (S.relay.2 = 0 ∧ Cov S.relay.1.free S.relay.1.chain us S.relay.1.pages) ∨ S.relay.2 = 82 := by
  obtain ⟨h1, h2⟩ := h.freed hc
  have hp := h.pg
  have hm := h.most
  have hv1 : Cov S.freed.free S.freed.chain us S.freed.pages := Cov.frs h.e (n := S.pages) (by omega) S.chain S.free hc.ok h.sf hv
  unfold PS.relay
  rcases lay_cov S.freed h1 h2 hv1 with ⟨e1, e2⟩ | e1
  · rw [if_neg (fun h => h e1)]
    obtain ⟨w1, w2, w3⟩ := wr_eq S.freed.lay.1 S.freed.lay.1.chain.length
    exact .inl ⟨rfl, by dsimp only; rw [w1.chain, w2, w3]; exact e2⟩
  · rw [if_pos (by rw [e1]; decide)]
    exact .inr e1

/-- What holds of the pages, now and at the last telling. -/
structure CV (S : PS) (us ks : List Int) : Prop where
  now : Cov S.free S.chain us S.pages
  old : Cov S.lfree S.lchain ks S.lpages
theorem CV.same {S T : PS} {us vs ks : List Int} (h : CV S us ks) (hs : Same S T) (hv : Cov T.free S.chain vs T.pages) : CV T vs ks :=
  ⟨by rw [hs.chain]; exact hv, by rw [hs.lfree, hs.lchain, hs.lpages]; exact h.old⟩
theorem new_cov {S : PS} {k : Nat} {us : List Int} (h : PFit S k) (hc : CFit S) (hv : Cov S.free S.chain us S.pages) (kind link : Int) (cells : List Bytes) :
    ((S.new kind link cells).2.2 ≠ 0 ∧ Cov (S.new kind link cells).1.free S.chain us (S.new kind link cells).1.pages) ∨
      ((S.new kind link cells).2.2 = 0 ∧ S.take.2.2 = 0 ∧ (S.new kind link cells).2.1 = S.take.2.1 ∧ (S.new kind link cells).1.free = S.take.1.free ∧ (S.new kind link cells).1.pages = S.take.1.pages ∧ Cov (S.new kind link cells).1.free S.chain (us ++ [(S.new kind link cells).2.1]) (S.new kind link cells).1.pages) := by
  by_cases he : (S.page 0 kind link cells).err = 0
  · rcases take_err S with ht | ht
    · obtain ⟨e1, _⟩ := new_ok h he ht
      rw [e1]
      exact .inr ⟨rfl, ht, rfl, rfl, rfl, (hv.took h hc ht).1⟩
    · left
      have e1 : S.new kind link cells = (S.take.1, 0, S.take.2.2) := by unfold PS.new; rw [if_neg (fun h => h he), if_pos (by rw [ht]; decide)]
      rw [e1, take_none S (by rw [ht]; decide)]
      exact ⟨by show S.take.2.2 ≠ 0; rw [ht]; decide, hv⟩
  · left
    have e1 : S.new kind link cells = (S, 0, (S.page 0 kind link cells).err) := by unfold PS.new; rw [if_pos he]
    rw [e1]
    exact ⟨he, hv⟩
theorem there_iff {S : PS} {no : Int} : S.there no = true ↔ (2 ≤ no ∧ no < S.pages) ∧ ∀ f ∈ S.free, f.p ≠ no := by
  unfold PS.there
  simp
theorem Cov.at {fl : List FR} {ch us : List Int} {n no : Int} (h : Cov fl ch us n) (h1 : 2 ≤ no ∧ no < n) (h2 : ∀ f ∈ fl, f.p ≠ no) (h3 : no ∉ ch) : no ∈ us := by
  rcases h.all no h1.1 h1.2 with ⟨f, hf, hp⟩ | hh | hh
  · exact absurd hp (h2 f hf)
  · exact absurd hh h3
  · exact hh
theorem drop_cov {S : PS} {k : Nat} {us : List Int} (h : PFit S k) (hv : Cov S.free S.chain us S.pages) {no : Int} (hn : no ∉ S.chain) :
    ((S.drop no).2 = 81 ∧ (S.drop no).1 = S) ∨ ((S.drop no).2 = 0 ∧ no ∈ us ∧ Cov (S.drop no).1.free S.chain (wo us no) (S.drop no).1.pages) := by
  unfold PS.drop
  by_cases ht : S.there no = true
  · rw [if_pos ht]
    have ht := there_iff.1 ht
    have hu := hv.at ht.1 ht.2 hn
    right
    split <;> exact ⟨rfl, hu, hv.put_us h.sf hu⟩
  · rw [if_neg ht]; exact .inl ⟨rfl, rfl⟩
theorem Cov.perm {fl : List FR} {ch us vs : List Int} {n : Int} (h : Cov fl ch us n) (hp : us.Perm vs) : Cov fl ch vs n :=
  ⟨h.chn, hp.nodup_iff.1 h.usn, fun f hf => ⟨(h.d1 f hf).1, fun hv => (h.d1 f hf).2 (hp.mem_iff.2 hv)⟩, fun k hk hv => h.d2 k hk (hp.mem_iff.2 hv), fun k h1 h2 => by
    rcases h.all k h1 h2 with hh | hh | hh
    · exact .inl hh
    · exact .inr (.inl hh)
    · exact .inr (.inr (hp.mem_iff.1 hh)), fun k hk => h.inn k (hp.mem_iff.2 hk)⟩
theorem wo_back {us : List Int} {no : Int} (hn : us.Nodup) (h : no ∈ us) : us.Perm (wo us no ++ [no]) := by
  have h2 : (wo us no ++ [no]).Nodup := List.nodup_append.2 ⟨hn.filter _, by simp, fun a ha b hb hab => by rw [List.mem_singleton] at hb; subst hb; subst hab; exact (wo_mem.1 ha).2 rfl⟩
  rw [List.perm_ext_iff_of_nodup hn h2]
  intro a
  rw [List.mem_append, wo_mem, List.mem_singleton]
  constructor
  · intro ha
    by_cases hh : a = no
    · exact .inr hh
    · exact .inl ⟨ha, hh⟩
  · rintro (ha | rfl)
    · exact ha.1
    · exact h
theorem change_cov {S : PS} {k : Nat} {us : List Int} (h : PFit S k) (hc : CFit S) (hv : Cov S.free S.chain us S.pages) (no kind link : Int) (cells : List Bytes) (hn : no ∉ S.chain) :
    ((S.change no kind link cells).2.2 ≠ 0 ∧ Cov (S.change no kind link cells).1.free S.chain us (S.change no kind link cells).1.pages) ∨
      ((S.change no kind link cells).2.2 = 0 ∧ Cov (S.change no kind link cells).1.free S.chain (wo us no ++ [(S.change no kind link cells).2.1]) (S.change no kind link cells).1.pages) := by
  unfold PS.change
  by_cases ht : S.there no = true
  · rw [if_pos ht]
    have ht := there_iff.1 ht
    have hu := hv.at ht.1 ht.2 hn
    have hw : ∀ T : PS × Int, T = S.write no kind link cells → T.1.free = S.free ∧ T.1.pages = S.pages := fun T hT => by
      subst hT; unfold PS.write; split <;> exact ⟨rfl, rfl⟩
    obtain ⟨w1, w2⟩ := hw _ rfl
    cases hfr : S.fresh no with
    | some v =>
      dsimp only
      split
      · rename_i h1
        exact .inl ⟨h1, by dsimp only; rw [w1, w2]; exact hv⟩
      · exact .inr ⟨rfl, by dsimp only; rw [w1, w2]; exact hv.perm (wo_back hv.usn hu)⟩
    | none =>
      dsimp only
      rcases new_cov h hc hv kind link cells with ⟨e1, e2⟩ | ⟨e1, e2, e3, e4, e5, e6⟩
      · rw [if_pos e1]; exact .inl ⟨e1, e2⟩
      · rw [if_neg (fun h => h e1)]
        dsimp only
        have hnf := h.new kind link cells
        have hch := (same_new S kind link cells).chain
        obtain ⟨f1, f2, f3, f4, f5⟩ := take_eq h e2
        have hth : (S.new kind link cells).1.there no = true := there_iff.2 ⟨⟨ht.1.1, by rw [e5]; omega⟩, fun f hf => by rw [e4] at hf; exact ht.2 f (f1 f hf).1⟩
        have hne : no ≠ S.take.2.1 := fun hh => by
          have := (h.take.2.1 e2)
          rcases f3 with ⟨f, hf, hp⟩ | hp
          · exact ht.2 f hf (by omega)
          · omega
        rw [← hch] at e6
        rcases drop_cov hnf e6 (no := no) (by rw [hch]; exact hn) with ⟨d1, _⟩ | ⟨d1, _, d3⟩
        · exfalso
          unfold PS.drop at d1
          rw [if_pos hth] at d1
          split at d1
          · exact absurd (show (0 : Int) = 81 from d1) (by decide)
          · exact absurd (show (0 : Int) = 81 from d1) (by decide)
        · refine .inr ⟨d1, ?_⟩
          rw [hch] at d3
          have hwo : wo (us ++ [(S.new kind link cells).2.1]) no = wo us no ++ [(S.new kind link cells).2.1] := by
            unfold wo
            rw [List.filter_append]
            congr 1
            rw [List.filter_cons_of_pos (by rw [e3]; simpa using Ne.symm hne)]; rfl
          rw [hwo] at d3
          exact d3
  · rw [if_neg ht]
    exact .inl ⟨by show (81 : Int) ≠ 0; decide, hv⟩
theorem abort_cov {S : PS} {us ks : List Int} (h : CV S us ks) : CV S.abort ks ks := ⟨h.old, h.old⟩
theorem commit_cov {S : PS} {k : Nat} {us ks : List Int} (h : PFit S k) (hc : CFit S) (hl : LFit S) (hv : CV S us ks) (root : Int) :
    ((S.commit root).2 = 0 ∧ CV (S.commit root).1 us us) ∨ ((S.commit root).2 = 81 ∧ CV (S.commit root).1 us ks) ∨ ((S.commit root).2 = 82 ∧ CV (S.commit root).1 ks ks) := by
  obtain ⟨r1, r2, r3, r4, r5, r6⟩ := relay_fit h hc
  unfold PS.commit
  split
  · exact .inr (.inl ⟨rfl, hv⟩)
  · rcases relay_cov h hc hv.now with ⟨e1, e2⟩ | e1
    · rw [if_neg (fun h => h e1)]
      exact .inl ⟨rfl, ⟨e2, e2⟩⟩
    · rw [if_pos (by rw [e1]; decide)]
      refine .inr (.inr ⟨e1, ?_⟩)
      have ho : Cov S.relay.1.lfree S.relay.1.lchain ks S.relay.1.lpages := by rw [r6.lfree, r6.lchain, r6.lpages]; exact hv.old
      exact ⟨ho, ho⟩

/-- Pages in use behind an act, and what is kept of them. -/
def nextU (x : AP) (no e : Int) (us ks : List Int) : List Int × List Int :=
  if e ≠ 0 ∧ x.kind ≠ 3 then (us, ks)
  else if x.kind = 0 then (us ++ [no], ks)
  else if x.kind = 1 then (wo us x.no ++ [no], ks)
  else if x.kind = 2 then (wo us x.no, ks)
  else if x.kind = 3 ∧ e = 0 then (us, us)
  else if x.kind = 4 ∨ x.kind = 3 ∧ e ≠ 81 then (ks, ks)
  else (us, ks)
theorem CV.act {S : PS} {n : Nat} {us ks : List Int} (h : CV S us ks) (hf : AFit S n) (x : AP) (hb : x.kind = 1 ∨ x.kind = 2 → x.no ∉ (S.act x).1.chain) :
    CV (S.act x).1 (nextU x (S.act x).2.1 (S.act x).2.2 us ks).1 (nextU x (S.act x).2.1 (S.act x).2.2 us ks).2 := by
  unfold nextU
  by_cases k0 : x.kind = 0
  · have ha : S.act x = S.new x.of_ x.link x.cells := by unfold PS.act; rw [if_pos k0]
    rw [ha]
    have hs := same_new S x.of_ x.link x.cells
    rcases new_cov hf.pf hf.cf h.now x.of_ x.link x.cells with ⟨e1, e2⟩ | ⟨e1, _, _, _, _, e2⟩
    · rw [if_pos ⟨e1, by omega⟩]; exact h.same hs e2
    · rw [if_neg (fun h => h.1 e1), if_pos k0]; exact h.same hs e2
  by_cases k1 : x.kind = 1
  · have ha : S.act x = S.change x.no x.of_ x.link x.cells := by unfold PS.act; rw [if_neg k0, if_pos k1]
    have hs := same_change S x.no x.of_ x.link x.cells
    have hb := hb (.inl k1)
    rw [ha] at hb ⊢
    rw [hs.chain] at hb
    rcases change_cov hf.pf hf.cf h.now x.no x.of_ x.link x.cells hb with ⟨e1, e2⟩ | ⟨e1, e2⟩
    · rw [if_pos ⟨e1, by omega⟩]; exact h.same hs e2
    · rw [if_neg (fun h => h.1 e1), if_neg k0, if_pos k1]; exact h.same hs e2
  by_cases k2 : x.kind = 2
  · have ha : S.act x = ((S.drop x.no).1, 0, (S.drop x.no).2) := by unfold PS.act; rw [if_neg k0, if_neg k1, if_pos k2]
    have hs := same_drop S x.no
    have hb := hb (.inr k2)
    rw [ha] at hb ⊢
    dsimp only at hb ⊢
    rw [hs.chain] at hb
    rcases drop_cov hf.pf h.now hb with ⟨e1, e2⟩ | ⟨e1, _, e2⟩
    · rw [if_pos ⟨by rw [e1]; decide, by omega⟩, e2]; exact h
    · rw [if_neg (fun h => h.1 e1), if_neg k0, if_neg k1, if_pos k2]; exact h.same hs e2
  by_cases k3 : x.kind = 3
  · have ha : S.act x = ((S.commit x.root).1, 0, (S.commit x.root).2) := by unfold PS.act; rw [if_neg k0, if_neg k1, if_neg k2, if_pos k3]
    rw [ha]
    dsimp only
    rw [if_neg (fun h => h.2 k3), if_neg k0, if_neg k1, if_neg k2]
    rcases commit_cov hf.pf hf.cf hf.lf h x.root with ⟨e1, e2⟩ | ⟨e1, e2⟩ | ⟨e1, e2⟩
    · rw [if_pos ⟨k3, e1⟩]; exact e2
    · rw [if_neg (fun h => by rw [e1] at h; exact absurd h.2 (by decide)), if_neg (fun h => by
        rcases h with h | h
        · omega
        · exact h.2 e1)]; exact e2
    · rw [if_neg (fun h => by rw [e1] at h; exact absurd h.2 (by decide)), if_pos (.inr ⟨k3, by rw [e1]; decide⟩)]; exact e2
  by_cases k4 : x.kind = 4
  · have ha : S.act x = (S.abort, 0, 0) := by unfold PS.act; rw [if_neg k0, if_neg k1, if_neg k2, if_neg k3, if_pos k4]
    rw [ha]
    dsimp only
    rw [if_neg (fun h => h.1 rfl), if_neg k0, if_neg k1, if_neg k2, if_neg (fun h => k3 h.1), if_pos (.inl k4)]
    exact abort_cov h
  have ha : S.act x = (S.old x.epoch, 0, 0) ∨ S.act x = (S, 0, 0) := by
    unfold PS.act
    rw [if_neg k0, if_neg k1, if_neg k2, if_neg k3, if_neg k4]
    split
    · exact .inl rfl
    · exact .inr rfl
  have hgo : ∀ no : Int, (if (0 : Int) ≠ 0 ∧ x.kind ≠ 3 then (us, ks) else if x.kind = 0 then (us ++ [no], ks) else if x.kind = 1 then (wo us x.no ++ [no], ks) else if x.kind = 2 then (wo us x.no, ks) else if x.kind = 3 ∧ (0 : Int) = 0 then (us, us) else if x.kind = 4 ∨ x.kind = 3 ∧ (0 : Int) ≠ 81 then (ks, ks) else (us, ks)) = (us, ks) := fun no => by
    rw [if_neg (fun h => h.1 rfl), if_neg k0, if_neg k1, if_neg k2, if_neg (fun h => k3 h.1), if_neg (fun h => h.elim k4 fun h => k3 h.1)]
  rcases ha with ha | ha
  · rw [ha]; dsimp only; rw [hgo]; exact ⟨h.now, h.old⟩
  · rw [ha]; dsimp only; rw [hgo]; exact h

/-- As many as there are numbers. -/
theorem Cov.cover {fl : List FR} {ch us : List Int} {n : Int} (h : Cov fl ch us n) (hs : SF fl) (hl : ∀ f ∈ fl, f.p < n) (hc : ∀ k ∈ ch, 2 ≤ k ∧ k < n) : coverF (fl.map FR.p ++ (us ++ ch)) n := by
  have h1 : (fl.map FR.p).Nodup := by
    have : (fl.map FR.p).Pairwise fun a b => a < b := List.pairwise_map.2 hs.rise
    exact this.imp fun h => by omega
  have h2 : (fl.map FR.p ++ (us ++ ch)).Nodup := by
    refine List.nodup_append.2 ⟨h1, List.nodup_append.2 ⟨h.usn, h.chn, fun a ha b hb hab => ?_⟩, fun a ha b hb hab => ?_⟩
    · subst hab; exact h.d2 a hb ha
    · subst hab
      obtain ⟨f, hf, rfl⟩ := List.mem_map.1 ha
      rcases List.mem_append.1 hb with hb | hb
      · exact (h.d1 f hf).2 hb
      · exact (h.d1 f hf).1 hb
  have h3 : ∀ k ∈ fl.map FR.p ++ (us ++ ch), 2 ≤ k ∧ k < n := fun k hk => by
    rcases List.mem_append.1 hk with hk | hk
    · obtain ⟨f, hf, rfl⟩ := List.mem_map.1 hk
      exact ⟨(hs.all f hf).1, hl f hf⟩
    · rcases List.mem_append.1 hk with hk | hk
      · exact h.inn k hk
      · exact hc k hk
  refine ⟨h2, h3, ?_⟩
  have h4 : ((List.range (n - 2).toNat).map fun i : Nat => (i : Int) + 2).Nodup := by
    refine List.pairwise_map.2 (List.nodup_range.imp fun hab hh => hab ?_)
    omega
  have h5 : (fl.map FR.p ++ (us ++ ch)).Perm ((List.range (n - 2).toNat).map fun i : Nat => (i : Int) + 2) := by
    rw [List.perm_ext_iff_of_nodup h2 h4]
    intro a
    rw [List.mem_map]
    constructor
    · intro ha
      have := h3 a ha
      exact ⟨(a - 2).toNat, by rw [List.mem_range]; omega, by omega⟩
    · rintro ⟨i, hi, rfl⟩
      rw [List.mem_range] at hi
      rcases h.all ((i : Int) + 2) (by omega) (by omega) with ⟨f, hf, hp⟩ | hh | hh
      · exact List.mem_append_left _ (List.mem_map.2 ⟨f, hf, hp⟩)
      · exact List.mem_append_right _ (List.mem_append_right _ hh)
      · exact List.mem_append_right _ (List.mem_append_left _ hh)
  rw [h5.length_eq, List.length_map, List.length_range]
  omega
end Go.Lun

/- lunettelaw08.without; how many pages are in use. -/
namespace Go.Lun
open Go.Proofs

theorem wo_snoc {l : List Int} {i : Nat} {z n : Int} (h : l[i]? = some z) : wo (l.take (i + 1)) n = if z = n then wo (l.take i) n else wo (l.take i) n ++ [z] := by
  unfold wo
  rw [take_snoc' h, List.filter_append]
  by_cases hz : z = n
  · rw [if_pos hz, List.filter_cons_of_neg (by simp [hz])]; simp
  · rw [if_neg hz, List.filter_cons_of_pos (by simp [hz])]; rfl

set_option maxHeartbeats 3200000 in
theorem without_f (q : Bool) (a : Option Addr) (cap : Nat) (l : List Int) (n : Int) (hl : l.length ≤ 100000) : Fn Tryz.prog 35 [.slice a l.length cap, .int .i64 n] [RowA q intC 1 a l]
    (fun v L => ∃ a' cap', v = .slice a' (wo l n).length cap' ∧ L = [Sl 3 1 a' (wo l n).length cap' ((wo l n).flatMap intC), RowA q intC 1 a l]) := by
  refine fn_start Tryz.func35 rfl rfl rfl fun F => ?_
  refine c_seq ?_
  refine c_region ?_
  refine o_y (y_assign rfl) rfl ?_
  refine o_nil ?_
  refine f_seq ?_
  refine c_seq ?_
  refine c_region ?_
  refine o_buildSlice rfl rfl rfl rfl rfl (fun nb => ?_)
  refine o_y (y_assign rfl) rfl ?_
  refine o_nil ?_
  refine f_seq ?_
  refine c_ent (Ent.put (A := Sl 3 1 (some ⟨nb, 0, none⟩) 0 0 []) (P := [Blk nb (.cells ⟨[]⟩ 3 (0, 0))]) (by repeat (first | with_reducible exact Takes.nil | (apply Takes.cons; focus (repeat (first | with_reducible exact Rem.here | apply Rem.there))))) (Sl.shut_zero' nb) (Ent.refl _)) ?_
  refine c_seq ?_
  refine c_seq ?_
  refine c_region ?_
  refine o_y (y_assign rfl) rfl ?_
  refine o_nil ?_
  refine f_seq ?_
  refine c_block ?_
  refine c_loop_inv (X := Nat × Option Addr × Nat) (fun x => x.1 ≤ l.length) (fun x => l.length - x.1)
    (fun x => [Sl 3 1 x.2.1 (wo (l.take x.1) n).length x.2.2 ((wo (l.take x.1) n).flatMap intC), RowA q intC 1 a l])
    (fun x => [(0, .slice a l.length cap), (1, .int .i64 n), (5, .slice x.2.1 (wo (l.take x.1) n).length x.2.2), (6, .int .i64 (x.1 : Int))]) (0, some ⟨nb, 0, none⟩, 0) (Nat.zero_le _) (by dsimp only; rw [List.take_zero, show wo [] n = [] from rfl]; simp only [List.length_nil, List.flatMap_nil]; repeat (first | with_reducible exact Ent.nil | (apply Ent.one; focus (repeat (first | with_reducible exact Rem.here | apply Rem.there))))) (by repeat (first | exact trivial | refine ⟨rfl, ?_⟩)) ?_
  rintro ⟨i, oa, oc⟩ hi ih
  dsimp only at hi ih ⊢
  by_cases hlt : i < l.length
  case neg =>
    clear ih
    rw [List.take_of_length_le (by omega)]
    refine c_seq ?_
    refine c_seq ?_
    refine c_region ?_
    refine o_y (y_move rfl) rfl ?_
    refine o_y (y_move rfl) rfl ?_
    refine o_y (y_len_slice rfl) rfl ?_
    refine o_y (y_lss_f rfl rfl (by omega)) rfl ?_
    refine o_nil ?_
    refine f_seq ?_
    refine c_false rfl ?_
    refine c_exit ?_
    refine f_seq_exit ?_
    refine f_seq_exit ?_
    refine f_block_here ?_
    refine f_seq ?_
    refine c_seq ?_
    refine c_region ?_
    refine o_y (y_move rfl) rfl ?_
    refine o_y (y_assign rfl) rfl ?_
    refine o_nil ?_
    refine f_seq ?_
    refine c_ret ?_
    exact f_ent (by repeat (first | with_reducible exact Ent.nil | (apply Ent.one; focus (repeat (first | with_reducible exact Rem.here | apply Rem.there))))) (f_ret rfl ⟨oa, oc, rfl, rfl⟩)
  obtain ⟨z, hz⟩ : ∃ z, l[i]? = some z := ⟨_, List.getElem?_eq_getElem hlt⟩
  have hne : l ≠ [] := by intro h; rw [h] at hlt; exact absurd hlt (by simp)
  have hsn := wo_snoc (n := n) hz
  have hwl : (wo (l.take i) n).length ≤ 100000 := Nat.le_trans (List.length_filter_le _ _) (by rw [List.length_take]; omega)
  generalize wo (l.take i) n = w at *
  refine c_open (A := RowA q intC 1 a l) (h := RowA.opens (f := intC) hne) (by repeat (first | with_reducible exact Rem.here | apply Rem.there)) (fun y hy2 => ?_)
  obtain ⟨kb, ko, cs, T, fz⟩ := y
  obtain ⟨e1, e2⟩ := hy2
  dsimp only at e1 e2
  subst e1
  have hg1 := int_get e2 hz
  simp only [List.append_eq, List.cons_append, List.nil_append, List.append_nil, tup]
  refine c_seq ?_
  refine c_seq ?_
  refine c_region ?_
  refine o_y (y_move rfl) rfl ?_
  refine o_y (y_move rfl) rfl ?_
  refine o_y (y_len_slice rfl) rfl ?_
  refine o_y (y_lss_t rfl rfl (by omega)) rfl ?_
  refine o_nil ?_
  refine f_seq ?_
  refine c_true rfl ?_
  refine c_skip ?_
  refine f_seq ?_
  refine c_seq ?_
  refine c_block ?_
  refine c_seq ?_
  refine c_region ?_
  refine o_y (y_move rfl) rfl ?_
  refine o_y (y_move rfl) rfl ?_
  refine o_y (y_indexAddr i rfl rfl rfl hlt) rfl ?_
  refine o_y (y_load rfl rfl hg1) rfl ?_
  by_cases hzn : z = n
  · rw [if_pos hzn] at hsn
    refine o_y (y_move rfl) rfl ?_
    refine o_y (y_neq_f rfl rfl (by omega)) rfl ?_
    refine o_nil ?_
    refine f_seq ?_
    refine c_false rfl ?_
    refine c_skip ?_
    refine f_block ?_
    refine f_seq ?_
    refine c_region ?_
    refine o_y (y_move rfl) rfl ?_
    refine o_y (y_arith64 rfl rfl rfl (by omega)) rfl ?_
    refine o_y (y_assign rfl) rfl ?_
    refine o_nil ?_
    refine f_next ?_ ?_ (ih (i + 1, oa, oc) hlt (by dsimp only; omega))
    · dsimp only
      rw [hsn]
      exact Ent.one (by repeat (first | with_reducible exact Rem.here | apply Rem.there)) (Ent.put (P := [Bkp q kb (.cells ⟨cs⟩ T fz)]) (by repeat (first | with_reducible exact Takes.nil | (apply Takes.cons; focus (repeat (first | with_reducible exact Rem.here | apply Rem.there))))) (RowA.shut rfl e2) (by repeat (first | with_reducible exact Ent.nil | (apply Ent.one; focus (repeat (first | with_reducible exact Rem.here | apply Rem.there))))))
    · dsimp only
      rw [hsn]
      repeat (first | exact trivial | refine ⟨rfl, ?_⟩)
  · rw [if_neg hzn] at hsn
    refine o_y (y_move rfl) rfl ?_
    refine o_y (y_neq_t rfl rfl (by omega)) rfl ?_
    refine o_nil ?_
    refine f_seq ?_
    refine c_true rfl ?_
    refine c_region ?_
    refine o_y (y_move rfl) rfl ?_
    refine o_y (y_move rfl) rfl ?_
    refine o_y (y_move rfl) rfl ?_
    refine o_y (y_indexAddr i rfl rfl rfl hlt) rfl ?_
    refine o_y (y_load rfl rfl hg1) rfl ?_
    refine o_buildSlice rfl rfl rfl rfl rfl (fun nb => ?_)
    refine o_append (k := 1) (ys := [.int .i64 z]) rfl rfl (Src.slice rfl) (by repeat (first | with_reducible exact Rem.here | apply Rem.there)) (by simp [Value.oneCell']) (by omega) rfl (by omega) rfl (fun a2 c2 => ?_)
    refine o_y (y_assign rfl) rfl ?_
    refine o_nil ?_
    refine f_block ?_
    refine f_seq ?_
    refine c_region ?_
    refine o_y (y_move rfl) rfl ?_
    refine o_y (y_arith64 rfl rfl rfl (by omega)) rfl ?_
    refine o_y (y_assign rfl) rfl ?_
    refine o_nil ?_
    have el : (wo (l.take (i + 1)) n).length = w.length + 1 := by rw [hsn, List.length_append]; rfl
    refine f_next ?_ ?_ (ih (i + 1, a2, c2) hlt (by dsimp only; omega))
    · dsimp only
      rw [el, hsn, List.flatMap_append, show List.flatMap intC [z] = [.int .i64 z] from rfl]
      exact Ent.one (by repeat (first | with_reducible exact Rem.here | apply Rem.there)) (Ent.put (P := [Bkp q kb (.cells ⟨cs⟩ T fz)]) (by repeat (first | with_reducible exact Takes.nil | (apply Takes.cons; focus (repeat (first | with_reducible exact Rem.here | apply Rem.there))))) (RowA.shut rfl e2) (by repeat (first | with_reducible exact Ent.nil | (apply Ent.one; focus (repeat (first | with_reducible exact Rem.here | apply Rem.there))))))
    · dsimp only
      rw [el]
      repeat (first | exact trivial | refine ⟨rfl, ?_⟩)

theorem Cov.len {S : PS} {k : Nat} {us : List Int} (h : Cov S.free S.chain us S.pages) (hf : PFit S k) (hc : CFit S) : us.length ≤ 4096 := by
  have h1 := (h.cover hf.sf hf.lt hc.ok).2.2
  rw [List.length_append, List.length_append] at h1
  have h2 := hf.pg
  have h3 := hf.most
  omega
theorem begin_cov (most : Int) : CV (PS.begin most) [] [] := by
  have h : Cov [] [] [] 2 := ⟨by simp, by simp, by simp, by simp, fun k h1 h2 => by omega, by simp⟩
  exact ⟨h, h⟩
end Go.Lun

/- PagerCovers, walked. -/
namespace Go.Lun
open Go.Proofs

set_option maxHeartbeats 51200000 in
theorem covers_f (a0 : Option Addr) (c0 : Nat) (xs : List AP) :
    Fn Tryz.prog 7 [.slice a0 xs.length c0] (Acts a0 xs) (fun v L => v = .bool true ∧ L = []) := by
  refine fn_start Tryz.func7 rfl rfl rfl fun F => ?_
  have f0 := fresh_fit 60 (by decide)
  have v0 := begin_cov 60
  unfold Acts
  refine c_seq ?_
  refine c_region ?_
  refine o_y (y_assign rfl) rfl ?_
  refine o_nil ?_
  refine f_seq ?_
  refine c_seq ?_
  refine c_region ?_
  refine o_call rfl (fresh8_f 60 (by decide)) (by repeat (first | with_reducible exact Takes.nil | (apply Takes.cons; focus (repeat (first | with_reducible exact Rem.here | apply Rem.there))))) rfl ?_
  generalize PS.begin 60 = S0 at *
  rintro _ _ ⟨p, d, rfl, rfl⟩
  simp only [List.append_eq, List.cons_append, List.nil_append, List.append_nil, tup]
  refine o_y (y_move rfl) rfl ?_
  refine o_y (y_extract rfl rfl) rfl ?_
  refine o_y (y_extract rfl rfl) rfl ?_
  refine o_y (y_assign rfl) rfl ?_
  refine o_y (y_assign rfl) rfl ?_
  refine o_nil ?_
  refine f_seq ?_
  refine c_seq ?_
  refine c_seq ?_
  refine c_region ?_
  refine o_call rfl awake8_f (by repeat (first | with_reducible exact Takes.nil | (apply Takes.cons; focus (repeat (first | with_reducible exact Rem.here | apply Rem.there))))) rfl ?_
  rintro _ _ ⟨rfl, rfl⟩
  simp only [List.append_eq, List.cons_append, List.nil_append, List.append_nil, tup]
  refine o_y (y_not rfl) rfl ?_
  refine o_y (y_move rfl) rfl ?_
  refine o_want rfl ?_
  refine o_y (y_move rfl) rfl ?_
  refine o_want rfl ?_
  refine o_y (y_eql_nil rfl rfl) rfl ?_
  refine o_y (y_pick_f rfl rfl) rfl ?_
  refine o_y (y_move rfl) rfl ?_
  refine o_want rfl ?_
  refine o_y (y_move rfl) rfl ?_
  refine o_want rfl ?_
  refine o_y (y_eql_nil rfl rfl) rfl ?_
  refine o_y (y_pick_f rfl rfl) rfl ?_
  refine o_nil ?_
  refine f_seq ?_
  refine c_false rfl ?_
  refine c_skip ?_
  refine f_seq ?_
  refine c_seq ?_
  refine c_region ?_
  refine o_buildSlice rfl rfl rfl rfl rfl (fun nb => ?_)
  refine o_y (y_assign rfl) rfl ?_
  refine o_nil ?_
  refine f_seq ?_
  refine c_seq ?_
  refine c_region ?_
  refine o_buildSlice rfl rfl rfl rfl rfl (fun nb => ?_)
  refine o_y (y_assign rfl) rfl ?_
  refine o_nil ?_
  refine f_seq ?_
  refine c_seq ?_
  refine c_seq ?_
  refine c_region ?_
  refine o_y (y_assign rfl) rfl ?_
  refine o_nil ?_
  refine f_seq ?_
  refine c_block ?_
  rename_i nb1
  refine c_loop_inv (X := Nat × (List Int × Option Addr × Nat) × (List Int × Option Addr × Nat)) (fun x => x.1 ≤ xs.length ∧ x.1 ≤ 50 ∧ CV (S0.acts (xs.take x.1)) x.2.1.1 x.2.2.1) (fun x => 50 - x.1)
    (fun x => [PRep p d (S0.acts (xs.take x.1)), RowA false AP.cellsV 7 a0 xs, Star (xs.map fun x => KP x), RowA false intC 1 x.2.1.2.1 x.2.1.1, RowA false intC 1 x.2.2.2.1 x.2.2.1])
    (fun x => [(0, .slice a0 xs.length c0), (3, .pointer (some ⟨p, 0, none⟩)), (5, .slice x.2.1.2.1 x.2.1.1.length x.2.1.2.2), (6, .slice x.2.2.2.1 x.2.2.1.length x.2.2.2.2), (7, .int .i64 (x.1 : Int))])
    (0, ([], some ⟨nb1, 0, none⟩, 0), ([], some ⟨nb, 0, none⟩, 0)) ⟨Nat.zero_le _, Nat.zero_le _, by rw [List.take_zero]; exact v0⟩ (by dsimp only; rw [List.take_zero, show S0.acts [] = S0 from rfl]; exact Ent.one (by repeat (first | with_reducible exact Rem.here | apply Rem.there)) (Ent.one (by repeat (first | with_reducible exact Rem.here | apply Rem.there)) (Ent.one (by repeat (first | with_reducible exact Rem.here | apply Rem.there)) (Ent.put (P := []) Takes.nil RowA.empty (Ent.put (P := []) Takes.nil RowA.empty Ent.nil))))) (by repeat (first | exact trivial | refine ⟨rfl, ?_⟩)) ?_
  rintro ⟨i, ⟨us, ua, uc⟩, ⟨ks, ka, kc⟩⟩ ⟨hi, hi2, hv⟩ ih
  dsimp only at hi hi2 hv ih ⊢
  have hS : AFit (S0.acts (xs.take i)) (5 + i) := by
    have h1 := acts_fit f0 (xs.take i) (by rw [List.length_take]; omega)
    rwa [List.length_take, Nat.min_eq_left hi] at h1
  refine c_seq ?_
  refine c_seq ?_
  refine c_cut (X := Unit) (fun _ => [PRep p d (S0.acts (xs.take i)), RowA false AP.cellsV 7 a0 xs, Star (xs.map fun x => KP x), RowA false intC 1 ua us, RowA false intC 1 ka ks])
    (fun _ => [(0, .slice a0 xs.length c0), (3, .pointer (some ⟨p, 0, none⟩)), (5, .slice ua us.length uc), (6, .slice ka ks.length kc), (7, .int .i64 (i : Int)), (36, .bool (decide (i < xs.length ∧ i < 50)))]) ?_ ?_
  · by_cases g1 : i < xs.length
    · by_cases g2 : i < 50
      · rw [decide_eq_true ⟨g1, g2⟩]
        refine c_region ?_
        refine o_y (y_move rfl) rfl ?_
        refine o_y (y_move rfl) rfl ?_
        refine o_y (y_len_slice rfl) rfl ?_
        refine o_y (y_lss_t rfl rfl (by omega)) rfl ?_
        refine o_y (y_move rfl) rfl ?_
        refine o_want rfl ?_
        refine o_y (y_move rfl) rfl ?_
        refine o_want rfl ?_
        refine o_y (y_lss_t rfl rfl (by omega)) rfl ?_
        refine o_y (y_pick_t rfl rfl) rfl ?_
        refine o_nil ?_
        exact f_cut () (by repeat (first | with_reducible exact Ent.nil | (apply Ent.one; focus (repeat (first | with_reducible exact Rem.here | apply Rem.there))))) (by repeat (first | exact trivial | refine ⟨rfl, ?_⟩))
      · rw [decide_eq_false (fun h => g2 h.2)]
        refine c_region ?_
        refine o_y (y_move rfl) rfl ?_
        refine o_y (y_move rfl) rfl ?_
        refine o_y (y_len_slice rfl) rfl ?_
        refine o_y (y_lss_t rfl rfl (by omega)) rfl ?_
        refine o_y (y_move rfl) rfl ?_
        refine o_want rfl ?_
        refine o_y (y_move rfl) rfl ?_
        refine o_want rfl ?_
        refine o_y (y_lss_f rfl rfl (by omega)) rfl ?_
        refine o_y (y_pick_t rfl rfl) rfl ?_
        refine o_nil ?_
        exact f_cut () (by repeat (first | with_reducible exact Ent.nil | (apply Ent.one; focus (repeat (first | with_reducible exact Rem.here | apply Rem.there))))) (by repeat (first | exact trivial | refine ⟨rfl, ?_⟩))
    · rw [decide_eq_false (fun h => g1 h.1)]
      refine c_region ?_
      refine o_y (y_move rfl) rfl ?_
      refine o_y (y_move rfl) rfl ?_
      refine o_y (y_len_slice rfl) rfl ?_
      refine o_y (y_lss_f rfl rfl (by omega)) rfl ?_
      refine o_y (y_move rfl) rfl ?_
      refine o_skip rfl rfl ?_
      refine o_skip rfl rfl ?_
      refine o_y (y_pick_f rfl rfl) rfl ?_
      refine o_nil ?_
      exact f_cut () (by repeat (first | with_reducible exact Ent.nil | (apply Ent.one; focus (repeat (first | with_reducible exact Rem.here | apply Rem.there))))) (by repeat (first | exact trivial | refine ⟨rfl, ?_⟩))
  intro _
  by_cases hgo : i < xs.length ∧ i < 50
  case neg =>
    clear ih
    rw [decide_eq_false hgo]
    refine c_false rfl ?_
    refine c_exit ?_
    refine f_seq_exit ?_
    refine f_seq_exit ?_
    refine f_block_here ?_
    refine f_seq ?_
    refine c_seq ?_
    refine c_region ?_
    refine o_y (y_assign rfl) rfl ?_
    refine o_nil ?_
    refine f_seq ?_
    refine c_ret ?_
    exact f_ent Ent.nil (f_ret rfl ⟨rfl, rfl⟩)
  rw [decide_eq_true hgo]
  obtain ⟨hlt, hlt2⟩ := hgo
  obtain ⟨x, hx⟩ : ∃ c, xs[i]? = some c := ⟨_, List.getElem?_eq_getElem hlt⟩
  have hne : xs ≠ [] := by intro h; rw [h] at hlt; exact absurd hlt (by simp)
  have hsn := acts_snoc (S := S0) hx
  have hul := hv.now.len hS.pf hS.cf
  generalize S0.acts (xs.take i) = S at *
  refine c_open (A := RowA false AP.cellsV 7 a0 xs) (h := RowA.opens (f := AP.cellsV) hne) (by repeat (first | with_reducible exact Rem.here | apply Rem.there)) (fun y hy2 => ?_)
  obtain ⟨kb, ko, cs, T, fz⟩ := y
  obtain ⟨e1, e2⟩ := hy2
  dsimp only at e1 e2
  subst e1
  have hgt : getN cs (ko + i * 7) 7 = some [.int .i64 x.kind, .int .i64 x.of_, .int .i64 x.link, .int .i64 x.no, .int .i64 x.root, .int .i64 x.epoch, .slice x.ca x.cells.length x.cc] := act_get e2 hx
  simp only [List.append_eq, List.cons_append, List.nil_append, List.append_nil, tup]
  refine c_ent (Ent.trans (M := Star (xs.map fun x => KP x) :: PRep p d S :: Bkp false kb (.cells ⟨cs⟩ T fz) :: RowA false intC 1 ua us :: [RowA false intC 1 ka ks]) (by repeat (first | with_reducible exact Ent.nil | (apply Ent.one; focus (repeat (first | with_reducible exact Rem.here | apply Rem.there))))) (star_dupP hx)) ?_
  refine c_true rfl ?_
  refine c_skip ?_
  refine f_seq ?_
  refine c_seq ?_
  refine c_block ?_
  refine c_seq ?_
  refine c_region ?_
  refine o_y (y_move rfl) rfl ?_
  refine o_y (y_move rfl) rfl ?_
  refine o_y (y_indexAddr i rfl rfl rfl hlt) rfl ?_
  refine o_y (y_loadN rfl rfl hgt) rfl ?_
  refine o_alloc rfl (fun xb => ?_)
  refine o_store rfl rfl rfl frz0 ?_
  refine o_nil ?_
  refine f_seq ?_
  refine c_seq ?_
  refine c_seq ?_
  refine c_region ?_
  refine o_y (y_loadN rfl rfl rfl) rfl ?_
  refine o_call rfl (few8_f x) (by repeat (first | with_reducible exact Takes.nil | (apply Takes.cons; focus (repeat (first | with_reducible exact Rem.here | apply Rem.there))))) rfl ?_
  rintro _ _ ⟨rfl, rfl⟩
  simp only [List.append_eq, List.cons_append, List.nil_append, List.append_nil, tup]
  cases hfew : x.few with
  | false =>
    rw [if_neg (by rw [hfew]; decide)] at hsn
    refine o_y (y_not rfl) rfl ?_
    refine o_nil ?_
    refine f_seq ?_
    refine c_true rfl ?_
    refine c_exit ?_
    refine f_seq_exit ?_
    refine f_block_here ?_
    refine f_seq ?_
    refine c_region ?_
    refine o_y (y_move rfl) rfl ?_
    refine o_y (y_arith64 rfl rfl rfl (by omega)) rfl ?_
    refine o_y (y_assign rfl) rfl ?_
    refine o_nil ?_
    refine f_next ?_ (by repeat (first | exact trivial | refine ⟨rfl, ?_⟩)) (ih (i + 1, (us, ua, uc), (ks, ka, kc)) ⟨hlt, hlt2, by rw [hsn]; exact hv⟩ (by dsimp only; omega))
    dsimp only
    rw [hsn]
    exact Ent.one (by repeat (first | with_reducible exact Rem.here | apply Rem.there)) (Ent.put (P := [Bkp false kb (.cells ⟨cs⟩ T fz)]) (by repeat (first | with_reducible exact Takes.nil | (apply Takes.cons; focus (repeat (first | with_reducible exact Rem.here | apply Rem.there))))) (RowA.shut rfl e2) (by repeat (first | with_reducible exact Ent.nil | (apply Ent.one; focus (repeat (first | with_reducible exact Rem.here | apply Rem.there))))))
  | true =>
  rw [if_pos hfew] at hsn
  refine o_y (y_not rfl) rfl ?_
  refine o_nil ?_
  refine f_seq ?_
  refine c_false rfl ?_
  refine c_skip ?_
  refine f_seq ?_
  refine c_seq ?_
  refine c_region ?_
  refine o_y (y_move rfl) rfl ?_
  refine o_y (y_loadN rfl rfl rfl) rfl ?_
  refine o_call rfl (do8_f S (5 + i) x hfew hS (by omega)) (by repeat (first | with_reducible exact Takes.nil | (apply Takes.cons; focus (repeat (first | with_reducible exact Rem.here | apply Rem.there))))) rfl ?_
  rintro _ _ ⟨rfl, rfl⟩
  simp only [List.append_eq, List.cons_append, List.nil_append, List.append_nil, tup]
  have hact := hv.act hS x
  have hS2 := hS.act (by omega) x
  generalize hV : S.act x = V at *
  obtain ⟨V, no, er⟩ := V
  dsimp only at hact hS2 hsn ⊢
  have hback : ∀ {T2 : PS} {A B : Asrt} {M : List Asrt}, Ent (KP x :: Star (xs.map fun x => KP x) :: PRep p d T2 :: Bkp false kb (.cells ⟨cs⟩ T fz) :: A :: B :: M) [PRep p d T2, RowA false AP.cellsV 7 (some ⟨kb, ko, none⟩) xs, Star (xs.map fun x => KP x), A, B] := fun {T2 A B M} =>
    Ent.one (.there (.there .here)) (Ent.put (P := [Bkp false kb (.cells ⟨cs⟩ T fz)]) (Takes.cons (.there (.there .here)) Takes.nil) (RowA.shut rfl e2) (Ent.one (.there .here) (Ent.one (.there .here) (Ent.one (.there .here) Ent.nil))))
  generalize hU : nextU x no er us ks = U at *
  obtain ⟨us2, ks2⟩ := U
  dsimp only at hact
  refine o_y (y_move rfl) rfl ?_
  refine o_y (y_extract rfl rfl) rfl ?_
  refine o_y (y_extract rfl rfl) rfl ?_
  refine o_y (y_assign rfl) rfl ?_
  refine o_y (y_assign rfl) rfl ?_
  refine o_nil ?_
  refine f_seq ?_
  refine c_seq ?_
  refine c_cut (X := (Option Addr × Nat) × (Option Addr × Nat)) (fun y => [PRep p d V, Bkp false kb (.cells ⟨cs⟩ T fz), KP x, Star (xs.map fun x => KP x), Blk xb (.cells ⟨[.int .i64 x.kind, .int .i64 x.of_, .int .i64 x.link, .int .i64 x.no, .int .i64 x.root, .int .i64 x.epoch, .slice x.ca x.cells.length x.cc]⟩ 39 (0, 0)), RowA false intC 1 y.1.1 us2, RowA false intC 1 y.2.1 ks2])
    (fun y => [(0, .slice (some ⟨kb, ko, none⟩) xs.length c0), (3, .pointer (some ⟨p, 0, none⟩)), (5, .slice y.1.1 us2.length y.1.2), (6, .slice y.2.1 ks2.length y.2.2), (7, .int .i64 (i : Int)), (8, .pointer (some ⟨xb, 0, none⟩))]) ?_ ?_
  · clear ih hback hact hsn
    unfold nextU at hU
    by_cases j0 : er ≠ 0 ∧ x.kind ≠ 3
    · rw [if_pos j0] at hU
      injection hU with u1 u2
      subst u1; subst u2
      obtain ⟨j1, j2⟩ := j0
      refine c_block ?_
      refine c_seq ?_
      refine c_region ?_
      refine o_y (y_move rfl) rfl ?_
      refine o_y (y_neq_t rfl rfl (by omega)) rfl ?_
      refine o_y (y_move rfl) rfl ?_
      refine o_want rfl ?_
      refine o_y (y_fieldAddr0 rfl) rfl ?_
      refine o_want rfl ?_
      refine o_y (y_load rfl rfl rfl) rfl ?_
      refine o_want rfl ?_
      refine o_y (y_neq_t rfl rfl (by omega)) rfl ?_
      refine o_y (y_pick_t rfl rfl) rfl ?_
      refine o_y (y_assign rfl) rfl ?_
      refine o_nil ?_
      refine f_seq ?_
      refine c_true rfl ?_
      refine c_skip ?_
      refine f_block ?_
      exact f_cut ((ua, uc), (ka, kc)) (by repeat (first | with_reducible exact Ent.nil | (apply Ent.one; focus (repeat (first | with_reducible exact Rem.here | apply Rem.there))))) (by repeat (first | exact trivial | refine ⟨rfl, ?_⟩))
    rw [if_neg j0] at hU
    have hj : er = 0 ∨ x.kind = 3 := by omega
    have hwl : ∀ n, (wo us n).length ≤ 4096 := fun n => Nat.le_trans (List.length_filter_le _ _) hul
    by_cases k0 : x.kind = 0
    · rw [if_pos k0] at hU
      injection hU with u1 u2
      subst u1; subst u2
      have her : er = 0 := by omega
      refine c_block ?_
      refine c_seq ?_
      refine c_region ?_
      refine o_y (y_move rfl) rfl ?_
      refine o_y (y_neq_f rfl rfl (by omega)) rfl ?_
      refine o_y (y_move rfl) rfl ?_
      refine o_skip rfl rfl ?_
      refine o_skip rfl rfl ?_
      refine o_skip rfl rfl ?_
      refine o_y (y_pick_f rfl rfl) rfl ?_
      refine o_y (y_assign rfl) rfl ?_
      refine o_nil ?_
      refine f_seq ?_
      refine c_false rfl ?_
      refine c_seq ?_
      refine c_region ?_
      refine o_y (y_fieldAddr0 rfl) rfl ?_
      refine o_y (y_load rfl rfl rfl) rfl ?_
      refine o_y (y_eql_t rfl rfl (by omega)) rfl ?_
      refine o_y (y_assign rfl) rfl ?_
      refine o_nil ?_
      refine f_seq ?_
      refine c_true rfl ?_
      refine c_region ?_
      refine o_buildSlice rfl rfl rfl rfl rfl (fun nb => ?_)
      refine o_y (y_move rfl) rfl ?_
      refine o_ent (Ent.put (A := Sl 3 1 (some ⟨nb, 0, none⟩) 0 0 []) (P := [Blk nb (.cells ⟨[]⟩ 3 (0, 0))]) (by repeat (first | with_reducible exact Takes.nil | (apply Takes.cons; focus (repeat (first | with_reducible exact Rem.here | apply Rem.there))))) (Sl.shut_zero' nb) (Ent.refl _)) ?_
      refine o_append rfl rfl (Src.row (f := intC) (xs := us) (a := ua) (cap := uc) (q := false) (fun _ => rfl) (by repeat (first | with_reducible exact Rem.here | apply Rem.there))) (by repeat (first | with_reducible exact Rem.here | apply Rem.there)) (int_one us) (by omega) rfl (by omega) rfl (fun a2 cap2 => ?_)
      rw [Nat.zero_add, List.nil_append]
      refine o_y (y_move rfl) rfl ?_
      refine o_buildSlice rfl rfl rfl rfl rfl (fun nb => ?_)
      refine o_append (k := 1) (ys := [.int .i64 no]) rfl rfl (Src.slice rfl) (by repeat (first | with_reducible exact Rem.here | apply Rem.there)) (by simp [Value.oneCell']) (by omega) rfl (by omega) rfl (fun a3 cap3 => ?_)
      have el : (us ++ [no]).length = us.length + 1 := by rw [List.length_append]; rfl
      refine o_shareSl (a := a3) (cap := cap3) intC (us ++ [no]) (by repeat (first | with_reducible exact Rem.here | apply Rem.there)) el.symm (by rw [List.flatMap_append]; rfl) ?_
      refine o_y (y_assign rfl) rfl ?_
      refine o_nil ?_
      refine f_block ?_
      refine f_cut ((a3, cap3), (ka, kc)) (by repeat (first | with_reducible exact Ent.nil | (apply Ent.one; focus (repeat (first | with_reducible exact Rem.here | apply Rem.there))))) ?_
      dsimp only
      rw [el]
      repeat (first | exact trivial | refine ⟨rfl, ?_⟩)
    rw [if_neg k0] at hU
    by_cases k1 : x.kind = 1
    · rw [if_pos k1] at hU
      injection hU with u1 u2
      subst u1; subst u2
      have her : er = 0 := by omega
      have hw := hwl x.no
      refine c_block ?_
      refine c_seq ?_
      refine c_region ?_
      refine o_y (y_move rfl) rfl ?_
      refine o_y (y_neq_f rfl rfl (by omega)) rfl ?_
      refine o_y (y_move rfl) rfl ?_
      refine o_skip rfl rfl ?_
      refine o_skip rfl rfl ?_
      refine o_skip rfl rfl ?_
      refine o_y (y_pick_f rfl rfl) rfl ?_
      refine o_y (y_assign rfl) rfl ?_
      refine o_nil ?_
      refine f_seq ?_
      refine c_false rfl ?_
      refine c_seq ?_
      refine c_region ?_
      refine o_y (y_fieldAddr0 rfl) rfl ?_
      refine o_y (y_load rfl rfl rfl) rfl ?_
      refine o_y (y_eql_f rfl rfl (by omega)) rfl ?_
      refine o_y (y_assign rfl) rfl ?_
      refine o_nil ?_
      refine f_seq ?_
      refine c_false rfl ?_
      refine c_seq ?_
      refine c_region ?_
      refine o_y (y_fieldAddr0 rfl) rfl ?_
      refine o_y (y_load rfl rfl rfl) rfl ?_
      refine o_y (y_eql_t rfl rfl (by omega)) rfl ?_
      refine o_y (y_assign rfl) rfl ?_
      refine o_nil ?_
      refine f_seq ?_
      refine c_true rfl ?_
      refine c_region ?_
      refine o_y (y_move rfl) rfl ?_
      refine o_y (y_fieldAddr0 rfl) rfl ?_
      refine o_y (y_load rfl rfl rfl) rfl ?_
      refine o_call rfl (without_f false ua uc us x.no (by omega)) (by repeat (first | with_reducible exact Takes.nil | (apply Takes.cons; focus (repeat (first | with_reducible exact Rem.here | apply Rem.there))))) rfl ?_
      rintro _ _ ⟨wa, wc, rfl, rfl⟩
      simp only [List.append_eq, List.cons_append, List.nil_append, List.append_nil, tup]
      refine o_y (y_move rfl) rfl ?_
      refine o_buildSlice rfl rfl rfl rfl rfl (fun nb => ?_)
      refine o_append (k := 1) (ys := [.int .i64 no]) rfl rfl (Src.slice rfl) (by repeat (first | with_reducible exact Rem.here | apply Rem.there)) (by simp [Value.oneCell']) (by omega) rfl (by omega) rfl (fun a3 cap3 => ?_)
      have el : (wo us x.no ++ [no]).length = (wo us x.no).length + 1 := by rw [List.length_append]; rfl
      refine o_shareSl (a := a3) (cap := cap3) intC (wo us x.no ++ [no]) (by repeat (first | with_reducible exact Rem.here | apply Rem.there)) el.symm (by rw [List.flatMap_append]; rfl) ?_
      refine o_y (y_assign rfl) rfl ?_
      refine o_nil ?_
      refine f_block ?_
      refine f_cut ((a3, cap3), (ka, kc)) (by repeat (first | with_reducible exact Ent.nil | (apply Ent.one; focus (repeat (first | with_reducible exact Rem.here | apply Rem.there))))) ?_
      dsimp only
      rw [el]
      repeat (first | exact trivial | refine ⟨rfl, ?_⟩)
    rw [if_neg k1] at hU
    by_cases k2 : x.kind = 2
    · rw [if_pos k2] at hU
      injection hU with u1 u2
      subst u1; subst u2
      have her : er = 0 := by omega
      refine c_block ?_
      refine c_seq ?_
      refine c_region ?_
      refine o_y (y_move rfl) rfl ?_
      refine o_y (y_neq_f rfl rfl (by omega)) rfl ?_
      refine o_y (y_move rfl) rfl ?_
      refine o_skip rfl rfl ?_
      refine o_skip rfl rfl ?_
      refine o_skip rfl rfl ?_
      refine o_y (y_pick_f rfl rfl) rfl ?_
      refine o_y (y_assign rfl) rfl ?_
      refine o_nil ?_
      refine f_seq ?_
      refine c_false rfl ?_
      refine c_seq ?_
      refine c_region ?_
      refine o_y (y_fieldAddr0 rfl) rfl ?_
      refine o_y (y_load rfl rfl rfl) rfl ?_
      refine o_y (y_eql_f rfl rfl (by omega)) rfl ?_
      refine o_y (y_assign rfl) rfl ?_
      refine o_nil ?_
      refine f_seq ?_
      refine c_false rfl ?_
      refine c_seq ?_
      refine c_region ?_
      refine o_y (y_fieldAddr0 rfl) rfl ?_
      refine o_y (y_load rfl rfl rfl) rfl ?_
      refine o_y (y_eql_f rfl rfl (by omega)) rfl ?_
      refine o_y (y_assign rfl) rfl ?_
      refine o_nil ?_
      refine f_seq ?_
      refine c_false rfl ?_
      refine c_seq ?_
      refine c_region ?_
      refine o_y (y_fieldAddr0 rfl) rfl ?_
      refine o_y (y_load rfl rfl rfl) rfl ?_
      refine o_y (y_eql_t rfl rfl (by omega)) rfl ?_
      refine o_y (y_assign rfl) rfl ?_
      refine o_nil ?_
      refine f_seq ?_
      refine c_true rfl ?_
      refine c_region ?_
      refine o_y (y_move rfl) rfl ?_
      refine o_y (y_fieldAddr0 rfl) rfl ?_
      refine o_y (y_load rfl rfl rfl) rfl ?_
      refine o_call rfl (without_f false ua uc us x.no (by omega)) (by repeat (first | with_reducible exact Takes.nil | (apply Takes.cons; focus (repeat (first | with_reducible exact Rem.here | apply Rem.there))))) rfl ?_
      rintro _ _ ⟨wa, wc, rfl, rfl⟩
      simp only [List.append_eq, List.cons_append, List.nil_append, List.append_nil, tup]
      refine o_shareSl (a := wa) (cap := wc) intC (wo us x.no) (by repeat (first | with_reducible exact Rem.here | apply Rem.there)) rfl rfl ?_
      refine o_y (y_assign rfl) rfl ?_
      refine o_nil ?_
      refine f_block ?_
      exact f_cut ((wa, wc), (ka, kc)) (by repeat (first | with_reducible exact Ent.nil | (apply Ent.one; focus (repeat (first | with_reducible exact Rem.here | apply Rem.there))))) (by repeat (first | exact trivial | refine ⟨rfl, ?_⟩))
    rw [if_neg k2] at hU
    by_cases k3 : x.kind = 3
    · by_cases e0 : er = 0
      · rw [if_pos ⟨k3, e0⟩] at hU
        injection hU with u1 u2
        subst u1; subst u2
        refine c_block ?_
        refine c_seq ?_
        refine c_region ?_
        refine o_y (y_move rfl) rfl ?_
        refine o_y (y_neq_f rfl rfl (by omega)) rfl ?_
        refine o_y (y_move rfl) rfl ?_
        refine o_skip rfl rfl ?_
        refine o_skip rfl rfl ?_
        refine o_skip rfl rfl ?_
        refine o_y (y_pick_f rfl rfl) rfl ?_
        refine o_y (y_assign rfl) rfl ?_
        refine o_nil ?_
        refine f_seq ?_
        refine c_false rfl ?_
        refine c_seq ?_
        refine c_region ?_
        refine o_y (y_fieldAddr0 rfl) rfl ?_
        refine o_y (y_load rfl rfl rfl) rfl ?_
        refine o_y (y_eql_f rfl rfl (by omega)) rfl ?_
        refine o_y (y_assign rfl) rfl ?_
        refine o_nil ?_
        refine f_seq ?_
        refine c_false rfl ?_
        refine c_seq ?_
        refine c_region ?_
        refine o_y (y_fieldAddr0 rfl) rfl ?_
        refine o_y (y_load rfl rfl rfl) rfl ?_
        refine o_y (y_eql_f rfl rfl (by omega)) rfl ?_
        refine o_y (y_assign rfl) rfl ?_
        refine o_nil ?_
        refine f_seq ?_
        refine c_false rfl ?_
        refine c_seq ?_
        refine c_region ?_
        refine o_y (y_fieldAddr0 rfl) rfl ?_
        refine o_y (y_load rfl rfl rfl) rfl ?_
        refine o_y (y_eql_f rfl rfl (by omega)) rfl ?_
        refine o_y (y_assign rfl) rfl ?_
        refine o_nil ?_
        refine f_seq ?_
        refine c_false rfl ?_
        refine c_seq ?_
        refine c_region ?_
        refine o_y (y_fieldAddr0 rfl) rfl ?_
        refine o_y (y_load rfl rfl rfl) rfl ?_
        refine o_y (y_eql_t rfl rfl (by omega)) rfl ?_
        refine o_y (y_move rfl) rfl ?_
        refine o_want rfl ?_
        refine o_y (y_move rfl) rfl ?_
        refine o_want rfl ?_
        refine o_y (y_eql_t rfl rfl (by omega)) rfl ?_
        refine o_y (y_pick_t rfl rfl) rfl ?_
        refine o_y (y_assign rfl) rfl ?_
        refine o_nil ?_
        refine f_seq ?_
        refine c_true rfl ?_
        refine c_region ?_
        refine o_y (y_move rfl) rfl ?_
        refine o_y (y_assign rfl) rfl ?_
        refine o_nil ?_
        refine f_block ?_
        refine f_ent (Ent.trans (M := RowA false intC 1 ua us :: PRep p d V :: Bkp false kb (.cells ⟨cs⟩ T fz) :: KP x :: Star (xs.map fun x => KP x) :: [Blk xb (.cells ⟨[.int .i64 x.kind, .int .i64 x.of_, .int .i64 x.link, .int .i64 x.no, .int .i64 x.root, .int .i64 x.epoch, .slice x.ca x.cells.length x.cc]⟩ 39 (0, 0))]) (by repeat (first | with_reducible exact Ent.nil | (apply Ent.one; focus (repeat (first | with_reducible exact Rem.here | apply Rem.there))))) RowA.dup) ?_
        exact f_cut ((ua, uc), (ua, uc)) (by repeat (first | with_reducible exact Ent.nil | (apply Ent.one; focus (repeat (first | with_reducible exact Rem.here | apply Rem.there))))) (by repeat (first | exact trivial | refine ⟨rfl, ?_⟩))
      · rw [if_neg (fun h => e0 h.2)] at hU
        by_cases e81 : er = 81
        · rw [if_neg (by omega)] at hU
          injection hU with u1 u2
          subst u1; subst u2
          refine c_block ?_
          refine c_seq ?_
          refine c_region ?_
          refine o_y (y_move rfl) rfl ?_
          refine o_y (y_neq_t rfl rfl (by omega)) rfl ?_
          refine o_y (y_move rfl) rfl ?_
          refine o_want rfl ?_
          refine o_y (y_fieldAddr0 rfl) rfl ?_
          refine o_want rfl ?_
          refine o_y (y_load rfl rfl rfl) rfl ?_
          refine o_want rfl ?_
          refine o_y (y_neq_f rfl rfl (by omega)) rfl ?_
          refine o_y (y_pick_t rfl rfl) rfl ?_
          refine o_y (y_assign rfl) rfl ?_
          refine o_nil ?_
          refine f_seq ?_
          refine c_false rfl ?_
          refine c_seq ?_
          refine c_region ?_
          refine o_y (y_fieldAddr0 rfl) rfl ?_
          refine o_y (y_load rfl rfl rfl) rfl ?_
          refine o_y (y_eql_f rfl rfl (by omega)) rfl ?_
          refine o_y (y_assign rfl) rfl ?_
          refine o_nil ?_
          refine f_seq ?_
          refine c_false rfl ?_
          refine c_seq ?_
          refine c_region ?_
          refine o_y (y_fieldAddr0 rfl) rfl ?_
          refine o_y (y_load rfl rfl rfl) rfl ?_
          refine o_y (y_eql_f rfl rfl (by omega)) rfl ?_
          refine o_y (y_assign rfl) rfl ?_
          refine o_nil ?_
          refine f_seq ?_
          refine c_false rfl ?_
          refine c_seq ?_
          refine c_region ?_
          refine o_y (y_fieldAddr0 rfl) rfl ?_
          refine o_y (y_load rfl rfl rfl) rfl ?_
          refine o_y (y_eql_f rfl rfl (by omega)) rfl ?_
          refine o_y (y_assign rfl) rfl ?_
          refine o_nil ?_
          refine f_seq ?_
          refine c_false rfl ?_
          refine c_seq ?_
          refine c_region ?_
          refine o_y (y_fieldAddr0 rfl) rfl ?_
          refine o_y (y_load rfl rfl rfl) rfl ?_
          refine o_y (y_eql_t rfl rfl (by omega)) rfl ?_
          refine o_y (y_move rfl) rfl ?_
          refine o_want rfl ?_
          refine o_y (y_move rfl) rfl ?_
          refine o_want rfl ?_
          refine o_y (y_eql_f rfl rfl (by omega)) rfl ?_
          refine o_y (y_pick_t rfl rfl) rfl ?_
          refine o_y (y_assign rfl) rfl ?_
          refine o_nil ?_
          refine f_seq ?_
          refine c_false rfl ?_
          refine c_seq ?_
          refine c_region ?_
          refine o_y (y_fieldAddr0 rfl) rfl ?_
          refine o_y (y_load rfl rfl rfl) rfl ?_
          refine o_y (y_eql_f rfl rfl (by omega)) rfl ?_
          refine o_y (y_move rfl) rfl ?_
          refine o_want rfl ?_
          refine o_y (y_fieldAddr0 rfl) rfl ?_
          refine o_want rfl ?_
          refine o_y (y_load rfl rfl rfl) rfl ?_
          refine o_want rfl ?_
          refine o_y (y_eql_t rfl rfl (by omega)) rfl ?_
          refine o_want rfl ?_
          refine o_y (y_move rfl) rfl ?_
          refine o_want rfl ?_
          refine o_y (y_move rfl) rfl ?_
          refine o_want rfl ?_
          refine o_y (y_neq_f rfl rfl (by omega)) rfl ?_
          refine o_want rfl ?_
          refine o_y (y_pick_t rfl rfl) rfl ?_
          refine o_y (y_pick_f rfl rfl) rfl ?_
          refine o_y (y_assign rfl) rfl ?_
          refine o_nil ?_
          refine f_seq ?_
          refine c_false rfl ?_
          refine c_skip ?_
          refine f_block ?_
          exact f_cut ((ua, uc), (ka, kc)) (by repeat (first | with_reducible exact Ent.nil | (apply Ent.one; focus (repeat (first | with_reducible exact Rem.here | apply Rem.there))))) (by repeat (first | exact trivial | refine ⟨rfl, ?_⟩))
        · rw [if_pos (.inr ⟨k3, e81⟩)] at hU
          injection hU with u1 u2
          subst u1; subst u2
          refine c_block ?_
          refine c_seq ?_
          refine c_region ?_
          refine o_y (y_move rfl) rfl ?_
          refine o_y (y_neq_t rfl rfl (by omega)) rfl ?_
          refine o_y (y_move rfl) rfl ?_
          refine o_want rfl ?_
          refine o_y (y_fieldAddr0 rfl) rfl ?_
          refine o_want rfl ?_
          refine o_y (y_load rfl rfl rfl) rfl ?_
          refine o_want rfl ?_
          refine o_y (y_neq_f rfl rfl (by omega)) rfl ?_
          refine o_y (y_pick_t rfl rfl) rfl ?_
          refine o_y (y_assign rfl) rfl ?_
          refine o_nil ?_
          refine f_seq ?_
          refine c_false rfl ?_
          refine c_seq ?_
          refine c_region ?_
          refine o_y (y_fieldAddr0 rfl) rfl ?_
          refine o_y (y_load rfl rfl rfl) rfl ?_
          refine o_y (y_eql_f rfl rfl (by omega)) rfl ?_
          refine o_y (y_assign rfl) rfl ?_
          refine o_nil ?_
          refine f_seq ?_
          refine c_false rfl ?_
          refine c_seq ?_
          refine c_region ?_
          refine o_y (y_fieldAddr0 rfl) rfl ?_
          refine o_y (y_load rfl rfl rfl) rfl ?_
          refine o_y (y_eql_f rfl rfl (by omega)) rfl ?_
          refine o_y (y_assign rfl) rfl ?_
          refine o_nil ?_
          refine f_seq ?_
          refine c_false rfl ?_
          refine c_seq ?_
          refine c_region ?_
          refine o_y (y_fieldAddr0 rfl) rfl ?_
          refine o_y (y_load rfl rfl rfl) rfl ?_
          refine o_y (y_eql_f rfl rfl (by omega)) rfl ?_
          refine o_y (y_assign rfl) rfl ?_
          refine o_nil ?_
          refine f_seq ?_
          refine c_false rfl ?_
          refine c_seq ?_
          refine c_region ?_
          refine o_y (y_fieldAddr0 rfl) rfl ?_
          refine o_y (y_load rfl rfl rfl) rfl ?_
          refine o_y (y_eql_t rfl rfl (by omega)) rfl ?_
          refine o_y (y_move rfl) rfl ?_
          refine o_want rfl ?_
          refine o_y (y_move rfl) rfl ?_
          refine o_want rfl ?_
          refine o_y (y_eql_f rfl rfl (by omega)) rfl ?_
          refine o_y (y_pick_t rfl rfl) rfl ?_
          refine o_y (y_assign rfl) rfl ?_
          refine o_nil ?_
          refine f_seq ?_
          refine c_false rfl ?_
          refine c_seq ?_
          refine c_region ?_
          refine o_y (y_fieldAddr0 rfl) rfl ?_
          refine o_y (y_load rfl rfl rfl) rfl ?_
          refine o_y (y_eql_f rfl rfl (by omega)) rfl ?_
          refine o_y (y_move rfl) rfl ?_
          refine o_want rfl ?_
          refine o_y (y_fieldAddr0 rfl) rfl ?_
          refine o_want rfl ?_
          refine o_y (y_load rfl rfl rfl) rfl ?_
          refine o_want rfl ?_
          refine o_y (y_eql_t rfl rfl (by omega)) rfl ?_
          refine o_want rfl ?_
          refine o_y (y_move rfl) rfl ?_
          refine o_want rfl ?_
          refine o_y (y_move rfl) rfl ?_
          refine o_want rfl ?_
          refine o_y (y_neq_t rfl rfl (by omega)) rfl ?_
          refine o_want rfl ?_
          refine o_y (y_pick_t rfl rfl) rfl ?_
          refine o_y (y_pick_f rfl rfl) rfl ?_
          refine o_y (y_assign rfl) rfl ?_
          refine o_nil ?_
          refine f_seq ?_
          refine c_true rfl ?_
          refine c_region ?_
          refine o_y (y_move rfl) rfl ?_
          refine o_y (y_assign rfl) rfl ?_
          refine o_nil ?_
          refine f_block ?_
          refine f_ent (Ent.trans (M := RowA false intC 1 ka ks :: PRep p d V :: Bkp false kb (.cells ⟨cs⟩ T fz) :: KP x :: Star (xs.map fun x => KP x) :: [Blk xb (.cells ⟨[.int .i64 x.kind, .int .i64 x.of_, .int .i64 x.link, .int .i64 x.no, .int .i64 x.root, .int .i64 x.epoch, .slice x.ca x.cells.length x.cc]⟩ 39 (0, 0))]) (by repeat (first | with_reducible exact Ent.nil | (apply Ent.one; focus (repeat (first | with_reducible exact Rem.here | apply Rem.there))))) RowA.dup) ?_
          exact f_cut ((ka, kc), (ka, kc)) (by repeat (first | with_reducible exact Ent.nil | (apply Ent.one; focus (repeat (first | with_reducible exact Rem.here | apply Rem.there))))) (by repeat (first | exact trivial | refine ⟨rfl, ?_⟩))
    rw [if_neg (fun h => k3 h.1)] at hU
    have e0 : er = 0 := by omega
    by_cases k4 : x.kind = 4
    · rw [if_pos (.inl k4)] at hU
      injection hU with u1 u2
      subst u1; subst u2
      refine c_block ?_
      refine c_seq ?_
      refine c_region ?_
      refine o_y (y_move rfl) rfl ?_
      refine o_y (y_neq_f rfl rfl (by omega)) rfl ?_
      refine o_y (y_move rfl) rfl ?_
      refine o_skip rfl rfl ?_
      refine o_skip rfl rfl ?_
      refine o_skip rfl rfl ?_
      refine o_y (y_pick_f rfl rfl) rfl ?_
      refine o_y (y_assign rfl) rfl ?_
      refine o_nil ?_
      refine f_seq ?_
      refine c_false rfl ?_
      refine c_seq ?_
      refine c_region ?_
      refine o_y (y_fieldAddr0 rfl) rfl ?_
      refine o_y (y_load rfl rfl rfl) rfl ?_
      refine o_y (y_eql_f rfl rfl (by omega)) rfl ?_
      refine o_y (y_assign rfl) rfl ?_
      refine o_nil ?_
      refine f_seq ?_
      refine c_false rfl ?_
      refine c_seq ?_
      refine c_region ?_
      refine o_y (y_fieldAddr0 rfl) rfl ?_
      refine o_y (y_load rfl rfl rfl) rfl ?_
      refine o_y (y_eql_f rfl rfl (by omega)) rfl ?_
      refine o_y (y_assign rfl) rfl ?_
      refine o_nil ?_
      refine f_seq ?_
      refine c_false rfl ?_
      refine c_seq ?_
      refine c_region ?_
      refine o_y (y_fieldAddr0 rfl) rfl ?_
      refine o_y (y_load rfl rfl rfl) rfl ?_
      refine o_y (y_eql_f rfl rfl (by omega)) rfl ?_
      refine o_y (y_assign rfl) rfl ?_
      refine o_nil ?_
      refine f_seq ?_
      refine c_false rfl ?_
      refine c_seq ?_
      refine c_region ?_
      refine o_y (y_fieldAddr0 rfl) rfl ?_
      refine o_y (y_load rfl rfl rfl) rfl ?_
      refine o_y (y_eql_f rfl rfl (by omega)) rfl ?_
      refine o_y (y_move rfl) rfl ?_
      refine o_skip rfl rfl ?_
      refine o_skip rfl rfl ?_
      refine o_y (y_pick_f rfl rfl) rfl ?_
      refine o_y (y_assign rfl) rfl ?_
      refine o_nil ?_
      refine f_seq ?_
      refine c_false rfl ?_
      refine c_seq ?_
      refine c_region ?_
      refine o_y (y_fieldAddr0 rfl) rfl ?_
      refine o_y (y_load rfl rfl rfl) rfl ?_
      refine o_y (y_eql_t rfl rfl (by omega)) rfl ?_
      refine o_y (y_move rfl) rfl ?_
      refine o_skip rfl rfl ?_
      refine o_skip rfl rfl ?_
      refine o_skip rfl rfl ?_
      refine o_skip rfl rfl ?_
      refine o_skipU rfl rfl ?_
      refine o_skipU rfl rfl ?_
      refine o_skip rfl rfl ?_
      refine o_y (y_pick_t rfl rfl) rfl ?_
      refine o_y (y_assign rfl) rfl ?_
      refine o_nil ?_
      refine f_seq ?_
      refine c_true rfl ?_
      refine c_region ?_
      refine o_y (y_move rfl) rfl ?_
      refine o_y (y_assign rfl) rfl ?_
      refine o_nil ?_
      refine f_block ?_
      refine f_ent (Ent.trans (M := RowA false intC 1 ka ks :: PRep p d V :: Bkp false kb (.cells ⟨cs⟩ T fz) :: KP x :: Star (xs.map fun x => KP x) :: [Blk xb (.cells ⟨[.int .i64 x.kind, .int .i64 x.of_, .int .i64 x.link, .int .i64 x.no, .int .i64 x.root, .int .i64 x.epoch, .slice x.ca x.cells.length x.cc]⟩ 39 (0, 0))]) (by repeat (first | with_reducible exact Ent.nil | (apply Ent.one; focus (repeat (first | with_reducible exact Rem.here | apply Rem.there))))) RowA.dup) ?_
      exact f_cut ((ka, kc), (ka, kc)) (by repeat (first | with_reducible exact Ent.nil | (apply Ent.one; focus (repeat (first | with_reducible exact Rem.here | apply Rem.there))))) (by repeat (first | exact trivial | refine ⟨rfl, ?_⟩))
    · rw [if_neg (fun h => h.elim k4 fun h => k3 h.1)] at hU
      injection hU with u1 u2
      subst u1; subst u2
      refine c_block ?_
      refine c_seq ?_
      refine c_region ?_
      refine o_y (y_move rfl) rfl ?_
      refine o_y (y_neq_f rfl rfl (by omega)) rfl ?_
      refine o_y (y_move rfl) rfl ?_
      refine o_skip rfl rfl ?_
      refine o_skip rfl rfl ?_
      refine o_skip rfl rfl ?_
      refine o_y (y_pick_f rfl rfl) rfl ?_
      refine o_y (y_assign rfl) rfl ?_
      refine o_nil ?_
      refine f_seq ?_
      refine c_false rfl ?_
      refine c_seq ?_
      refine c_region ?_
      refine o_y (y_fieldAddr0 rfl) rfl ?_
      refine o_y (y_load rfl rfl rfl) rfl ?_
      refine o_y (y_eql_f rfl rfl (by omega)) rfl ?_
      refine o_y (y_assign rfl) rfl ?_
      refine o_nil ?_
      refine f_seq ?_
      refine c_false rfl ?_
      refine c_seq ?_
      refine c_region ?_
      refine o_y (y_fieldAddr0 rfl) rfl ?_
      refine o_y (y_load rfl rfl rfl) rfl ?_
      refine o_y (y_eql_f rfl rfl (by omega)) rfl ?_
      refine o_y (y_assign rfl) rfl ?_
      refine o_nil ?_
      refine f_seq ?_
      refine c_false rfl ?_
      refine c_seq ?_
      refine c_region ?_
      refine o_y (y_fieldAddr0 rfl) rfl ?_
      refine o_y (y_load rfl rfl rfl) rfl ?_
      refine o_y (y_eql_f rfl rfl (by omega)) rfl ?_
      refine o_y (y_assign rfl) rfl ?_
      refine o_nil ?_
      refine f_seq ?_
      refine c_false rfl ?_
      refine c_seq ?_
      refine c_region ?_
      refine o_y (y_fieldAddr0 rfl) rfl ?_
      refine o_y (y_load rfl rfl rfl) rfl ?_
      refine o_y (y_eql_f rfl rfl (by omega)) rfl ?_
      refine o_y (y_move rfl) rfl ?_
      refine o_skip rfl rfl ?_
      refine o_skip rfl rfl ?_
      refine o_y (y_pick_f rfl rfl) rfl ?_
      refine o_y (y_assign rfl) rfl ?_
      refine o_nil ?_
      refine f_seq ?_
      refine c_false rfl ?_
      refine c_seq ?_
      refine c_region ?_
      refine o_y (y_fieldAddr0 rfl) rfl ?_
      refine o_y (y_load rfl rfl rfl) rfl ?_
      refine o_y (y_eql_f rfl rfl (by omega)) rfl ?_
      refine o_y (y_move rfl) rfl ?_
      refine o_want rfl ?_
      refine o_y (y_fieldAddr0 rfl) rfl ?_
      refine o_want rfl ?_
      refine o_y (y_load rfl rfl rfl) rfl ?_
      refine o_want rfl ?_
      refine o_y (y_eql_f rfl rfl (by omega)) rfl ?_
      refine o_want rfl ?_
      refine o_y (y_move rfl) rfl ?_
      refine o_skip rfl rfl ?_
      refine o_skip rfl rfl ?_
      refine o_want rfl ?_
      refine o_y (y_pick_f rfl rfl) rfl ?_
      refine o_y (y_pick_f rfl rfl) rfl ?_
      refine o_y (y_assign rfl) rfl ?_
      refine o_nil ?_
      refine f_seq ?_
      refine c_false rfl ?_
      refine c_skip ?_
      refine f_block ?_
      exact f_cut ((ua, uc), (ka, kc)) (by repeat (first | with_reducible exact Ent.nil | (apply Ent.one; focus (repeat (first | with_reducible exact Rem.here | apply Rem.there))))) (by repeat (first | exact trivial | refine ⟨rfl, ?_⟩))
  rintro ⟨⟨ua2, uc2⟩, ⟨ka2, kc2⟩⟩
  dsimp only
  have hcl := hS2.cf.len
  have hfl := hS2.pf.len
  refine c_seq ?_
  refine c_cut (X := {u : Unit // x.kind = 1 ∨ x.kind = 2 → x.no ∉ V.chain}) (fun _ => [PRep p d V, Bkp false kb (.cells ⟨cs⟩ T fz), KP x, Star (xs.map fun x => KP x), RowA false intC 1 ua2 us2, RowA false intC 1 ka2 ks2])
    (fun _ => [(0, .slice (some ⟨kb, ko, none⟩) xs.length c0), (3, .pointer (some ⟨p, 0, none⟩)), (5, .slice ua2 us2.length uc2), (6, .slice ka2 ks2.length kc2), (7, .int .i64 (i : Int))]) ?_ ?_
  · clear ih hback hact hsn
    by_cases hk : x.kind = 1 ∨ x.kind = 2
    case neg =>
      have k1 : x.kind ≠ 1 := fun h => hk (.inl h)
      have k2 : x.kind ≠ 2 := fun h => hk (.inr h)
      refine c_seq ?_
      refine c_region ?_
      refine o_y (y_fieldAddr0 rfl) rfl ?_
      refine o_y (y_load rfl rfl rfl) rfl ?_
      refine o_y (y_eql_f rfl rfl (by omega)) rfl ?_
      refine o_y (y_move rfl) rfl ?_
      refine o_want rfl ?_
      refine o_y (y_fieldAddr0 rfl) rfl ?_
      refine o_want rfl ?_
      refine o_y (y_load rfl rfl rfl) rfl ?_
      refine o_want rfl ?_
      refine o_y (y_eql_f rfl rfl (by omega)) rfl ?_
      refine o_y (y_pick_f rfl rfl) rfl ?_
      refine o_nil ?_
      refine f_seq ?_
      refine c_false rfl ?_
      refine c_skip ?_
      exact f_cut ⟨(), fun h => absurd h hk⟩ (by repeat (first | with_reducible exact Ent.nil | (apply Ent.one; focus (repeat (first | with_reducible exact Rem.here | apply Rem.there))))) (by repeat (first | exact trivial | refine ⟨rfl, ?_⟩))
    refine c_seq ?_
    refine c_cut (X := Unit) (fun _ => [PRep p d V, Bkp false kb (.cells ⟨cs⟩ T fz), KP x, Star (xs.map fun x => KP x), Blk xb (.cells ⟨[.int .i64 x.kind, .int .i64 x.of_, .int .i64 x.link, .int .i64 x.no, .int .i64 x.root, .int .i64 x.epoch, .slice x.ca x.cells.length x.cc]⟩ 39 (0, 0)), RowA false intC 1 ua2 us2, RowA false intC 1 ka2 ks2])
      (fun _ => [(0, .slice (some ⟨kb, ko, none⟩) xs.length c0), (3, .pointer (some ⟨p, 0, none⟩)), (5, .slice ua2 us2.length uc2), (6, .slice ka2 ks2.length kc2), (7, .int .i64 (i : Int)), (8, .pointer (some ⟨xb, 0, none⟩)), (119, .bool true)]) ?_ ?_
    · by_cases k1 : x.kind = 1
      · refine c_region ?_
        refine o_y (y_fieldAddr0 rfl) rfl ?_
        refine o_y (y_load rfl rfl rfl) rfl ?_
        refine o_y (y_eql_t rfl rfl (by omega)) rfl ?_
        refine o_y (y_move rfl) rfl ?_
        refine o_skip rfl rfl ?_
        refine o_skip rfl rfl ?_
        refine o_skip rfl rfl ?_
        refine o_y (y_pick_t rfl rfl) rfl ?_
        refine o_nil ?_
        exact f_cut () (by repeat (first | with_reducible exact Ent.nil | (apply Ent.one; focus (repeat (first | with_reducible exact Rem.here | apply Rem.there))))) (by repeat (first | exact trivial | refine ⟨rfl, ?_⟩))
      · have k2 : x.kind = 2 := by omega
        refine c_region ?_
        refine o_y (y_fieldAddr0 rfl) rfl ?_
        refine o_y (y_load rfl rfl rfl) rfl ?_
        refine o_y (y_eql_f rfl rfl (by omega)) rfl ?_
        refine o_y (y_move rfl) rfl ?_
        refine o_want rfl ?_
        refine o_y (y_fieldAddr0 rfl) rfl ?_
        refine o_want rfl ?_
        refine o_y (y_load rfl rfl rfl) rfl ?_
        refine o_want rfl ?_
        refine o_y (y_eql_t rfl rfl (by omega)) rfl ?_
        refine o_y (y_pick_f rfl rfl) rfl ?_
        refine o_nil ?_
        exact f_cut () (by repeat (first | with_reducible exact Ent.nil | (apply Ent.one; focus (repeat (first | with_reducible exact Rem.here | apply Rem.there))))) (by repeat (first | exact trivial | refine ⟨rfl, ?_⟩))
    intro _
    refine c_true rfl ?_
    refine c_seq ?_
    refine c_region ?_
    refine o_y (y_move rfl) rfl ?_
    refine o_call rfl (chain_p V (by omega)) (by repeat (first | with_reducible exact Takes.nil | (apply Takes.cons; focus (repeat (first | with_reducible exact Rem.here | apply Rem.there))))) rfl ?_
    rintro _ _ ⟨ca, cc, hwc, rfl, rfl⟩
    simp only [List.append_eq, List.cons_append, List.nil_append, List.append_nil, tup]
    refine o_y (y_assign rfl) rfl ?_
    refine o_nil ?_
    refine f_seq ?_
    refine c_seq ?_
    refine c_region ?_
    refine o_y (y_assign rfl) rfl ?_
    refine o_nil ?_
    refine f_seq ?_
    refine c_block ?_
    refine c_loop_inv (X := Nat) (fun j => j ≤ V.chain.length ∧ x.no ∉ V.chain.take j) (fun j => V.chain.length - j)
      (fun _ => [RowA false intC 1 ca V.chain, PRep p d V, Bkp false kb (.cells ⟨cs⟩ T fz), KP x, Star (xs.map fun x => KP x), Blk xb (.cells ⟨[.int .i64 x.kind, .int .i64 x.of_, .int .i64 x.link, .int .i64 x.no, .int .i64 x.root, .int .i64 x.epoch, .slice x.ca x.cells.length x.cc]⟩ 39 (0, 0)), RowA false intC 1 ua2 us2, RowA false intC 1 ka2 ks2])
      (fun j => [(0, .slice (some ⟨kb, ko, none⟩) xs.length c0), (3, .pointer (some ⟨p, 0, none⟩)), (5, .slice ua2 us2.length uc2), (6, .slice ka2 ks2.length kc2), (7, .int .i64 (i : Int)), (8, .pointer (some ⟨xb, 0, none⟩)), (11, .slice ca V.chain.length cc), (12, .int .i64 (j : Int))]) 0 ⟨Nat.zero_le _, by simp⟩ (by repeat (first | with_reducible exact Ent.nil | (apply Ent.one; focus (repeat (first | with_reducible exact Rem.here | apply Rem.there))))) (by repeat (first | exact trivial | refine ⟨rfl, ?_⟩)) ?_
    rintro j ⟨hj, hjn⟩ ih
    by_cases hlt3 : j < V.chain.length
    case neg =>
      clear ih
      rw [List.take_of_length_le (by omega)] at hjn
      refine c_seq ?_
      refine c_seq ?_
      refine c_region ?_
      refine o_y (y_move rfl) rfl ?_
      refine o_y (y_move rfl) rfl ?_
      refine o_y (y_len_slice rfl) rfl ?_
      refine o_y (y_lss_f rfl rfl (by omega)) rfl ?_
      refine o_nil ?_
      refine f_seq ?_
      refine c_false rfl ?_
      refine c_exit ?_
      refine f_seq_exit ?_
      refine f_seq_exit ?_
      refine f_block_here ?_
      exact f_cut ⟨(), fun _ => hjn⟩ (by repeat (first | with_reducible exact Ent.nil | (apply Ent.one; focus (repeat (first | with_reducible exact Rem.here | apply Rem.there))))) (by repeat (first | exact trivial | refine ⟨rfl, ?_⟩))
    obtain ⟨z, hz⟩ : ∃ z, V.chain[j]? = some z := ⟨_, List.getElem?_eq_getElem hlt3⟩
    have hne2 : V.chain ≠ [] := by intro h; rw [h] at hz; cases hz
    refine c_open (A := RowA false intC 1 ca V.chain) (h := RowA.opens (f := intC) hne2) (by repeat (first | with_reducible exact Rem.here | apply Rem.there)) (fun y hy2 => ?_)
    obtain ⟨kb2, ko2, cs2, T2, fz2⟩ := y
    obtain ⟨e3, e4⟩ := hy2
    dsimp only at e3 e4
    subst e3
    have hg1 := int_get e4 hz
    simp only [List.append_eq, List.cons_append, List.nil_append, List.append_nil, tup]
    refine c_seq ?_
    refine c_seq ?_
    refine c_region ?_
    refine o_y (y_move rfl) rfl ?_
    refine o_y (y_move rfl) rfl ?_
    refine o_y (y_len_slice rfl) rfl ?_
    refine o_y (y_lss_t rfl rfl (by omega)) rfl ?_
    refine o_nil ?_
    refine f_seq ?_
    refine c_true rfl ?_
    refine c_skip ?_
    refine f_seq ?_
    refine c_seq ?_
    refine c_block ?_
    refine c_seq ?_
    by_cases hzn : z = x.no
    · clear ih
      refine pl_start [] Tryz.mixed ?_; intro hd
      refine pl_lock (A := Bkp _ _ _) Rem.here rfl ?_ hd; intro hb0
      refine pl_lock (A := Bkp _ _ _) (Rem.there (Rem.there (Rem.there (Rem.there Rem.here)))) rfl ?_ hd; intro hb1
      refine pl_take (i := 0) rfl (by kernel_rfl) (y_move rfl) ?_ hd; clear hd; intro hd
      refine pl_take (i := 1) rfl (by kernel_rfl) (y_move rfl) ?_ hd; clear hd; intro hd
      refine pl_take (i := 2) rfl (by kernel_rfl) (y_indexAddr j rfl rfl rfl hlt3) ?_ hd; clear hd; intro hd
      refine pl_take (i := 3) rfl (by kernel_rfl) (y_load rfl rfl hg1) ?_ hd; clear hd; intro hd
      refine pl_take (i := 4) rfl (by kernel_rfl) (y_fieldAddr0 rfl) ?_ hd; clear hd; intro hd
      refine pl_take (i := 5) rfl (by kernel_rfl) (y_load rfl rfl rfl) ?_ hd; clear hd; intro hd
      refine pl_take (i := 6) rfl (by kernel_rfl) (y_eql_t rfl rfl (by omega)) ?_ hd; clear hd; intro hd
      refine pl_done (by kernel_rfl) ?_ hd
      refine f_unlock (A := Bkp _ _ _) ?_
      refine f_unlock (A := Bkp _ _ _) ?_
      refine f_seq ?_
      refine c_true rfl ?_
      refine c_seq ?_
      refine c_region ?_
      refine o_y (y_assign rfl) rfl ?_
      refine o_nil ?_
      refine f_seq ?_
      refine c_ret ?_
      refine f_block_ret ?_
      refine f_seq_ret ?_
      refine f_seq_ret ?_
      refine f_block_ret ?_
      refine f_seq_ret ?_
      refine f_block_ret ?_
      refine f_seq_ret ?_
      refine f_seq_ret ?_
      refine f_block_ret ?_
      refine f_seq_ret ?_
      exact f_ent Ent.nil (f_ret rfl ⟨rfl, rfl⟩)
    ·
      refine pl_start [] Tryz.mixed ?_; intro hd
      refine pl_lock (A := Bkp _ _ _) Rem.here rfl ?_ hd; intro hb0
      refine pl_lock (A := Bkp _ _ _) (Rem.there (Rem.there (Rem.there (Rem.there Rem.here)))) rfl ?_ hd; intro hb1
      refine pl_take (i := 0) rfl (by kernel_rfl) (y_move rfl) ?_ hd; clear hd; intro hd
      refine pl_take (i := 1) rfl (by kernel_rfl) (y_move rfl) ?_ hd; clear hd; intro hd
      refine pl_take (i := 2) rfl (by kernel_rfl) (y_indexAddr j rfl rfl rfl hlt3) ?_ hd; clear hd; intro hd
      refine pl_take (i := 3) rfl (by kernel_rfl) (y_load rfl rfl hg1) ?_ hd; clear hd; intro hd
      refine pl_take (i := 4) rfl (by kernel_rfl) (y_fieldAddr0 rfl) ?_ hd; clear hd; intro hd
      refine pl_take (i := 5) rfl (by kernel_rfl) (y_load rfl rfl rfl) ?_ hd; clear hd; intro hd
      refine pl_take (i := 6) rfl (by kernel_rfl) (y_eql_f rfl rfl (by omega)) ?_ hd; clear hd; intro hd
      refine pl_done (by kernel_rfl) ?_ hd
      refine f_unlock (A := Bkp _ _ _) ?_
      refine f_unlock (A := Bkp _ _ _) ?_
      refine f_seq ?_
      refine c_false rfl ?_
      refine c_skip ?_
      refine f_block ?_
      refine f_seq ?_
      refine c_region ?_
      refine o_y (y_move rfl) rfl ?_
      refine o_y (y_arith64 rfl rfl rfl (by omega)) rfl ?_
      refine o_y (y_assign rfl) rfl ?_
      refine o_nil ?_
      refine f_next ?_ (by repeat (first | exact trivial | refine ⟨rfl, ?_⟩)) (ih (j + 1) ⟨hlt3, ?_⟩ (by omega))
      · exact Ent.put (P := [Bkp false kb2 (.cells ⟨cs2⟩ T2 fz2)]) (by repeat (first | with_reducible exact Takes.nil | (apply Takes.cons; focus (repeat (first | with_reducible exact Rem.here | apply Rem.there))))) (RowA.shut rfl e4) (by repeat (first | with_reducible exact Ent.nil | (apply Ent.one; focus (repeat (first | with_reducible exact Rem.here | apply Rem.there)))))
      · rw [take_snoc' hz]
        intro hm
        rcases List.mem_append.1 hm with hm | hm
        · exact hjn hm
        · rw [List.mem_singleton] at hm; exact hzn hm.symm
  rintro ⟨_, hb⟩
  have hv2 := hact hb
  have hul2 := hv2.now.len hS2.pf hS2.cf
  have hcov := hv2.now.cover hS2.pf.sf hS2.pf.lt hS2.cf.ok
  have hpp := hS2.pf.pg
  have hpm := hS2.pf.most
  refine c_seq ?_
  refine c_cut (X := Unit) (fun _ => [PRep p d V, Bkp false kb (.cells ⟨cs⟩ T fz), KP x, Star (xs.map fun x => KP x), RowA false intC 1 ua2 us2, RowA false intC 1 ka2 ks2])
    (fun _ => [(0, .slice (some ⟨kb, ko, none⟩) xs.length c0), (3, .pointer (some ⟨p, 0, none⟩)), (5, .slice ua2 us2.length uc2), (6, .slice ka2 ks2.length kc2), (7, .int .i64 (i : Int)), (149, .bool false)]) ?_ ?_
  · clear ih hback hact hsn
    refine c_open (A := PRep p d V) (by repeat (first | with_reducible exact Rem.here | apply Rem.there)) (fun z hz => ?_)
    obtain ⟨h1, h2, h3⟩ := hz
    obtain ⟨ca, cc, lfa, lfc, la, lc⟩ := z
    dsimp only at h1 h2 h3
    try dsimp only [PZ.frs]
    simp only [List.append_eq, List.cons_append, List.nil_append, List.append_nil, tup]
    refine c_open (A := PCo p d _ _ _ V) (by repeat (first | with_reducible exact Rem.here | apply Rem.there)) (fun y hy => ?_)
    obtain ⟨rb, s, fa, fc, m, es, ck⟩ := y
    obtain ⟨hwf, him⟩ := hy
    dsimp only at hwf him
    try dsimp only [PY.frs]
    simp only [List.append_eq, List.cons_append, List.nil_append, List.append_nil, tup]
    refine pl_start [1, 2, 4, 6, 7, 12, 13] Tryz.mixed ?_; intro hd
    refine pl_lock (A := Blk _ _) Rem.here rfl ?_ hd; intro hb0
    refine pl_lock (A := Blk _ _) Rem.here rfl ?_ hd; intro hb1
    refine pl_take (i := 0) rfl (by kernel_rfl) (y_move rfl) ?_ hd; clear hd; intro hd
    refine pl_take (i := 3) rfl (by kernel_rfl) (y_move rfl) ?_ hd; clear hd; intro hd
    refine pl_take (i := 5) rfl (by kernel_rfl) (y_move rfl) ?_ hd; clear hd; intro hd
    refine pl_take (i := 8) rfl (by kernel_rfl) (y_move rfl) ?_ hd; clear hd; intro hd
    refine pl_take (i := 9) rfl (by kernel_rfl) (y_nilCheck rfl) ?_ hd; clear hd; intro hd
    refine pl_take (i := 10) rfl (by kernel_rfl) (y_fieldAddr0 rfl) ?_ hd; clear hd; intro hd
    refine pl_take (i := 11) rfl (by kernel_rfl) (y_load rfl rfl rfl) ?_ hd; clear hd; intro hd
    refine pl_two (i := 1) (j := 2) (by kernel_rfl) rfl rfl ?_ ?_ hd
    · clear hd; intro hd
      refine o_callK (b := p) rfl (free_k (by omega) hwf) (by repeat (first | with_reducible exact Takes.nil | (apply Takes.cons; focus (repeat (first | with_reducible exact Rem.here | apply Rem.there))))) rfl ?_
      rintro _ _ ⟨a', ac', hw', rfl, rfl⟩
      simp only [List.append_eq, List.cons_append, List.nil_append, List.append_nil, tup]
      refine pl_back (by repeat (first | with_reducible exact Owes.nil | with_reducible refine Owes.same ?_ | with_reducible refine Owes.any ?_ | refine Owes.waived 1 (by kernel_rfl) ?_)) ?_ hd; clear hd; intro hd
      refine pl_sole (i := 2) (by kernel_rfl) rfl ?_ hd; clear hd; intro hd
      refine o_buildSlice rfl rfl rfl rfl rfl (fun nb => ?_)
      refine pl_back (by repeat (first | with_reducible exact Owes.nil | with_reducible refine Owes.same ?_ | with_reducible refine Owes.any ?_ | refine Owes.waived 2 (by kernel_rfl) ?_ | refine Owes.waived 1 (by kernel_rfl) ?_)) ?_ hd; clear hd; intro hd
      refine pl_sole (i := 4) (by kernel_rfl) rfl ?_ hd; clear hd; intro hd
      refine o_ent (Ent.put (A := Sl 3 1 (some ⟨nb, 0, none⟩) 0 0 []) (P := [Blk nb (.cells ⟨[]⟩ 3 (0, 0))]) (by repeat (first | with_reducible exact Takes.nil | (apply Takes.cons; focus (repeat (first | with_reducible exact Rem.here | apply Rem.there))))) (Sl.shut_zero' nb) (Ent.refl _)) ?_
      refine o_append rfl rfl (Src.row (f := intC) (xs := us2) (a := ua2) (cap := uc2) (q := false) (fun _ => rfl) (by repeat (first | with_reducible exact Rem.here | apply Rem.there))) (by repeat (first | with_reducible exact Rem.here | apply Rem.there)) (int_one us2) (by omega) rfl (by omega) rfl (fun a2 cap2 => ?_)
      simp only [Nat.zero_add, List.nil_append]
      refine pl_back (by repeat (first | with_reducible exact Owes.nil | with_reducible refine Owes.same ?_ | with_reducible refine Owes.any ?_ | refine Owes.waived 4 (by kernel_rfl) ?_ | refine Owes.waived 2 (by kernel_rfl) ?_ | refine Owes.waived 1 (by kernel_rfl) ?_)) ?_ hd; clear hd; intro hd
      refine pl_sole (i := 6) (by kernel_rfl) rfl ?_ hd; clear hd; intro hd
      refine o_callK (b := p) rfl (chain_k (by omega) h1) (by repeat (first | with_reducible exact Takes.nil | (apply Takes.cons; focus (repeat (first | with_reducible exact Rem.here | apply Rem.there))))) rfl ?_
      rintro _ _ ⟨b', bc', hw2', rfl, rfl⟩
      simp only [List.append_eq, List.cons_append, List.nil_append, List.append_nil, tup]
      refine pl_back (by repeat (first | with_reducible exact Owes.nil | with_reducible refine Owes.same ?_ | with_reducible refine Owes.any ?_ | refine Owes.waived 6 (by kernel_rfl) ?_ | refine Owes.waived 4 (by kernel_rfl) ?_ | refine Owes.waived 2 (by kernel_rfl) ?_ | refine Owes.waived 1 (by kernel_rfl) ?_)) ?_ hd; clear hd; intro hd
      refine pl_sole (i := 7) (by kernel_rfl) rfl ?_ hd; clear hd; intro hd
      refine o_append rfl rfl (Src.row (f := intC) (xs := V.chain) (a := b') (cap := bc') (q := false) (fun _ => rfl) (by repeat (first | with_reducible exact Rem.here | apply Rem.there))) (by repeat (first | with_reducible exact Rem.here | apply Rem.there)) (int_one V.chain) (by omega) rfl (by omega) rfl (fun a3 cap3 => ?_)
      refine pl_back (by repeat (first | with_reducible exact Owes.nil | with_reducible refine Owes.same ?_ | with_reducible refine Owes.any ?_ | refine Owes.waived 7 (by kernel_rfl) ?_ | refine Owes.waived 6 (by kernel_rfl) ?_ | refine Owes.waived 4 (by kernel_rfl) ?_ | refine Owes.waived 2 (by kernel_rfl) ?_ | refine Owes.waived 1 (by kernel_rfl) ?_)) ?_ hd; clear hd; intro hd
      refine pl_sole (i := 12) (by kernel_rfl) rfl ?_ hd; clear hd; intro hd
      refine o_callK (b := rb) rfl pages_k (by repeat (first | with_reducible exact Takes.nil | (apply Takes.cons; focus (repeat (first | with_reducible exact Rem.here | apply Rem.there))))) rfl ?_
      rintro _ _ ⟨rfl, rfl⟩
      simp only [List.append_eq, List.cons_append, List.nil_append, List.append_nil, tup]
      refine pl_back (by repeat (first | with_reducible exact Owes.nil | with_reducible refine Owes.same ?_ | with_reducible refine Owes.any ?_ | refine Owes.waived 12 (by kernel_rfl) ?_ | refine Owes.waived 7 (by kernel_rfl) ?_ | refine Owes.waived 6 (by kernel_rfl) ?_ | refine Owes.waived 4 (by kernel_rfl) ?_ | refine Owes.waived 2 (by kernel_rfl) ?_ | refine Owes.waived 1 (by kernel_rfl) ?_)) ?_ hd; clear hd; intro hd
      refine pl_sole (i := 13) (by kernel_rfl) rfl ?_ hd; clear hd; intro hd
      refine o_shareSl (a := a3) (cap := cap3) intC (us2 ++ V.chain) (by repeat (first | with_reducible exact Rem.here | apply Rem.there)) (by rw [List.length_append]) (by rw [List.flatMap_append]) ?_
      have hcf := cover_f a' a3 ac' cap3 false V.free (us2 ++ V.chain) V.pages (by omega) (by rw [List.length_append]; omega) (by omega)
      rw [List.length_append] at hcf
      refine o_call rfl hcf (by repeat (first | with_reducible exact Takes.nil | (apply Takes.cons; focus (repeat (first | with_reducible exact Rem.here | apply Rem.there))))) rfl ?_
      rintro _ _ ⟨r1, hr1, rfl, rfl⟩
      have hr1 := hr1.2 hcov
      subst hr1
      simp only [List.append_eq, List.cons_append, List.nil_append, List.append_nil, tup]
      refine pl_back (by repeat (first | with_reducible exact Owes.nil | with_reducible refine Owes.same ?_ | with_reducible refine Owes.any ?_ | refine Owes.waived 13 (by kernel_rfl) ?_ | refine Owes.waived 12 (by kernel_rfl) ?_ | refine Owes.waived 7 (by kernel_rfl) ?_ | refine Owes.waived 6 (by kernel_rfl) ?_ | refine Owes.waived 4 (by kernel_rfl) ?_ | refine Owes.waived 2 (by kernel_rfl) ?_ | refine Owes.waived 1 (by kernel_rfl) ?_)) ?_ hd; clear hd; intro hd
      refine pl_take (i := 14) rfl (by kernel_rfl) (y_not rfl) ?_ hd; clear hd; intro hd
      refine pl_done (by kernel_rfl) ?_ hd
      refine f_unlock (A := Blk _ _) ?_
      refine f_unlock (A := Blk _ _) ?_
      refine f_cut () ?_ (by repeat (first | exact trivial | refine ⟨rfl, ?_⟩))
      refine (Ent.put (by repeat (first | with_reducible exact Takes.nil | (apply Takes.cons; focus (repeat (first | with_reducible exact Rem.here | apply Rem.there))))) (PCo.mk V (by exact ⟨rfl, rfl, rfl, rfl, rfl, rfl, rfl⟩) hwf him) (Ent.refl _)).trans ?_
      exact Ent.put (by repeat (first | with_reducible exact Takes.nil | (apply Takes.cons; focus (repeat (first | with_reducible exact Rem.here | apply Rem.there))))) (PRep.mk V (by exact ⟨rfl, rfl, rfl, rfl, rfl, rfl, rfl⟩) h1 h2 h3) (by repeat (first | with_reducible exact Ent.nil | (apply Ent.one; focus (repeat (first | with_reducible exact Rem.here | apply Rem.there)))))
    · clear hd; intro hd
      refine o_buildSlice rfl rfl rfl rfl rfl (fun nb => ?_)
      refine pl_back (by repeat (first | with_reducible exact Owes.nil | with_reducible refine Owes.same ?_ | with_reducible refine Owes.any ?_ | refine Owes.waived 2 (by kernel_rfl) ?_)) ?_ hd; clear hd; intro hd
      refine pl_sole (i := 1) (by kernel_rfl) rfl ?_ hd; clear hd; intro hd
      refine o_callK (b := p) rfl (free_k (by omega) hwf) (by repeat (first | with_reducible exact Takes.nil | (apply Takes.cons; focus (repeat (first | with_reducible exact Rem.here | apply Rem.there))))) rfl ?_
      rintro _ _ ⟨a', ac', hw', rfl, rfl⟩
      simp only [List.append_eq, List.cons_append, List.nil_append, List.append_nil, tup]
      refine pl_back (by repeat (first | with_reducible exact Owes.nil | with_reducible refine Owes.same ?_ | with_reducible refine Owes.any ?_ | refine Owes.waived 1 (by kernel_rfl) ?_ | refine Owes.waived 2 (by kernel_rfl) ?_)) ?_ hd; clear hd; intro hd
      refine pl_sole (i := 4) (by kernel_rfl) rfl ?_ hd; clear hd; intro hd
      refine o_ent (Ent.put (A := Sl 3 1 (some ⟨nb, 0, none⟩) 0 0 []) (P := [Blk nb (.cells ⟨[]⟩ 3 (0, 0))]) (by repeat (first | with_reducible exact Takes.nil | (apply Takes.cons; focus (repeat (first | with_reducible exact Rem.here | apply Rem.there))))) (Sl.shut_zero' nb) (Ent.refl _)) ?_
      refine o_append rfl rfl (Src.row (f := intC) (xs := us2) (a := ua2) (cap := uc2) (q := false) (fun _ => rfl) (by repeat (first | with_reducible exact Rem.here | apply Rem.there))) (by repeat (first | with_reducible exact Rem.here | apply Rem.there)) (int_one us2) (by omega) rfl (by omega) rfl (fun a2 cap2 => ?_)
      simp only [Nat.zero_add, List.nil_append]
      refine pl_back (by repeat (first | with_reducible exact Owes.nil | with_reducible refine Owes.same ?_ | with_reducible refine Owes.any ?_ | refine Owes.waived 4 (by kernel_rfl) ?_ | refine Owes.waived 1 (by kernel_rfl) ?_ | refine Owes.waived 2 (by kernel_rfl) ?_)) ?_ hd; clear hd; intro hd
      refine pl_sole (i := 6) (by kernel_rfl) rfl ?_ hd; clear hd; intro hd
      refine o_callK (b := p) rfl (chain_k (by omega) h1) (by repeat (first | with_reducible exact Takes.nil | (apply Takes.cons; focus (repeat (first | with_reducible exact Rem.here | apply Rem.there))))) rfl ?_
      rintro _ _ ⟨b', bc', hw2', rfl, rfl⟩
      simp only [List.append_eq, List.cons_append, List.nil_append, List.append_nil, tup]
      refine pl_back (by repeat (first | with_reducible exact Owes.nil | with_reducible refine Owes.same ?_ | with_reducible refine Owes.any ?_ | refine Owes.waived 6 (by kernel_rfl) ?_ | refine Owes.waived 4 (by kernel_rfl) ?_ | refine Owes.waived 1 (by kernel_rfl) ?_ | refine Owes.waived 2 (by kernel_rfl) ?_)) ?_ hd; clear hd; intro hd
      refine pl_sole (i := 7) (by kernel_rfl) rfl ?_ hd; clear hd; intro hd
      refine o_append rfl rfl (Src.row (f := intC) (xs := V.chain) (a := b') (cap := bc') (q := false) (fun _ => rfl) (by repeat (first | with_reducible exact Rem.here | apply Rem.there))) (by repeat (first | with_reducible exact Rem.here | apply Rem.there)) (int_one V.chain) (by omega) rfl (by omega) rfl (fun a3 cap3 => ?_)
      refine pl_back (by repeat (first | with_reducible exact Owes.nil | with_reducible refine Owes.same ?_ | with_reducible refine Owes.any ?_ | refine Owes.waived 7 (by kernel_rfl) ?_ | refine Owes.waived 6 (by kernel_rfl) ?_ | refine Owes.waived 4 (by kernel_rfl) ?_ | refine Owes.waived 1 (by kernel_rfl) ?_ | refine Owes.waived 2 (by kernel_rfl) ?_)) ?_ hd; clear hd; intro hd
      refine pl_sole (i := 12) (by kernel_rfl) rfl ?_ hd; clear hd; intro hd
      refine o_callK (b := rb) rfl pages_k (by repeat (first | with_reducible exact Takes.nil | (apply Takes.cons; focus (repeat (first | with_reducible exact Rem.here | apply Rem.there))))) rfl ?_
      rintro _ _ ⟨rfl, rfl⟩
      simp only [List.append_eq, List.cons_append, List.nil_append, List.append_nil, tup]
      refine pl_back (by repeat (first | with_reducible exact Owes.nil | with_reducible refine Owes.same ?_ | with_reducible refine Owes.any ?_ | refine Owes.waived 12 (by kernel_rfl) ?_ | refine Owes.waived 7 (by kernel_rfl) ?_ | refine Owes.waived 6 (by kernel_rfl) ?_ | refine Owes.waived 4 (by kernel_rfl) ?_ | refine Owes.waived 1 (by kernel_rfl) ?_ | refine Owes.waived 2 (by kernel_rfl) ?_)) ?_ hd; clear hd; intro hd
      refine pl_sole (i := 13) (by kernel_rfl) rfl ?_ hd; clear hd; intro hd
      refine o_shareSl (a := a3) (cap := cap3) intC (us2 ++ V.chain) (by repeat (first | with_reducible exact Rem.here | apply Rem.there)) (by rw [List.length_append]) (by rw [List.flatMap_append]) ?_
      have hcf := cover_f a' a3 ac' cap3 false V.free (us2 ++ V.chain) V.pages (by omega) (by rw [List.length_append]; omega) (by omega)
      rw [List.length_append] at hcf
      refine o_call rfl hcf (by repeat (first | with_reducible exact Takes.nil | (apply Takes.cons; focus (repeat (first | with_reducible exact Rem.here | apply Rem.there))))) rfl ?_
      rintro _ _ ⟨r1, hr1, rfl, rfl⟩
      have hr1 := hr1.2 hcov
      subst hr1
      simp only [List.append_eq, List.cons_append, List.nil_append, List.append_nil, tup]
      refine pl_back (by repeat (first | with_reducible exact Owes.nil | with_reducible refine Owes.same ?_ | with_reducible refine Owes.any ?_ | refine Owes.waived 13 (by kernel_rfl) ?_ | refine Owes.waived 12 (by kernel_rfl) ?_ | refine Owes.waived 7 (by kernel_rfl) ?_ | refine Owes.waived 6 (by kernel_rfl) ?_ | refine Owes.waived 4 (by kernel_rfl) ?_ | refine Owes.waived 1 (by kernel_rfl) ?_ | refine Owes.waived 2 (by kernel_rfl) ?_)) ?_ hd; clear hd; intro hd
      refine pl_take (i := 14) rfl (by kernel_rfl) (y_not rfl) ?_ hd; clear hd; intro hd
      refine pl_done (by kernel_rfl) ?_ hd
      refine f_unlock (A := Blk _ _) ?_
      refine f_unlock (A := Blk _ _) ?_
      refine f_cut () ?_ (by repeat (first | exact trivial | refine ⟨rfl, ?_⟩))
      refine (Ent.put (by repeat (first | with_reducible exact Takes.nil | (apply Takes.cons; focus (repeat (first | with_reducible exact Rem.here | apply Rem.there))))) (PCo.mk V (by exact ⟨rfl, rfl, rfl, rfl, rfl, rfl, rfl⟩) hwf him) (Ent.refl _)).trans ?_
      exact Ent.put (by repeat (first | with_reducible exact Takes.nil | (apply Takes.cons; focus (repeat (first | with_reducible exact Rem.here | apply Rem.there))))) (PRep.mk V (by exact ⟨rfl, rfl, rfl, rfl, rfl, rfl, rfl⟩) h1 h2 h3) (by repeat (first | with_reducible exact Ent.nil | (apply Ent.one; focus (repeat (first | with_reducible exact Rem.here | apply Rem.there)))))
  intro _
  refine c_false rfl ?_
  refine c_skip ?_
  refine f_block ?_
  refine f_seq ?_
  refine c_region ?_
  refine o_y (y_move rfl) rfl ?_
  refine o_y (y_arith64 rfl rfl rfl (by omega)) rfl ?_
  refine o_y (y_assign rfl) rfl ?_
  refine o_nil ?_
  refine f_next ?_ (by repeat (first | exact trivial | refine ⟨rfl, ?_⟩)) (ih (i + 1, (us2, ua2, uc2), (ks2, ka2, kc2)) ⟨hlt, hlt2, by rw [hsn]; exact hv2⟩ (by dsimp only; omega))
  dsimp only
  rw [hsn]
  refine Ent.trans (M := KP x :: Star (xs.map fun x => KP x) :: PRep p d V :: Bkp false kb (.cells ⟨cs⟩ T fz) :: RowA false intC 1 ua2 us2 :: [RowA false intC 1 ka2 ks2]) (by repeat (first | with_reducible exact Ent.nil | (apply Ent.one; focus (repeat (first | with_reducible exact Rem.here | apply Rem.there))))) ?_
  exact hback
end Go.Lun

/- From a contract to the world of a call: what was there stays as it was. -/
namespace Go.Lun
open Go.Proofs Go.ChangeShapes Go.WideShapes Go.ChangeAt Go.RowKit

/-- All that there is when a call begins, as its frame. -/
def Fr.all (W : World) : Fr := ⟨W.os, W.output, W.heap.size, fun b => W.heap[b]?.map fun o => (false, o), none⟩

structure Kept (W w : World) : Prop where
  os : w.os = W.os
  output : w.output = W.output
  size : W.heap.size ≤ w.heap.size
  block : ∀ k, k < W.heap.size → w.heap[k]? = W.heap[k]?

theorem sat_all (W : World) : Sat (Fr.all W).res W := by
  intro b p o h
  simp only [Fr.all, Option.map_eq_some_iff] at h
  obtain ⟨o', h1, h2⟩ := h
  injection h2 with _ h2
  rw [h1, h2]

theorem kept_of {W w : World} {L : List Asrt} (s : St (Fr.all W) L w) : Kept W w := by
  obtain ⟨h1, h2, h3, _, _, hf, _, _⟩ := s
  refine ⟨h1, h2, h3, fun k hk => ?_⟩
  have h4 : W.heap[k]? = some W.heap[k] := Array.getElem?_eq_getElem hk
  rw [h4]
  exact hf k false _ (by simp only [Fr.all, h4, Option.map_some])

theorem Kept.frame {W w : World} (h : Kept W w) (may : MemPlace → Prop) : W.keptBut w may := by
  refine ⟨h.os, h.output, fun i hi => ?_⟩
  rw [h.block i hi]
  split <;> simp_all

theorem Kept.same {W w : World} (h : Kept W w) {p : MemPlace} (hp : p.block < W.heap.size) : W.sameAt w p := by
  cases p with
  | cell b o => exact World.cell?_of_block (w := W) (h.block b hp)
  | map b => exact h.block b hp

theorem Kept.trod {H : Type} {enc : TypeId × Value → H} {P : Program} {t : TypeId} (hl : laidOutB P = true) (hr : P.readableRec t = true) (hrow : t < P.types.size) {W w : World} {v : Value} {d : DataW H} {ps : List MemPlace}
    (h : DataW.Trod enc P W 0 (fun _ => true) true t v d ps) (hb : Kept W w) (hlt : ∀ x ∈ ps, x.block < W.heap.size) :
    DataW.Trod enc P w 0 (fun b => decide (b < W.heap.size)) true t v d ps :=
  WideElems.Trod_stays hl hr hrow h (fun x hx => hb.same (hlt x hx)) (fun x hx => by simpa using hlt x hx)

theorem Try.own : ownKnob Tryz.prog.godebug = none := by kernel_rfl
theorem Try.laidOut : laidOutB Tryz.prog = true := by kernel_rfl

end Go.Lun

/- Rows that are read alone, out of a call's arguments. -/
namespace Go.Lun
open Go.Proofs Go.ChangeShapes Go.WideShapes Go.ChangeAt Go.RowKit Go.Deep

theorem sep_all {W : World} : ∀ {L : List Asrt}, (∀ A ∈ L, A (Fr.all W).res) → sep L (Fr.all W).res
  | [], _ => trivial
  | A :: L, h => by
    have hc : Compat (Fr.all W).res (Fr.all W).res := by
      intro b p o q o' h1 h2
      have : (p, o) = (q, o') := Option.some.inj (h1.symm.trans h2)
      injection this with e1 e2
      subst e1; subst e2
      simp only [Fr.all, Option.map_eq_some_iff] at h1
      obtain ⟨_, _, h3⟩ := h1
      injection h3 with h3 _
      exact ⟨h3.symm, h3.symm, rfl⟩
    refine ⟨(Fr.all W).res, (Fr.all W).res, hc, ?_, h A (by simp), sep_all fun B hB => h B (by simp [hB])⟩
    funext b
    simp only [join]
    split <;> simp_all

theorem st_args {W : World} {L : List Asrt} (h : ∀ A ∈ L, A (Fr.all W).res) : St (Fr.all W) L W := by
  refine ⟨rfl, rfl, Nat.le_refl _, (Fr.all W).res, ?_, sat_all W, sat_all W, sep_all h⟩
  intro b p o q o' h1 h2
  have : (p, o) = (q, o') := Option.some.inj (h1.symm.trans h2)
  injection this with e1 e2
  subst e1; subst e2
  simp only [Fr.all, Option.map_eq_some_iff] at h1
  obtain ⟨_, _, h3⟩ := h1
  injection h3 with h3 _
  exact ⟨h3.symm, h3.symm, rfl⟩

/-- A contract that only reads what the arguments read, in the world of a call. -/
theorem Fn.lift_args {P : Program} {f : FuncId} {args : List Value} {L0 : List Asrt} {R : Value → List Asrt → Prop} {W : World} (h : Fn P f args L0 R) (hL : ∀ A ∈ L0, A (Fr.all W).res) :
    Calls P f ⟨args⟩ W fun e w => ∃ v L, e = .returned v ∧ R v L ∧ Kept W w := (h.out (Fr.all W) W (st_args hL)).mono fun e w => by
  rintro ⟨v, L, rfl, hR, s⟩
  exact ⟨v, L, rfl, hR, kept_of s⟩

theorem mapM_get {α β : Type} {g : α → Option β} : ∀ {xs : List α} {ys : List β}, xs.mapM g = some ys → ys.length = xs.length ∧ ∀ (j : Nat) (x : α), xs[j]? = some x → g x = ys[j]?
  | [], ys, h => by simp at h; subst h; simp
  | x :: xs, ys, h => by
    rw [List.mapM_cons] at h
    cases hg : g x with
    | none => rw [hg] at h; cases h
    | some y =>
      cases hm : xs.mapM g with
      | none => rw [hg, hm] at h; cases h
      | some zs =>
        rw [hg, hm] at h
        have h' : y :: zs = ys := by injection h
        subst h'
        obtain ⟨h1, h2⟩ := mapM_get hm
        refine ⟨by simp [h1], fun j z hz => ?_⟩
        cases j with
        | zero => simp at hz; subst hz; simpa using hg
        | succ j => simpa using h2 j z (by simpa using hz)

theorem getN_of {cs ys : List Value} {off : Nat} (h : ∀ j, j < ys.length → cs[off + j]? = ys[j]?) : getN cs off ys.length = some ys := by
  have hl : ys.length ≤ (cs.drop off).length := by
    rw [List.length_drop]
    rcases Nat.eq_zero_or_pos ys.length with h0 | h0
    · omega
    · have := h (ys.length - 1) (by omega)
      rw [List.getElem?_eq_getElem (by omega : ys.length - 1 < ys.length)] at this
      have h2 : off + (ys.length - 1) < cs.length := by
        rcases Nat.lt_or_ge (off + (ys.length - 1)) cs.length with h3 | h3
        · exact h3
        · rw [List.getElem?_eq_none h3] at this; cases this
      omega
  unfold getN
  rw [takeN_take hl]
  congr 1
  apply List.ext_getElem?
  intro j
  rcases Nat.lt_or_ge j ys.length with hj | hj
  · rw [List.getElem?_take_of_lt hj, List.getElem?_drop]; exact h j hj
  · rw [List.getElem?_eq_none hj, List.getElem?_eq_none (by rw [List.length_take]; omega)]

theorem getN_app {cs us vs : List Value} {off k m : Nat} (h1 : getN cs off k = some us) (h2 : getN cs (off + k) m = some vs) : getN cs off (k + m) = some (us ++ vs) := by
  have l1 := getN_length h1
  have l2 := getN_length h2
  have g1 := (takeN_get h1).2
  have g2 := (takeN_get h2).2
  have := getN_of (cs := cs) (ys := us ++ vs) (off := off) (fun j hj => by
    rw [List.length_append] at hj
    by_cases hjk : j < us.length
    · rw [List.getElem?_append_left hjk, ← g1 j (by omega), List.getElem?_drop]
    · rw [List.getElem?_append_right (by omega), ← g2 (j - us.length) (by omega), List.getElem?_drop]
      congr 1; omega)
  rw [List.length_append, l1, l2] at this
  exact this

theorem getN_flat {α : Type} {f : α → List Value} {k : Nat} {cs : List Value} : ∀ {xs : List α} {off : Nat}, (∀ i x, xs[i]? = some x → getN cs (off + i * k) k = some (f x)) → getN cs off (xs.length * k) = some (xs.flatMap f)
  | [], off, _ => by simp [getN, takeN]
  | x :: xs, off, h => by
    have h0 := h 0 x rfl
    rw [Nat.zero_mul, Nat.add_zero] at h0
    have ih := getN_flat (xs := xs) (off := off + k) (fun i y hy => by
      have := h (i + 1) y (by simpa using hy)
      have e : off + (i + 1) * k = off + k + i * k := by rw [Nat.add_mul, Nat.one_mul]; omega
      rw [← e]; exact this)
    have := getN_app h0 ih
    rw [List.flatMap_cons, List.length_cons, Nat.add_mul, Nat.one_mul, Nat.add_comm]
    exact this

/-- Cells of a world's row. -/
theorem cells_at {W : World} {a : Addr} {o k : Nat} {l : List Value} (hk : 0 < k) (h : W.cells? 0 (a.add o) k = some l) :
    ∃ (c : List Value) (T : TypeId) (fz : Nat × Nat), W.heap[a.block]? = some (.cells ⟨c⟩ T fz) ∧ getN c (a.off + o) k = some l ∧ (o = 0 → a.spot = none) := by
  unfold World.cells? at h
  rw [if_pos (Nat.zero_le _)] at h
  obtain ⟨h1, h2⟩ := mapM_get h
  rw [List.length_range] at h1
  have hb : (a.add o).block = a.block := by unfold Addr.add; split <;> rfl
  have ho : (a.add o).off = a.off + o := by unfold Addr.add; split <;> simp_all
  have key : ∀ j, j < k → W.cell? ((a.add o).add j) = l[j]? := fun j hj => h2 j j (by rw [List.getElem?_range hj])
  have hbj : ∀ j, ((a.add o).add j).block = a.block := fun j => by rw [← hb]; generalize a.add o = a'; unfold Addr.add; split <;> rfl
  have hoj : ∀ j, ((a.add o).add j).off = a.off + o + j := fun j => by rw [← ho]; generalize a.add o = a'; unfold Addr.add; split <;> simp_all
  cases hh : W.heap[a.block]? with
  | none =>
    have := key 0 hk
    unfold World.cell? at this
    rw [hbj, hh, List.getElem?_eq_getElem (by omega)] at this
    cases this
  | some ob =>
    cases ob with
    | cells c T fz =>
      obtain ⟨c⟩ := c
      refine ⟨c, T, fz, rfl, ?_, ?_⟩
      · have := getN_of (cs := c) (ys := l) (off := a.off + o) (fun j hj => by
          have := key j (by omega)
          unfold World.cell? at this
          rw [hbj, hh] at this
          dsimp only at this
          split at this
          · rw [List.getElem?_eq_getElem hj] at this; cases this
          · rw [hoj] at this; simpa using this)
        rw [h1] at this; exact this
      · intro h0
        subst h0
        have := key 0 hk
        unfold World.cell? at this
        rw [hbj, hh, List.getElem?_eq_getElem (by omega)] at this
        dsimp only at this
        split at this
        · cases this
        · rename_i hs
          have e : (a.add 0).add 0 = a := by simp [Addr.add]
          rw [e] at hs
          simpa using hs
    | _ =>
      have := key 0 hk
      unfold World.cell? at this
      rw [hbj, hh, List.getElem?_eq_getElem (by omega)] at this
      cases this

theorem rowA_of {α : Type} {W : World} {f : α → List Value} {k : Nat} (hk : 0 < k) {a : Addr} {xs : List α} (h : ∀ i x, xs[i]? = some x → W.cells? 0 (a.add (i * k)) k = some (f x)) : RowA false f k (some a) xs (Fr.all W).res := by
  intro hne
  cases xs with
  | nil => exact absurd rfl hne
  | cons x xs =>
    obtain ⟨c, T, fz, h1, h2, h3⟩ := cells_at hk (h 0 x rfl)
    have hsp := h3 (Nat.zero_mul _)
    obtain ⟨b, off, sp⟩ := a
    dsimp only at hsp h1 h2
    subst hsp
    refine ⟨b, off, c, T, fz, rfl, getN_flat (fun i y hy => ?_), ?_⟩
    · obtain ⟨c', T', fz', g1, g2, _⟩ := cells_at hk (h i y hy)
      dsimp only at g1 g2
      rw [h1] at g1
      injection g1 with g1
      injection g1 with e1 e2 e3
      injection e1 with e1
      rw [e1]; exact g2
    · simp only [Fr.all, h1, Option.map_some]

theorem list_of {α : Type} {p : Nat → α → Prop} : ∀ n, (∀ i, i < n → ∃ x, p i x) → ∃ xs : List α, xs.length = n ∧ ∀ i x, xs[i]? = some x → p i x
  | 0, _ => ⟨[], rfl, fun i x h => by simp at h⟩
  | n + 1, h => by
    obtain ⟨xs, h1, h2⟩ := list_of n (fun i hi => h i (by omega))
    obtain ⟨x, hx⟩ := h n (by omega)
    refine ⟨xs ++ [x], by simp [h1], fun i y hy => ?_⟩
    rcases Nat.lt_or_ge i xs.length with hi | hi
    · rw [List.getElem?_append_left hi] at hy; exact h2 i y hy
    · rw [List.getElem?_append_right hi] at hy
      have : i = n := by
        rcases Nat.lt_or_ge (i - xs.length) 1 with g | g
        · omega
        · rw [List.getElem?_eq_none (by simpa using g)] at hy; cases hy
      subst this
      rw [h1, Nat.sub_self] at hy
      simp at hy; subst hy; exact hx

/-- A row out of an argument, by what each of its elements is. -/
theorem row_open {α : Type} {H : Type} {enc : TypeId × Value → H} {P : Program} {W : World} {sp : Nat → Bool} {hd : Bool} {fuel k : Nat} {t e : TypeId} {cs0 : List Value} {y : DataW H × List MemPlace} (f : α → List Value) (Q : α → Prop) (hk : 0 < k)
    (ht : P.underlying t = some (.slice e)) (hc : P.cellsOf e = k) (hel : ∀ n cs y, DataW.trod enc P W 0 sp hd n e cs = some y → ∃ x : α, cs = f x ∧ Q x) (h : DataW.trod enc P W 0 sp hd fuel t cs0 = some y) :
    ∃ (a : Option Addr) (cap : Nat) (xs : List α), cs0 = [.slice a xs.length cap] ∧ RowA false f k a xs (Fr.all W).res ∧ (∀ x ∈ xs, Q x) ∧ (a = none → cap = 0) ∧ xs.length ≤ cap ∧ cap ≤ maxLen := by
  rcases DataW.trod_slice ht h with ⟨h0, _⟩ | ⟨a, len, cap, elems, rest, n, _, hcs, _, _, hlc, hcm, hlen, hels, _, _⟩
  · exact ⟨none, 0, [], h0, fun hne => absurd rfl hne, by simp, fun _ => rfl, Nat.le_refl _, Nat.zero_le _⟩
  · rw [hc] at hels
    obtain ⟨xs, hxl, hx⟩ := list_of (α := α) (p := fun i x => W.cells? 0 (a.add (i * k)) k = some (f x) ∧ Q x) len (fun i hi => by
      have h1 := hels i hi
      rw [List.getElem?_eq_getElem (by omega)] at h1
      cases hcc : W.cells? 0 (a.add (i * k)) k with
      | none => rw [hcc] at h1; cases h1
      | some cs =>
        rw [hcc] at h1
        obtain ⟨x, rfl, hq⟩ := hel n cs _ h1
        exact ⟨x, rfl, hq⟩)
    refine ⟨some a, cap, xs, by rw [hxl]; exact hcs, rowA_of hk (fun i x hi => (hx i x hi).1), fun x hm => ?_, (fun h => by cases h), by omega, hcm⟩
    obtain ⟨i, hi, rfl⟩ := List.mem_iff_getElem.1 hm
    exact (hx i _ (List.getElem?_eq_getElem hi)).2
end Go.Lun

/- Acts of layer 8, out of arguments. -/
namespace Go.Lun
open Go.Proofs Go.ChangeShapes Go.WideShapes Go.ChangeAt Go.RowKit Go.Deep

theorem cells_int : Tryz.prog.cellsOf 3 = 1 := by kernel_rfl
theorem cells_string : Tryz.prog.cellsOf 9 = 1 := by kernel_rfl
theorem cells_strings : Tryz.prog.cellsOf 37 = 1 := by kernel_rfl
theorem cells_actP : Tryz.prog.cellsOf 39 = 7 := by kernel_rfl

section
variable {H : Type} {enc : TypeId × Value → H} {W : World} {sp : Nat → Bool} {hd : Bool}
/-- A struct's field of one cell. -/
theorem fld_open {P : Program} {m : Nat} {fs : Array Field} {cs : List Value} {xs : List (DataW H × List MemPlace)} (hxl : xs.length = fs.size)
    (hf : ∀ (i : Nat) (f : Field), fs[i]? = some f → DataW.trod enc P W 0 sp hd m f.type ((cs.drop f.offset).take (P.cellsOf f.type)) = xs[i]?)
    (i : Nat) (t : TypeId) (c : Value) {fl : Field} (h1 : fs[i]? = some fl) (h2 : fl.type = t) (h3 : fl.offset = i) (hc : P.cellsOf t = 1) (h4 : cs[i]? = some c) : ∃ y, DataW.trod enc P W 0 sp hd m t [c] = some y := by
  have h := hf i fl h1
  subst h2
  rw [h3, hc] at h
  have hi : i < fs.size := by
    rcases Nat.lt_or_ge i fs.size with g | g
    · exact g
    · rw [Array.getElem?_eq_none g] at h1; cases h1
  have e : (cs.drop i).take 1 = [c] := by
    have hlt : i < cs.length := by
      rcases Nat.lt_or_ge i cs.length with g | g
      · exact g
      · rw [List.getElem?_eq_none g] at h4; cases h4
    rw [List.getElem?_eq_getElem hlt] at h4
    injection h4 with h4
    rw [List.drop_eq_getElem_cons hlt, h4]
    rfl
  rw [e, List.getElem?_eq_getElem (by omega)] at h
  exact ⟨_, h⟩

theorem str_open (n : Nat) (cs : List Value) (y : DataW H × List MemPlace) (h : DataW.trod enc Tryz.prog W 0 sp hd n 9 cs = some y) : ∃ b : Bytes, cs = strC b ∧ True := by
  obtain ⟨s, h1, _, _⟩ := DataW.trod_string Tryz.underlying9 h
  exact ⟨s.data.toList, h1, trivial⟩
set_option maxRecDepth 20000 in
theorem actP_open (n : Nat) (cs : List Value) (y : DataW H × List MemPlace) (h : DataW.trod enc Tryz.prog W 0 sp hd n 39 cs = some y) : ∃ x : AP, cs = x.cellsV ∧ KP x (Fr.all W).res := by
  obtain ⟨xs, m, _, _, hl, hxl, hf⟩ := DataW.trod_struct Tryz.underlying39 h
  rw [cells_actP] at hl
  match cs, hl with
  | [c0, c1, c2, c3, c4, c5, c6], _ =>
    obtain ⟨y0, f0⟩ := fld_open hxl hf 0 3 c0 rfl rfl rfl cells_int rfl
    obtain ⟨y1, f1⟩ := fld_open hxl hf 1 3 c1 rfl rfl rfl cells_int rfl
    obtain ⟨y2, f2⟩ := fld_open hxl hf 2 3 c2 rfl rfl rfl cells_int rfl
    obtain ⟨y3, f3⟩ := fld_open hxl hf 3 3 c3 rfl rfl rfl cells_int rfl
    obtain ⟨y4, f4⟩ := fld_open hxl hf 4 3 c4 rfl rfl rfl cells_int rfl
    obtain ⟨y5, f5⟩ := fld_open hxl hf 5 3 c5 rfl rfl rfl cells_int rfl
    obtain ⟨y6, f6⟩ := fld_open hxl hf 6 37 c6 rfl rfl rfl cells_strings rfl
    obtain ⟨a0, e0, _, _⟩ := DataW.trod_int Tryz.underlying3 f0
    obtain ⟨a1, e1, _, _⟩ := DataW.trod_int Tryz.underlying3 f1
    obtain ⟨a2, e2, _, _⟩ := DataW.trod_int Tryz.underlying3 f2
    obtain ⟨a3, e3, _, _⟩ := DataW.trod_int Tryz.underlying3 f3
    obtain ⟨a4, e4, _, _⟩ := DataW.trod_int Tryz.underlying3 f4
    obtain ⟨a5, e5, _, _⟩ := DataW.trod_int Tryz.underlying3 f5
    obtain ⟨ka, kc, ks, e6, hrow, _, _, _, _⟩ := row_open strC (fun _ => True) (by decide) Tryz.underlying37 cells_string str_open f6
    injection e0 with e0
    injection e1 with e1
    injection e2 with e2
    injection e3 with e3
    injection e4 with e4
    injection e5 with e5
    injection e6 with e6
    refine ⟨⟨a0, a1, a2, a3, a4, a5, ka, kc, ks⟩, ?_, hrow⟩
    simp only [AP.cellsV]
    rw [e0, e1, e2, e3, e4, e5, e6]
end
end Go.Lun

/- Texts joined: PL2, PL3, PL4, FnK, PL5, PAb, Fin, Arg, ArgP. -/
import Derived.ProofKit
import Derived.Carry
import Derived.Deep.Slices
import Derived.Test.YtjdkdmojlnooiaaGreatRows
import Derived.Test.YtjdkdmojlnooiaaGreatPk1
import Derived.Test.YtjdkdmojlnooiaaGreatPk2
import Derived.Test.YtjdkdmojlnooiaaGreatPk5
/- The statements of layer 8: what an act does; lists that are the same. -/
namespace Go.Lun
open Go.Proofs

instance : IntS Tryz.prog 29 4 := IntS.of (fs := [{ name := "Epoch", type := 3, offset := 0, embedded := false, tag := "", pkgPath := "", byteOffset := 0 }, { name := "Root", type := 3, offset := 1, embedded := false, tag := "", pkgPath := "", byteOffset := 8 }, { name := "Free", type := 3, offset := 2, embedded := false, tag := "", pkgPath := "", byteOffset := 16 }, { name := "Pages", type := 3, offset := 3, embedded := false, tag := "", pkgPath := "", byteOffset := 24 }]) (by kernel_rfl) (by kernel_rfl) (by kernel_rfl) (by kernel_rfl) ⟨⟨by decide, rfl, _, _, inferInstance⟩, ⟨by decide, rfl, _, _, inferInstance⟩, ⟨by decide, rfl, _, _, inferInstance⟩, ⟨by decide, rfl, _, _, inferInstance⟩, trivial⟩ rfl
instance : IntS Tryz.prog 62 2 := IntS.of (fs := [{ name := "Page", type := 3, offset := 0, embedded := false, tag := "", pkgPath := "", byteOffset := 0 }, { name := "Epoch", type := 3, offset := 1, embedded := false, tag := "", pkgPath := "", byteOffset := 8 }]) (by kernel_rfl) (by kernel_rfl) (by kernel_rfl) (by kernel_rfl) ⟨⟨by decide, rfl, _, _, inferInstance⟩, ⟨by decide, rfl, _, _, inferInstance⟩, trivial⟩ rfl
def SP.nrs (x : SP) : List Int := [x.e, x.root, x.free, x.pages]
theorem SP.nrs_inj {x y : SP} : x.nrs = y.nrs ↔ x = y := by
  constructor
  · intro h
    obtain ⟨a, b, c, d⟩ := x
    obtain ⟨a', b', c', d'⟩ := y
    simp only [SP.nrs, List.cons.injEq, and_true] at h
    obtain ⟨rfl, rfl, rfl, rfl⟩ := h
    rfl
  · rintro rfl; rfl

variable {p d : Nat}

set_option maxHeartbeats 6400000 in
theorem do8_f (S : PS) (n : Nat) (x : AP) (hx : x.few = true) (h : AFit S n) (hn : n ≤ 1500) :
    Fn Tryz.prog 22 [.pointer (some ⟨p, 0, none⟩), x.val] [PRep p d S, KP x]
    (fun v L => v = .tuple ⟨[.int .i64 (S.act x).2.1, .int .i64 (S.act x).2.2]⟩ ∧ L = [PRep p d (S.act x).1, KP x]) := by
  have hs := AP.small hx
  have hc0 : x.cells.length ≤ 130 := by
    unfold AP.few at hx
    simp only [Bool.and_eq_true, decide_eq_true_eq] at hx
    exact hx.1
  obtain ⟨pf, cf, lf, he, ho⟩ := h
  have hfl := lf.flen pf
  have hcl := lf.len
  refine fn_start Tryz.func22 rfl rfl rfl fun F => ?_
  obtain ⟨kind, of_, link, no, root, epoch, ca, cc, cells⟩ := x
  dsimp only at hs hc0
  simp only [AP.val, AP.cellsV, KP, PS.act]
  clear hx
  refine c_seq ?_
  refine c_region ?_
  refine o_box rfl rfl (fun xb => ?_)
  refine o_y (y_assign rfl) rfl ?_
  refine o_y (y_assign rfl) rfl ?_
  refine o_nil ?_
  refine f_seq ?_
  by_cases k0 : kind = 0
  case pos =>
    simp only [if_pos k0]
    subst k0
    refine c_seq ?_
    refine c_seq ?_
    refine c_region ?_
    refine o_y (y_fieldAddr0 rfl) rfl ?_
    refine o_y (y_load rfl rfl rfl) rfl ?_
    refine o_nil ?_
    refine f_seq ?_
    refine c_block ?_
    refine c_seq ?_
    refine c_region ?_
    refine o_y (y_eql_t rfl rfl (by omega)) rfl ?_
    refine o_y (y_assign rfl) rfl ?_
    refine o_nil ?_
    refine f_seq ?_
    refine c_true rfl ?_
    refine c_seq ?_
    refine c_ent (M := [Blk xb (.cells ⟨[.int .i64 0, .int .i64 of_, .int .i64 link, .int .i64 no, .int .i64 root, .int .i64 epoch, .slice ca cells.length cc]⟩ 39 (0, 0)), RowA false strC 1 ca cells, PRep p d S]) (by repeat (first | with_reducible exact Ent.nil | (apply Ent.one; focus (repeat (first | with_reducible exact Rem.here | apply Rem.there))))) ?_
    refine pl_start [5, 8, 9] Tryz.mixed ?_; intro hd
    refine pl_lock (A := Blk _ _) Rem.here rfl ?_ hd; intro hb0
    refine pl_take (i := 0) rfl (by kernel_rfl) (y_move rfl) ?_ hd; clear hd; intro hd
    refine pl_take (i := 1) rfl (by kernel_rfl) (y_fieldAddr0 rfl) ?_ hd; clear hd; intro hd
    refine pl_take (i := 2) rfl (by kernel_rfl) (y_load rfl rfl rfl) ?_ hd; clear hd; intro hd
    refine pl_take (i := 3) rfl (by kernel_rfl) (y_fieldAddr0 rfl) ?_ hd; clear hd; intro hd
    refine pl_take (i := 4) rfl (by kernel_rfl) (y_load rfl rfl rfl) ?_ hd; clear hd; intro hd
    refine pl_take (i := 6) rfl (by kernel_rfl) (y_fieldAddr0 rfl) ?_ hd; clear hd; intro hd
    refine pl_take (i := 7) rfl (by kernel_rfl) (y_load rfl rfl rfl) ?_ hd; clear hd; intro hd
    refine pl_sole (i := 5) (by kernel_rfl) rfl ?_ hd; clear hd; intro hd
    refine o_buildSlice rfl rfl rfl rfl rfl (fun nb => ?_)
    refine pl_back (by repeat (first | with_reducible exact Owes.nil | with_reducible refine Owes.same ?_ | with_reducible refine Owes.any ?_ | refine Owes.waived 5 (by kernel_rfl) ?_)) ?_ hd; clear hd; intro hd
    refine pl_sole (i := 8) (by kernel_rfl) rfl ?_ hd; clear hd; intro hd
    refine o_ent (Ent.shut (A := Sl 9 1 (some ⟨nb, 0, none⟩) 0 0 []) (P := [Blk nb (.cells ⟨[]⟩ 9 (0, 0))]) (by repeat (first | with_reducible exact Takes.nil | (apply Takes.cons; focus (repeat (first | with_reducible exact Rem.here | apply Rem.there))))) (Sl.shut_zero' nb)) ?_
    refine o_append rfl rfl (Src.row (f := strC) (xs := cells) (a := ca) (cap := cc) (q := false) (fun _ => rfl) (by repeat (first | with_reducible exact Rem.here | apply Rem.there))) (by repeat (first | with_reducible exact Rem.here | apply Rem.there)) (strs_one cells) (by omega) rfl (by omega) rfl (fun a' cap' => ?_)
    simp only [Nat.zero_add, List.nil_append]
    refine pl_back (by repeat (first | with_reducible exact Owes.nil | with_reducible refine Owes.same ?_ | with_reducible refine Owes.any ?_ | refine Owes.waived 8 (by kernel_rfl) ?_ | refine Owes.waived 5 (by kernel_rfl) ?_)) ?_ hd; clear hd; intro hd
    refine pl_sole (i := 9) (by kernel_rfl) rfl ?_ hd; clear hd; intro hd
    refine o_shareSl (a := a') (cap := cap') strC cells (by repeat (first | with_reducible exact Rem.here | apply Rem.there)) rfl rfl ?_
    refine o_call rfl (new_p S false a' cap' (203 * n) of_ link cells hs pf (by omega)) (by repeat (first | with_reducible exact Takes.nil | (apply Takes.cons; focus (repeat (first | with_reducible exact Rem.here | apply Rem.there))))) rfl ?_
    rintro _ _ ⟨rfl, rfl⟩
    simp only [List.append_eq, List.cons_append, List.nil_append, List.append_nil, tup]
    refine pl_back (by repeat (first | with_reducible exact Owes.nil | with_reducible refine Owes.same ?_ | with_reducible refine Owes.any ?_ | refine Owes.waived 9 (by kernel_rfl) ?_ | refine Owes.waived 8 (by kernel_rfl) ?_ | refine Owes.waived 5 (by kernel_rfl) ?_)) ?_ hd; clear hd; intro hd
    refine pl_take (i := 10) rfl (by kernel_rfl) (y_extract rfl rfl) ?_ hd; clear hd; intro hd
    refine pl_take (i := 11) rfl (by kernel_rfl) (y_extract rfl rfl) ?_ hd; clear hd; intro hd
    refine pl_take (i := 12) rfl (by kernel_rfl) (y_assign rfl) ?_ hd; clear hd; intro hd
    refine pl_take (i := 13) rfl (by kernel_rfl) (y_assign rfl) ?_ hd; clear hd; intro hd
    refine pl_done (by kernel_rfl) ?_ hd
    refine f_unlock (A := Blk _ _) ?_
    refine f_seq ?_
    refine c_ret ?_
    refine f_block_ret ?_
    refine f_seq_ret ?_
    exact f_ent (by repeat (first | with_reducible exact Ent.nil | (apply Ent.one; focus (repeat (first | with_reducible exact Rem.here | apply Rem.there))))) (f_ret rfl ⟨rfl, rfl⟩)
  by_cases k1 : kind = 1
  case pos =>
    simp only [if_neg k0, if_pos k1]
    subst k1
    refine c_seq ?_
    refine c_seq ?_
    refine c_region ?_
    refine o_y (y_fieldAddr0 rfl) rfl ?_
    refine o_y (y_load rfl rfl rfl) rfl ?_
    refine o_nil ?_
    refine f_seq ?_
    refine c_block ?_
    refine c_seq ?_
    refine c_region ?_
    refine o_y (y_eql_f rfl rfl (by omega)) rfl ?_
    refine o_y (y_assign rfl) rfl ?_
    refine o_nil ?_
    refine f_seq ?_
    refine c_false rfl ?_
    refine c_seq ?_
    refine c_region ?_
    refine o_y (y_eql_t rfl rfl (by omega)) rfl ?_
    refine o_y (y_assign rfl) rfl ?_
    refine o_nil ?_
    refine f_seq ?_
    refine c_true rfl ?_
    refine c_seq ?_
    refine c_ent (M := [Blk xb (.cells ⟨[.int .i64 1, .int .i64 of_, .int .i64 link, .int .i64 no, .int .i64 root, .int .i64 epoch, .slice ca cells.length cc]⟩ 39 (0, 0)), RowA false strC 1 ca cells, PRep p d S]) (by repeat (first | with_reducible exact Ent.nil | (apply Ent.one; focus (repeat (first | with_reducible exact Rem.here | apply Rem.there))))) ?_
    refine pl_start [7, 10, 11] Tryz.mixed ?_; intro hd
    refine pl_lock (A := Blk _ _) Rem.here rfl ?_ hd; intro hb0
    refine pl_take (i := 0) rfl (by kernel_rfl) (y_move rfl) ?_ hd; clear hd; intro hd
    refine pl_take (i := 1) rfl (by kernel_rfl) (y_fieldAddr0 rfl) ?_ hd; clear hd; intro hd
    refine pl_take (i := 2) rfl (by kernel_rfl) (y_load rfl rfl rfl) ?_ hd; clear hd; intro hd
    refine pl_take (i := 3) rfl (by kernel_rfl) (y_fieldAddr0 rfl) ?_ hd; clear hd; intro hd
    refine pl_take (i := 4) rfl (by kernel_rfl) (y_load rfl rfl rfl) ?_ hd; clear hd; intro hd
    refine pl_take (i := 5) rfl (by kernel_rfl) (y_fieldAddr0 rfl) ?_ hd; clear hd; intro hd
    refine pl_take (i := 6) rfl (by kernel_rfl) (y_load rfl rfl rfl) ?_ hd; clear hd; intro hd
    refine pl_take (i := 8) rfl (by kernel_rfl) (y_fieldAddr0 rfl) ?_ hd; clear hd; intro hd
    refine pl_take (i := 9) rfl (by kernel_rfl) (y_load rfl rfl rfl) ?_ hd; clear hd; intro hd
    refine pl_sole (i := 7) (by kernel_rfl) rfl ?_ hd; clear hd; intro hd
    refine o_buildSlice rfl rfl rfl rfl rfl (fun nb => ?_)
    refine pl_back (by repeat (first | with_reducible exact Owes.nil | with_reducible refine Owes.same ?_ | with_reducible refine Owes.any ?_ | refine Owes.waived 7 (by kernel_rfl) ?_)) ?_ hd; clear hd; intro hd
    refine pl_sole (i := 10) (by kernel_rfl) rfl ?_ hd; clear hd; intro hd
    refine o_ent (Ent.shut (A := Sl 9 1 (some ⟨nb, 0, none⟩) 0 0 []) (P := [Blk nb (.cells ⟨[]⟩ 9 (0, 0))]) (by repeat (first | with_reducible exact Takes.nil | (apply Takes.cons; focus (repeat (first | with_reducible exact Rem.here | apply Rem.there))))) (Sl.shut_zero' nb)) ?_
    refine o_append rfl rfl (Src.row (f := strC) (xs := cells) (a := ca) (cap := cc) (q := false) (fun _ => rfl) (by repeat (first | with_reducible exact Rem.here | apply Rem.there))) (by repeat (first | with_reducible exact Rem.here | apply Rem.there)) (strs_one cells) (by omega) rfl (by omega) rfl (fun a' cap' => ?_)
    simp only [Nat.zero_add, List.nil_append]
    refine pl_back (by repeat (first | with_reducible exact Owes.nil | with_reducible refine Owes.same ?_ | with_reducible refine Owes.any ?_ | refine Owes.waived 10 (by kernel_rfl) ?_ | refine Owes.waived 7 (by kernel_rfl) ?_)) ?_ hd; clear hd; intro hd
    refine pl_sole (i := 11) (by kernel_rfl) rfl ?_ hd; clear hd; intro hd
    refine o_shareSl (a := a') (cap := cap') strC cells (by repeat (first | with_reducible exact Rem.here | apply Rem.there)) rfl rfl ?_
    refine o_call rfl (change_p S false a' cap' (203 * n) no of_ link cells hs pf (by omega)) (by repeat (first | with_reducible exact Takes.nil | (apply Takes.cons; focus (repeat (first | with_reducible exact Rem.here | apply Rem.there))))) rfl ?_
    rintro _ _ ⟨rfl, rfl⟩
    simp only [List.append_eq, List.cons_append, List.nil_append, List.append_nil, tup]
    refine pl_back (by repeat (first | with_reducible exact Owes.nil | with_reducible refine Owes.same ?_ | with_reducible refine Owes.any ?_ | refine Owes.waived 11 (by kernel_rfl) ?_ | refine Owes.waived 10 (by kernel_rfl) ?_ | refine Owes.waived 7 (by kernel_rfl) ?_)) ?_ hd; clear hd; intro hd
    refine pl_take (i := 12) rfl (by kernel_rfl) (y_extract rfl rfl) ?_ hd; clear hd; intro hd
    refine pl_take (i := 13) rfl (by kernel_rfl) (y_extract rfl rfl) ?_ hd; clear hd; intro hd
    refine pl_take (i := 14) rfl (by kernel_rfl) (y_assign rfl) ?_ hd; clear hd; intro hd
    refine pl_take (i := 15) rfl (by kernel_rfl) (y_assign rfl) ?_ hd; clear hd; intro hd
    refine pl_done (by kernel_rfl) ?_ hd
    refine f_unlock (A := Blk _ _) ?_
    refine f_seq ?_
    refine c_ret ?_
    refine f_block_ret ?_
    refine f_seq_ret ?_
    exact f_ent (by repeat (first | with_reducible exact Ent.nil | (apply Ent.one; focus (repeat (first | with_reducible exact Rem.here | apply Rem.there))))) (f_ret rfl ⟨rfl, rfl⟩)
  by_cases k2 : kind = 2
  case pos =>
    simp only [if_neg k0, if_neg k1, if_pos k2]
    refine c_seq ?_
    refine c_seq ?_
    refine c_region ?_
    refine o_y (y_fieldAddr0 rfl) rfl ?_
    refine o_y (y_load rfl rfl rfl) rfl ?_
    refine o_nil ?_
    refine f_seq ?_
    refine c_block ?_
    refine c_seq ?_
    refine c_region ?_
    refine o_y (y_eql_f rfl rfl (by omega)) rfl ?_
    refine o_y (y_assign rfl) rfl ?_
    refine o_nil ?_
    refine f_seq ?_
    refine c_false rfl ?_
    refine c_seq ?_
    refine c_region ?_
    refine o_y (y_eql_f rfl rfl (by omega)) rfl ?_
    refine o_y (y_assign rfl) rfl ?_
    refine o_nil ?_
    refine f_seq ?_
    refine c_false rfl ?_
    refine c_seq ?_
    refine c_region ?_
    refine o_y (y_eql_t rfl rfl (by omega)) rfl ?_
    refine o_y (y_assign rfl) rfl ?_
    refine o_nil ?_
    refine f_seq ?_
    refine c_true rfl ?_
    refine c_seq ?_
    refine c_region ?_
    refine o_y (y_move rfl) rfl ?_
    refine o_y (y_fieldAddr0 rfl) rfl ?_
    refine o_y (y_load rfl rfl rfl) rfl ?_
    refine o_call rfl (drop_p S (203 * n) no pf) (by repeat (first | with_reducible exact Takes.nil | (apply Takes.cons; focus (repeat (first | with_reducible exact Rem.here | apply Rem.there))))) rfl ?_
    rintro _ _ ⟨rfl, rfl⟩
    simp only [List.append_eq, List.cons_append, List.nil_append, List.append_nil, tup]
    refine o_y (y_assign rfl) rfl ?_
    refine o_y (y_assign rfl) rfl ?_
    refine o_nil ?_
    refine f_seq ?_
    refine c_ret ?_
    refine f_block_ret ?_
    refine f_seq_ret ?_
    exact f_ent (by repeat (first | with_reducible exact Ent.nil | (apply Ent.one; focus (repeat (first | with_reducible exact Rem.here | apply Rem.there))))) (f_ret rfl ⟨rfl, rfl⟩)
  by_cases k3 : kind = 3
  case pos =>
    simp only [if_neg k0, if_neg k1, if_neg k2, if_pos k3]
    refine c_seq ?_
    refine c_seq ?_
    refine c_region ?_
    refine o_y (y_fieldAddr0 rfl) rfl ?_
    refine o_y (y_load rfl rfl rfl) rfl ?_
    refine o_nil ?_
    refine f_seq ?_
    refine c_block ?_
    refine c_seq ?_
    refine c_region ?_
    refine o_y (y_eql_f rfl rfl (by omega)) rfl ?_
    refine o_y (y_assign rfl) rfl ?_
    refine o_nil ?_
    refine f_seq ?_
    refine c_false rfl ?_
    refine c_seq ?_
    refine c_region ?_
    refine o_y (y_eql_f rfl rfl (by omega)) rfl ?_
    refine o_y (y_assign rfl) rfl ?_
    refine o_nil ?_
    refine f_seq ?_
    refine c_false rfl ?_
    refine c_seq ?_
    refine c_region ?_
    refine o_y (y_eql_f rfl rfl (by omega)) rfl ?_
    refine o_y (y_assign rfl) rfl ?_
    refine o_nil ?_
    refine f_seq ?_
    refine c_false rfl ?_
    refine c_seq ?_
    refine c_region ?_
    refine o_y (y_eql_t rfl rfl (by omega)) rfl ?_
    refine o_y (y_assign rfl) rfl ?_
    refine o_nil ?_
    refine f_seq ?_
    refine c_true rfl ?_
    refine c_seq ?_
    refine c_region ?_
    refine o_y (y_move rfl) rfl ?_
    refine o_y (y_fieldAddr0 rfl) rfl ?_
    refine o_y (y_load rfl rfl rfl) rfl ?_
    refine o_call rfl (commit_p S (203 * n) root pf cf lf (by omega)) (by repeat (first | with_reducible exact Takes.nil | (apply Takes.cons; focus (repeat (first | with_reducible exact Rem.here | apply Rem.there))))) rfl ?_
    rintro _ _ ⟨rfl, rfl⟩
    simp only [List.append_eq, List.cons_append, List.nil_append, List.append_nil, tup]
    refine o_y (y_assign rfl) rfl ?_
    refine o_y (y_assign rfl) rfl ?_
    refine o_nil ?_
    refine f_seq ?_
    refine c_ret ?_
    refine f_block_ret ?_
    refine f_seq_ret ?_
    exact f_ent (by repeat (first | with_reducible exact Ent.nil | (apply Ent.one; focus (repeat (first | with_reducible exact Rem.here | apply Rem.there))))) (f_ret rfl ⟨rfl, rfl⟩)
  by_cases k4 : kind = 4
  case pos =>
    simp only [if_neg k0, if_neg k1, if_neg k2, if_neg k3, if_pos k4]
    refine c_seq ?_
    refine c_seq ?_
    refine c_region ?_
    refine o_y (y_fieldAddr0 rfl) rfl ?_
    refine o_y (y_load rfl rfl rfl) rfl ?_
    refine o_nil ?_
    refine f_seq ?_
    refine c_block ?_
    refine c_seq ?_
    refine c_region ?_
    refine o_y (y_eql_f rfl rfl (by omega)) rfl ?_
    refine o_y (y_assign rfl) rfl ?_
    refine o_nil ?_
    refine f_seq ?_
    refine c_false rfl ?_
    refine c_seq ?_
    refine c_region ?_
    refine o_y (y_eql_f rfl rfl (by omega)) rfl ?_
    refine o_y (y_assign rfl) rfl ?_
    refine o_nil ?_
    refine f_seq ?_
    refine c_false rfl ?_
    refine c_seq ?_
    refine c_region ?_
    refine o_y (y_eql_f rfl rfl (by omega)) rfl ?_
    refine o_y (y_assign rfl) rfl ?_
    refine o_nil ?_
    refine f_seq ?_
    refine c_false rfl ?_
    refine c_seq ?_
    refine c_region ?_
    refine o_y (y_eql_f rfl rfl (by omega)) rfl ?_
    refine o_y (y_assign rfl) rfl ?_
    refine o_nil ?_
    refine f_seq ?_
    refine c_false rfl ?_
    refine c_seq ?_
    refine c_region ?_
    refine o_y (y_eql_t rfl rfl (by omega)) rfl ?_
    refine o_y (y_assign rfl) rfl ?_
    refine o_nil ?_
    refine f_seq ?_
    refine c_true rfl ?_
    refine c_region ?_
    refine o_y (y_move rfl) rfl ?_
    refine o_call rfl (abort_p S (by omega) (by omega)) (by repeat (first | with_reducible exact Takes.nil | (apply Takes.cons; focus (repeat (first | with_reducible exact Rem.here | apply Rem.there))))) rfl ?_
    rintro _ _ ⟨rfl, rfl⟩
    simp only [List.append_eq, List.cons_append, List.nil_append, List.append_nil, tup]
    refine o_nil ?_
    refine f_block ?_
    refine f_seq ?_
    refine c_seq ?_
    refine c_region ?_
    refine o_y (y_assign rfl) rfl ?_
    refine o_y (y_assign rfl) rfl ?_
    refine o_nil ?_
    refine f_seq ?_
    refine c_ret ?_
    exact f_ent (by repeat (first | with_reducible exact Ent.nil | (apply Ent.one; focus (repeat (first | with_reducible exact Rem.here | apply Rem.there))))) (f_ret rfl ⟨rfl, rfl⟩)
  by_cases k5 : kind = 5
  case pos =>
    simp only [if_neg k0, if_neg k1, if_neg k2, if_neg k3, if_neg k4, if_pos k5]
    refine c_seq ?_
    refine c_seq ?_
    refine c_region ?_
    refine o_y (y_fieldAddr0 rfl) rfl ?_
    refine o_y (y_load rfl rfl rfl) rfl ?_
    refine o_nil ?_
    refine f_seq ?_
    refine c_block ?_
    refine c_seq ?_
    refine c_region ?_
    refine o_y (y_eql_f rfl rfl (by omega)) rfl ?_
    refine o_y (y_assign rfl) rfl ?_
    refine o_nil ?_
    refine f_seq ?_
    refine c_false rfl ?_
    refine c_seq ?_
    refine c_region ?_
    refine o_y (y_eql_f rfl rfl (by omega)) rfl ?_
    refine o_y (y_assign rfl) rfl ?_
    refine o_nil ?_
    refine f_seq ?_
    refine c_false rfl ?_
    refine c_seq ?_
    refine c_region ?_
    refine o_y (y_eql_f rfl rfl (by omega)) rfl ?_
    refine o_y (y_assign rfl) rfl ?_
    refine o_nil ?_
    refine f_seq ?_
    refine c_false rfl ?_
    refine c_seq ?_
    refine c_region ?_
    refine o_y (y_eql_f rfl rfl (by omega)) rfl ?_
    refine o_y (y_assign rfl) rfl ?_
    refine o_nil ?_
    refine f_seq ?_
    refine c_false rfl ?_
    refine c_seq ?_
    refine c_region ?_
    refine o_y (y_eql_f rfl rfl (by omega)) rfl ?_
    refine o_y (y_assign rfl) rfl ?_
    refine o_nil ?_
    refine f_seq ?_
    refine c_false rfl ?_
    refine c_seq ?_
    refine c_region ?_
    refine o_y (y_eql_t rfl rfl (by omega)) rfl ?_
    refine o_y (y_assign rfl) rfl ?_
    refine o_nil ?_
    refine f_seq ?_
    refine c_true rfl ?_
    refine c_region ?_
    refine o_y (y_move rfl) rfl ?_
    refine o_y (y_fieldAddr0 rfl) rfl ?_
    refine o_y (y_load rfl rfl rfl) rfl ?_
    refine o_call rfl (oldest_p S epoch) (by repeat (first | with_reducible exact Takes.nil | (apply Takes.cons; focus (repeat (first | with_reducible exact Rem.here | apply Rem.there))))) rfl ?_
    rintro _ _ ⟨rfl, rfl⟩
    simp only [List.append_eq, List.cons_append, List.nil_append, List.append_nil, tup]
    refine o_nil ?_
    refine f_block ?_
    refine f_seq ?_
    refine c_seq ?_
    refine c_region ?_
    refine o_y (y_assign rfl) rfl ?_
    refine o_y (y_assign rfl) rfl ?_
    refine o_nil ?_
    refine f_seq ?_
    refine c_ret ?_
    exact f_ent (by repeat (first | with_reducible exact Ent.nil | (apply Ent.one; focus (repeat (first | with_reducible exact Rem.here | apply Rem.there))))) (f_ret rfl ⟨rfl, rfl⟩)
  simp only [if_neg k0, if_neg k1, if_neg k2, if_neg k3, if_neg k4, if_neg k5]
  refine c_seq ?_
  refine c_seq ?_
  refine c_region ?_
  refine o_y (y_fieldAddr0 rfl) rfl ?_
  refine o_y (y_load rfl rfl rfl) rfl ?_
  refine o_nil ?_
  refine f_seq ?_
  refine c_block ?_
  refine c_seq ?_
  refine c_region ?_
  refine o_y (y_eql_f rfl rfl (by omega)) rfl ?_
  refine o_y (y_assign rfl) rfl ?_
  refine o_nil ?_
  refine f_seq ?_
  refine c_false rfl ?_
  refine c_seq ?_
  refine c_region ?_
  refine o_y (y_eql_f rfl rfl (by omega)) rfl ?_
  refine o_y (y_assign rfl) rfl ?_
  refine o_nil ?_
  refine f_seq ?_
  refine c_false rfl ?_
  refine c_seq ?_
  refine c_region ?_
  refine o_y (y_eql_f rfl rfl (by omega)) rfl ?_
  refine o_y (y_assign rfl) rfl ?_
  refine o_nil ?_
  refine f_seq ?_
  refine c_false rfl ?_
  refine c_seq ?_
  refine c_region ?_
  refine o_y (y_eql_f rfl rfl (by omega)) rfl ?_
  refine o_y (y_assign rfl) rfl ?_
  refine o_nil ?_
  refine f_seq ?_
  refine c_false rfl ?_
  refine c_seq ?_
  refine c_region ?_
  refine o_y (y_eql_f rfl rfl (by omega)) rfl ?_
  refine o_y (y_assign rfl) rfl ?_
  refine o_nil ?_
  refine f_seq ?_
  refine c_false rfl ?_
  refine c_seq ?_
  refine c_region ?_
  refine o_y (y_eql_f rfl rfl (by omega)) rfl ?_
  refine o_y (y_assign rfl) rfl ?_
  refine o_nil ?_
  refine f_seq ?_
  refine c_false rfl ?_
  refine c_skip ?_
  refine f_block ?_
  refine f_seq ?_
  refine c_seq ?_
  refine c_region ?_
  refine o_y (y_assign rfl) rfl ?_
  refine o_y (y_assign rfl) rfl ?_
  refine o_nil ?_
  refine f_seq ?_
  refine c_ret ?_
  exact f_ent (by repeat (first | with_reducible exact Ent.nil | (apply Ent.one; focus (repeat (first | with_reducible exact Rem.here | apply Rem.there))))) (f_ret rfl ⟨rfl, rfl⟩)

theorem pages_r (rb s : Nat) (n : Int) : Fn Tryz.prog 30 [.pointer (some ⟨rb, 0, none⟩)] [Blk rb (robj d s n)] (fun v L => v = .int .i64 n ∧ L = [Blk rb (robj d s n)]) := by
  refine fn_start Tryz.func30 rfl rfl rfl fun F => ?_
  refine c_seq ?_
  refine c_region ?_
  refine o_y (y_assign rfl) rfl ?_
  refine o_nil ?_
  refine f_seq ?_
  refine c_seq ?_
  refine c_region ?_
  refine o_y (y_move rfl) rfl ?_
  refine o_y (y_nilCheck rfl) rfl ?_
  refine o_y (y_fieldAddr0 rfl) rfl ?_
  refine o_y (y_load rfl rfl rfl) rfl ?_
  refine o_y (y_assign rfl) rfl ?_
  refine o_nil ?_
  refine f_seq ?_
  refine c_ret ?_
  exact f_ret rfl ⟨rfl, rfl⟩

set_option maxHeartbeats 3200000 in
theorem same6_f {a b : Option Addr} {ac bc : Nat} (l m : List FR) (hl : l.length ≤ 1000000) (hm : m.length ≤ 1000000) : Fn Tryz.prog 26 [.slice a l.length ac, .slice b m.length bc] [RowA false freeC 2 a l, RowA false freeC 2 b m]
    (fun v L => ∃ r : Bool, (r = true ↔ l = m) ∧ v = .bool r ∧ L = [RowA false freeC 2 a l, RowA false freeC 2 b m]) := by
  refine fn_start Tryz.func26 rfl rfl rfl fun F => ?_
  by_cases hlen : l.length = m.length
  case neg =>
    refine c_seq ?_
    refine c_region ?_
    refine o_y (y_assign rfl) rfl ?_
    refine o_nil ?_
    refine f_seq ?_
    refine c_seq ?_
    refine c_seq ?_
    refine c_region ?_
    refine o_y (y_move rfl) rfl ?_
    refine o_y (y_len_slice rfl) rfl ?_
    refine o_y (y_move rfl) rfl ?_
    refine o_y (y_len_slice rfl) rfl ?_
    refine o_y (y_neq_t rfl rfl (by omega)) rfl ?_
    refine o_nil ?_
    refine f_seq ?_
    refine c_true rfl ?_
    refine c_seq ?_
    refine c_region ?_
    refine o_y (y_assign rfl) rfl ?_
    refine o_nil ?_
    refine f_seq ?_
    refine c_ret ?_
    refine f_seq_ret ?_
    exact f_ent (by repeat (first | with_reducible exact Ent.nil | (apply Ent.one; focus (repeat (first | with_reducible exact Rem.here | apply Rem.there))))) (f_ret rfl ⟨false, ⟨fun h => (by cases h), fun h => absurd (by rw [h]) hlen⟩, rfl, rfl⟩)
  refine c_seq ?_
  refine c_region ?_
  refine o_y (y_assign rfl) rfl ?_
  refine o_nil ?_
  refine f_seq ?_
  refine c_seq ?_
  refine c_seq ?_
  refine c_region ?_
  refine o_y (y_move rfl) rfl ?_
  refine o_y (y_len_slice rfl) rfl ?_
  refine o_y (y_move rfl) rfl ?_
  refine o_y (y_len_slice rfl) rfl ?_
  refine o_y (y_neq_f rfl rfl (by omega)) rfl ?_
  refine o_nil ?_
  refine f_seq ?_
  refine c_false rfl ?_
  refine c_skip ?_
  refine f_seq ?_
  refine c_seq ?_
  refine c_seq ?_
  refine c_region ?_
  refine o_y (y_assign rfl) rfl ?_
  refine o_nil ?_
  refine f_seq ?_
  refine c_block ?_
  refine c_loop_inv (X := Nat) (fun i => i ≤ l.length ∧ l.take i = m.take i) (fun i => l.length - i) (fun _ => [RowA false freeC 2 a l, RowA false freeC 2 b m])
    (fun i => [(0, .slice a l.length ac), (1, .slice b m.length bc), (5, .int .i64 (i : Int))]) 0 ⟨Nat.zero_le _, rfl⟩ (by repeat (first | with_reducible exact Ent.nil | (apply Ent.one; focus (repeat (first | with_reducible exact Rem.here | apply Rem.there))))) (by repeat (first | exact trivial | refine ⟨rfl, ?_⟩)) ?_
  rintro i ⟨hi, ht⟩ ih
  by_cases hlt : i < l.length
  case neg =>
    clear ih
    have heq : l = m := by rwa [List.take_of_length_le (by omega), List.take_of_length_le (by omega)] at ht
    refine c_seq ?_
    refine c_seq ?_
    refine c_region ?_
    refine o_y (y_move rfl) rfl ?_
    refine o_y (y_move rfl) rfl ?_
    refine o_y (y_len_slice rfl) rfl ?_
    refine o_y (y_lss_f rfl rfl (by omega)) rfl ?_
    refine o_nil ?_
    refine f_seq ?_
    refine c_false rfl ?_
    refine c_exit ?_
    refine f_seq_exit ?_
    refine f_seq_exit ?_
    refine f_block_here ?_
    refine f_seq ?_
    refine c_seq ?_
    refine c_region ?_
    refine o_y (y_assign rfl) rfl ?_
    refine o_nil ?_
    refine f_seq ?_
    refine c_ret ?_
    exact f_ent (by repeat (first | with_reducible exact Ent.nil | (apply Ent.one; focus (repeat (first | with_reducible exact Rem.here | apply Rem.there))))) (f_ret rfl ⟨true, ⟨fun _ => heq, fun _ => rfl⟩, rfl, rfl⟩)
  obtain ⟨f, hf⟩ : ∃ c, l[i]? = some c := ⟨_, List.getElem?_eq_getElem hlt⟩
  obtain ⟨g, hg⟩ : ∃ c, m[i]? = some c := ⟨_, List.getElem?_eq_getElem (by omega)⟩
  have hne : l ≠ [] := by intro h; rw [h] at hlt; exact absurd hlt (by simp)
  have hne2 : m ≠ [] := by intro h; rw [h] at hg; cases hg
  refine c_open (A := RowA false freeC 2 a l) (h := RowA.opens (f := freeC) hne) Rem.here (fun y hy2 => ?_)
  obtain ⟨kb, ko, cs, T, fz⟩ := y
  obtain ⟨e1, e2⟩ := hy2
  refine c_open (A := RowA false freeC 2 b m) (h := RowA.opens (f := freeC) hne2) (Rem.there Rem.here) (fun y hy2 => ?_)
  obtain ⟨kb2, ko2, cs2, T2, fz2⟩ := y
  obtain ⟨e3, e4⟩ := hy2
  dsimp only at e1 e2 e3 e4
  subst e1; subst e3
  have hg1 := free_get e2 hf
  have hg2 := free_get e4 hg
  simp only [List.append_eq, List.cons_append, List.nil_append, List.append_nil, tup]
  refine c_seq ?_
  refine c_seq ?_
  refine c_region ?_
  refine o_y (y_move rfl) rfl ?_
  refine o_y (y_move rfl) rfl ?_
  refine o_y (y_len_slice rfl) rfl ?_
  refine o_y (y_lss_t rfl rfl (by omega)) rfl ?_
  refine o_nil ?_
  refine f_seq ?_
  refine c_true rfl ?_
  refine c_skip ?_
  refine f_seq ?_
  refine c_seq ?_
  refine c_block ?_
  refine c_seq ?_
  refine c_cut (X := Unit) (fun _ => [RowA false freeC 2 (some ⟨kb, ko, none⟩) l, RowA false freeC 2 (some ⟨kb2, ko2, none⟩) m]) (fun _ => [(0, .slice (some ⟨kb, ko, none⟩) l.length ac), (1, .slice (some ⟨kb2, ko2, none⟩) m.length bc), (5, .int .i64 (i : Int)), (25, .bool (!decide ([f.p, f.e] = [g.p, g.e])))]) ?_ ?_
  ·
    refine pl_start [] Tryz.mixed ?_; intro hd
    refine pl_lock (A := Bkp _ _ _) Rem.here rfl ?_ hd; intro hb0
    refine pl_lock (A := Bkp _ _ _) Rem.here rfl ?_ hd; intro hb1
    refine pl_take (i := 0) rfl (by kernel_rfl) (y_move rfl) ?_ hd; clear hd; intro hd
    refine pl_take (i := 1) rfl (by kernel_rfl) (y_move rfl) ?_ hd; clear hd; intro hd
    refine pl_take (i := 2) rfl (by kernel_rfl) (y_indexAddr i rfl rfl rfl hlt) ?_ hd; clear hd; intro hd
    refine pl_take (i := 3) rfl (by kernel_rfl) (y_loadN rfl rfl hg1) ?_ hd; clear hd; intro hd
    refine pl_take (i := 4) rfl (by kernel_rfl) (y_move rfl) ?_ hd; clear hd; intro hd
    refine pl_take (i := 5) rfl (by kernel_rfl) (y_move rfl) ?_ hd; clear hd; intro hd
    refine pl_take (i := 6) rfl (by kernel_rfl) (y_indexAddr i rfl rfl rfl (by omega)) ?_ hd; clear hd; intro hd
    refine pl_take (i := 7) rfl (by kernel_rfl) (y_loadN rfl rfl hg2) ?_ hd; clear hd; intro hd
    refine pl_take (i := 8) rfl (by kernel_rfl) (y_neq_ints [f.p, f.e] [g.p, g.e] rfl rfl rfl rfl rfl rfl) ?_ hd; clear hd; intro hd
    refine pl_done (by kernel_rfl) ?_ hd
    refine f_unlock (A := Bkp _ _ _) ?_
    refine f_unlock (A := Bkp _ _ _) ?_
    refine f_cut () ?_ (by repeat (first | exact trivial | refine ⟨rfl, ?_⟩))
    exact Ent.put (P := [Bkp false kb (.cells ⟨cs⟩ T fz)]) (by repeat (first | with_reducible exact Takes.nil | (apply Takes.cons; focus (repeat (first | with_reducible exact Rem.here | apply Rem.there))))) (RowA.shut rfl e2) (Ent.put (P := [Bkp false kb2 (.cells ⟨cs2⟩ T2 fz2)]) (by repeat (first | with_reducible exact Takes.nil | (apply Takes.cons; focus (repeat (first | with_reducible exact Rem.here | apply Rem.there))))) (RowA.shut rfl e4) Ent.nil)
  intro _
  by_cases hfg : f = g
  · subst hfg
    rw [decide_eq_true rfl]
    refine c_false rfl ?_
    refine c_skip ?_
    refine f_block ?_
    refine f_seq ?_
    refine c_region ?_
    refine o_y (y_move rfl) rfl ?_
    refine o_y (y_arith64 rfl rfl rfl (by omega)) rfl ?_
    refine o_y (y_assign rfl) rfl ?_
    refine o_nil ?_
    refine f_next (by repeat (first | with_reducible exact Ent.nil | (apply Ent.one; focus (repeat (first | with_reducible exact Rem.here | apply Rem.there))))) (by repeat (first | exact trivial | refine ⟨rfl, ?_⟩)) (ih (i + 1) ⟨hlt, ?_⟩ (by omega))
    rw [take_snoc' hf, take_snoc' hg, ht]
  · rw [decide_eq_false (fun h => hfg (by obtain ⟨p, e⟩ := f; obtain ⟨p', e'⟩ := g; simp only [List.cons.injEq, and_true] at h; obtain ⟨rfl, rfl⟩ := h; rfl))]
    clear ih
    refine c_true rfl ?_
    refine c_seq ?_
    refine c_region ?_
    refine o_y (y_assign rfl) rfl ?_
    refine o_nil ?_
    refine f_seq ?_
    refine c_ret ?_
    refine f_block_ret ?_
    refine f_seq_ret ?_
    refine f_seq_ret ?_
    refine f_block_ret ?_
    refine f_seq_ret ?_
    refine f_ent (by repeat (first | with_reducible exact Ent.nil | (apply Ent.one; focus (repeat (first | with_reducible exact Rem.here | apply Rem.there))))) (f_ret rfl ⟨false, ⟨fun h => (by cases h), fun h => ?_⟩, rfl, rfl⟩)
    subst h
    rw [hf] at hg; injection hg with hg; exact absurd hg hfg

set_option maxHeartbeats 3200000 in
theorem same8_f {a b : Option Addr} {ac bc : Nat} (l m : List Int) (hl : l.length ≤ 1000000) (hm : m.length ≤ 1000000) : Fn Tryz.prog 28 [.slice a l.length ac, .slice b m.length bc] [RowA false intC 1 a l, RowA false intC 1 b m]
    (fun v L => ∃ r : Bool, (r = true ↔ l = m) ∧ v = .bool r ∧ L = [RowA false intC 1 a l, RowA false intC 1 b m]) := by
  refine fn_start Tryz.func28 rfl rfl rfl fun F => ?_
  by_cases hlen : l.length = m.length
  case neg =>
    refine c_seq ?_
    refine c_region ?_
    refine o_y (y_assign rfl) rfl ?_
    refine o_nil ?_
    refine f_seq ?_
    refine c_seq ?_
    refine c_seq ?_
    refine c_region ?_
    refine o_y (y_move rfl) rfl ?_
    refine o_y (y_len_slice rfl) rfl ?_
    refine o_y (y_move rfl) rfl ?_
    refine o_y (y_len_slice rfl) rfl ?_
    refine o_y (y_neq_t rfl rfl (by omega)) rfl ?_
    refine o_nil ?_
    refine f_seq ?_
    refine c_true rfl ?_
    refine c_seq ?_
    refine c_region ?_
    refine o_y (y_assign rfl) rfl ?_
    refine o_nil ?_
    refine f_seq ?_
    refine c_ret ?_
    refine f_seq_ret ?_
    exact f_ent (by repeat (first | with_reducible exact Ent.nil | (apply Ent.one; focus (repeat (first | with_reducible exact Rem.here | apply Rem.there))))) (f_ret rfl ⟨false, ⟨fun h => (by cases h), fun h => absurd (by rw [h]) hlen⟩, rfl, rfl⟩)
  refine c_seq ?_
  refine c_region ?_
  refine o_y (y_assign rfl) rfl ?_
  refine o_nil ?_
  refine f_seq ?_
  refine c_seq ?_
  refine c_seq ?_
  refine c_region ?_
  refine o_y (y_move rfl) rfl ?_
  refine o_y (y_len_slice rfl) rfl ?_
  refine o_y (y_move rfl) rfl ?_
  refine o_y (y_len_slice rfl) rfl ?_
  refine o_y (y_neq_f rfl rfl (by omega)) rfl ?_
  refine o_nil ?_
  refine f_seq ?_
  refine c_false rfl ?_
  refine c_skip ?_
  refine f_seq ?_
  refine c_seq ?_
  refine c_seq ?_
  refine c_region ?_
  refine o_y (y_assign rfl) rfl ?_
  refine o_nil ?_
  refine f_seq ?_
  refine c_block ?_
  refine c_loop_inv (X := Nat) (fun i => i ≤ l.length ∧ l.take i = m.take i) (fun i => l.length - i) (fun _ => [RowA false intC 1 a l, RowA false intC 1 b m])
    (fun i => [(0, .slice a l.length ac), (1, .slice b m.length bc), (5, .int .i64 (i : Int))]) 0 ⟨Nat.zero_le _, rfl⟩ (by repeat (first | with_reducible exact Ent.nil | (apply Ent.one; focus (repeat (first | with_reducible exact Rem.here | apply Rem.there))))) (by repeat (first | exact trivial | refine ⟨rfl, ?_⟩)) ?_
  rintro i ⟨hi, ht⟩ ih
  by_cases hlt : i < l.length
  case neg =>
    clear ih
    have heq : l = m := by rwa [List.take_of_length_le (by omega), List.take_of_length_le (by omega)] at ht
    refine c_seq ?_
    refine c_seq ?_
    refine c_region ?_
    refine o_y (y_move rfl) rfl ?_
    refine o_y (y_move rfl) rfl ?_
    refine o_y (y_len_slice rfl) rfl ?_
    refine o_y (y_lss_f rfl rfl (by omega)) rfl ?_
    refine o_nil ?_
    refine f_seq ?_
    refine c_false rfl ?_
    refine c_exit ?_
    refine f_seq_exit ?_
    refine f_seq_exit ?_
    refine f_block_here ?_
    refine f_seq ?_
    refine c_seq ?_
    refine c_region ?_
    refine o_y (y_assign rfl) rfl ?_
    refine o_nil ?_
    refine f_seq ?_
    refine c_ret ?_
    exact f_ent (by repeat (first | with_reducible exact Ent.nil | (apply Ent.one; focus (repeat (first | with_reducible exact Rem.here | apply Rem.there))))) (f_ret rfl ⟨true, ⟨fun _ => heq, fun _ => rfl⟩, rfl, rfl⟩)
  obtain ⟨f, hf⟩ : ∃ c, l[i]? = some c := ⟨_, List.getElem?_eq_getElem hlt⟩
  obtain ⟨g, hg⟩ : ∃ c, m[i]? = some c := ⟨_, List.getElem?_eq_getElem (by omega)⟩
  have hne : l ≠ [] := by intro h; rw [h] at hlt; exact absurd hlt (by simp)
  have hne2 : m ≠ [] := by intro h; rw [h] at hg; cases hg
  refine c_open (A := RowA false intC 1 a l) (h := RowA.opens (f := intC) hne) Rem.here (fun y hy2 => ?_)
  obtain ⟨kb, ko, cs, T, fz⟩ := y
  obtain ⟨e1, e2⟩ := hy2
  refine c_open (A := RowA false intC 1 b m) (h := RowA.opens (f := intC) hne2) (Rem.there Rem.here) (fun y hy2 => ?_)
  obtain ⟨kb2, ko2, cs2, T2, fz2⟩ := y
  obtain ⟨e3, e4⟩ := hy2
  dsimp only at e1 e2 e3 e4
  subst e1; subst e3
  have hg1 := int_get e2 hf
  have hg2 := int_get e4 hg
  simp only [List.append_eq, List.cons_append, List.nil_append, List.append_nil, tup]
  refine c_seq ?_
  refine c_seq ?_
  refine c_region ?_
  refine o_y (y_move rfl) rfl ?_
  refine o_y (y_move rfl) rfl ?_
  refine o_y (y_len_slice rfl) rfl ?_
  refine o_y (y_lss_t rfl rfl (by omega)) rfl ?_
  refine o_nil ?_
  refine f_seq ?_
  refine c_true rfl ?_
  refine c_skip ?_
  refine f_seq ?_
  refine c_seq ?_
  refine c_block ?_
  refine c_seq ?_
  refine c_cut (X := Unit) (fun _ => [RowA false intC 1 (some ⟨kb, ko, none⟩) l, RowA false intC 1 (some ⟨kb2, ko2, none⟩) m]) (fun _ => [(0, .slice (some ⟨kb, ko, none⟩) l.length ac), (1, .slice (some ⟨kb2, ko2, none⟩) m.length bc), (5, .int .i64 (i : Int)), (25, .bool (!decide (f = g)))]) ?_ ?_
  ·
    refine pl_start [] Tryz.mixed ?_; intro hd
    refine pl_lock (A := Bkp _ _ _) Rem.here rfl ?_ hd; intro hb0
    refine pl_lock (A := Bkp _ _ _) Rem.here rfl ?_ hd; intro hb1
    refine pl_take (i := 0) rfl (by kernel_rfl) (y_move rfl) ?_ hd; clear hd; intro hd
    refine pl_take (i := 1) rfl (by kernel_rfl) (y_move rfl) ?_ hd; clear hd; intro hd
    refine pl_take (i := 2) rfl (by kernel_rfl) (y_indexAddr i rfl rfl rfl hlt) ?_ hd; clear hd; intro hd
    refine pl_take (i := 3) rfl (by kernel_rfl) (y_load rfl rfl hg1) ?_ hd; clear hd; intro hd
    refine pl_take (i := 4) rfl (by kernel_rfl) (y_move rfl) ?_ hd; clear hd; intro hd
    refine pl_take (i := 5) rfl (by kernel_rfl) (y_move rfl) ?_ hd; clear hd; intro hd
    refine pl_take (i := 6) rfl (by kernel_rfl) (y_indexAddr i rfl rfl rfl (by omega)) ?_ hd; clear hd; intro hd
    refine pl_take (i := 7) rfl (by kernel_rfl) (y_load rfl rfl hg2) ?_ hd; clear hd; intro hd
    refine pl_take (i := 8) rfl (by kernel_rfl) (y_cmp rfl rfl rfl) ?_ hd; clear hd; intro hd
    refine pl_done (by kernel_rfl) ?_ hd
    refine f_unlock (A := Bkp _ _ _) ?_
    refine f_unlock (A := Bkp _ _ _) ?_
    refine f_cut () ?_ (by repeat (first | exact trivial | refine ⟨rfl, ?_⟩))
    exact Ent.put (P := [Bkp false kb (.cells ⟨cs⟩ T fz)]) (by repeat (first | with_reducible exact Takes.nil | (apply Takes.cons; focus (repeat (first | with_reducible exact Rem.here | apply Rem.there))))) (RowA.shut rfl e2) (Ent.put (P := [Bkp false kb2 (.cells ⟨cs2⟩ T2 fz2)]) (by repeat (first | with_reducible exact Takes.nil | (apply Takes.cons; focus (repeat (first | with_reducible exact Rem.here | apply Rem.there))))) (RowA.shut rfl e4) Ent.nil)
  intro _
  by_cases hfg : f = g
  · subst hfg
    rw [decide_eq_true rfl]
    refine c_false rfl ?_
    refine c_skip ?_
    refine f_block ?_
    refine f_seq ?_
    refine c_region ?_
    refine o_y (y_move rfl) rfl ?_
    refine o_y (y_arith64 rfl rfl rfl (by omega)) rfl ?_
    refine o_y (y_assign rfl) rfl ?_
    refine o_nil ?_
    refine f_next (by repeat (first | with_reducible exact Ent.nil | (apply Ent.one; focus (repeat (first | with_reducible exact Rem.here | apply Rem.there))))) (by repeat (first | exact trivial | refine ⟨rfl, ?_⟩)) (ih (i + 1) ⟨hlt, ?_⟩ (by omega))
    rw [take_snoc' hf, take_snoc' hg, ht]
  · rw [decide_eq_false hfg]
    clear ih
    refine c_true rfl ?_
    refine c_seq ?_
    refine c_region ?_
    refine o_y (y_assign rfl) rfl ?_
    refine o_nil ?_
    refine f_seq ?_
    refine c_ret ?_
    refine f_block_ret ?_
    refine f_seq_ret ?_
    refine f_seq_ret ?_
    refine f_block_ret ?_
    refine f_seq_ret ?_
    refine f_ent (by repeat (first | with_reducible exact Ent.nil | (apply Ent.one; focus (repeat (first | with_reducible exact Rem.here | apply Rem.there))))) (f_ret rfl ⟨false, ⟨fun h => (by cases h), fun h => ?_⟩, rfl, rfl⟩)
    subst h
    rw [hf] at hg; injection hg with hg; exact absurd hg hfg
end Go.Lun

/- The statements of layer 8: the chapter's example, reckoned. -/
namespace Go.Lun
open Go.Proofs

def A0 : PS := PS.begin 20
def A1 : PS := (A0.new 1 0 [[120]]).1
def A2 : PS := (A1.commit 2).1
def A3 : PS := (A2.change 2 1 0 [[121]]).1
def A4 : PS := (A3.commit 3).1
theorem aw1 : (A0.new 1 0 [[120]]).2 = (2, 0) := by kernel_rfl
theorem aw2 : (A1.commit 2).2 = 0 := by kernel_rfl
theorem aw2x : A2.x = ⟨2, 2, 0, 3⟩ := by kernel_rfl
theorem aw3 : (A2.change 2 1 0 [[121]]).2 = (3, 0) := by kernel_rfl
theorem aw4 : (A3.commit 3).2 = 0 := by kernel_rfl
theorem aw4x : A4.x = ⟨3, 3, 4, 5⟩ := by kernel_rfl
theorem aw4f : A4.free = [⟨2, 3⟩] := by kernel_rfl
theorem aw4c : A4.chain = [4] := by kernel_rfl
theorem aw4p : A4.pages = 5 := by kernel_rfl
theorem aw4r : A4.D.pg 5 3 = (0, some ⟨1, 3, 3, 0, [[121]]⟩) := by kernel_rfl
end Go.Lun

/- The statements of layer 8: awake. -/
namespace Go.Lun
open Go.Proofs

section
variable {P : Program} {n : Nat} {ds : List Deferred} {F : Fr} {L : List Asrt} {env : Env} {Q : Post} {ops : Array Oper} {rest : List Oper}
variable {dt : Option Tmp} {ty : TypeId} {pos : String} {af : Array Edge} {g : Option (Nat × Bool)}
theorem IntFs.at {P : Program} : ∀ {fs : List Field} {k i : Nat}, IntFs P fs k → i < fs.length → ∃ f, fs[i]? = some f ∧ f.offset = k + i ∧ ∃ z b, Ty P f.type (.int .i64) z 1 b
  | f :: fs, k, 0, h, _ => ⟨f, rfl, h.1.2.1, h.1.2.2⟩
  | f :: fs, k, i + 1, h, hi => by
    obtain ⟨g, h1, h2, h3⟩ := IntFs.at (i := i) h.2 (by simpa using hi)
    exact ⟨g, by simpa using h1, by omega, h3⟩
theorem y_fieldI {s : TypeId} {x : Operand} {i k : Nat} {v : Value} {vs : List Value} [hI : IntS P s k] (hx : ev env x = some (.agg ⟨vs⟩)) (hi : Nat.blt i k = true) (hv : vs[i]? = some v) : Yld P n ds F L env ⟨dt, .field s x i, ty, pos, af, g⟩ v := .mk fun w a _ kk => by
  have e1 := kk.ev hx
  have hi' : i < (P.fieldsOf s).toList.length := by rw [hI.fields.2]; simpa [Nat.blt_eq] using hi
  obtain ⟨f, h1, h2, z, b, hT⟩ := IntFs.at hI.fields.1 hi'
  have h1' : (P.fieldsOf s)[i]? = some f := by rw [← h1]; exact (Array.getElem?_toList ..).symm
  have hu : (underlying s).run P w = .ok (.struct (P.fieldsOf s)) w := by simp [underlying, hI.und]
  rw [Nat.zero_add] at h2
  simp only [execOp, e1, Instr.field, Sem.run_bind, hu, Result.andThen_ok, h1', asAgg, Sem.run_pure, part, run_isAgg, aggD, Bool.false_eq_true, if_false, List.getElem?_toArray, h2, hv]
end

variable {p d : Nat}

theorem pages_p (S : PS) : ∀ (z : PZ), z.fit S → True := fun _ _ => trivial

set_option maxHeartbeats 12800000 in
theorem awake8_f : Fn Tryz.prog 18 [] [] (fun v L => v = .bool true ∧ L = []) := by
  refine fn_start Tryz.func18 rfl rfl rfl fun F => ?_
  have f0 := fresh_fit 20 (by decide)
  have f1 : AFit A1 6 := by have := f0.act (by decide) ⟨0, 1, 0, 0, 0, 0, none, 0, [[120]]⟩; exact this
  have f2 : AFit A2 7 := by have := f1.act (by decide) ⟨3, 0, 0, 0, 2, 0, none, 0, []⟩; exact this
  have f3 : AFit A3 8 := by have := f2.act (by decide) ⟨1, 1, 0, 2, 0, 0, none, 0, [[121]]⟩; exact this
  have f4 : AFit A4 9 := by have := f3.act (by decide) ⟨3, 0, 0, 0, 3, 0, none, 0, []⟩; exact this
  have w1 := aw1; have w2 := aw2; have w2x := aw2x; have w3 := aw3; have w4 := aw4; have w4x := aw4x; have w4f := aw4f; have w4c := aw4c; have w4p := aw4p; have w4r := aw4r
  have s1 : Small [([120] : Bytes)] := ⟨by decide, by decide⟩
  have s2 : Small [([121] : Bytes)] := ⟨by decide, by decide⟩
  have hx0 : (PS.begin 20).x.e = 1 := rfl
  have e1 : (PS.begin 20).new 1 0 [[120]] = (A1, 2, 0) := Prod.ext rfl w1
  have e2 : A1.commit 2 = (A2, 0) := Prod.ext rfl w2
  have e3 : A2.change 2 1 0 [[121]] = (A3, 3, 0) := Prod.ext rfl w3
  have e4 : A3.commit 3 = (A4, 0) := Prod.ext rfl w4
  clear w1 w2 w3 w4
  generalize A1 = T1 at *
  generalize A2 = T2 at *
  generalize A3 = T3 at *
  generalize A4 = T4 at *
  refine c_seq ?_
  refine c_region ?_
  refine o_y (y_assign rfl) rfl ?_
  refine o_nil ?_
  refine f_seq ?_
  refine c_seq ?_
  refine c_region ?_
  refine o_call rfl (fresh8_f 20 (by decide)) (by repeat (first | with_reducible exact Takes.nil | (apply Takes.cons; focus (repeat (first | with_reducible exact Rem.here | apply Rem.there))))) rfl ?_
  generalize PS.begin 20 = T0 at *
  rintro _ _ ⟨p, d, rfl, rfl⟩
  simp only [List.append_eq, List.cons_append, List.nil_append, List.append_nil, tup]
  refine o_y (y_move rfl) rfl ?_
  refine o_y (y_extract rfl rfl) rfl ?_
  refine o_y (y_extract rfl rfl) rfl ?_
  refine o_y (y_assign rfl) rfl ?_
  refine o_y (y_assign rfl) rfl ?_
  refine o_nil ?_
  refine f_seq ?_
  refine c_seq ?_
  refine c_seq ?_
  refine c_region ?_
  refine o_y (y_move rfl) rfl ?_
  refine o_y (y_eql_nil rfl rfl) rfl ?_
  refine o_y (y_move rfl) rfl ?_
  refine o_want rfl ?_
  refine o_y (y_move rfl) rfl ?_
  refine o_want rfl ?_
  refine o_y (y_eql_nil rfl rfl) rfl ?_
  refine o_y (y_pick_f rfl rfl) rfl ?_
  refine o_y (y_move rfl) rfl ?_
  refine o_want rfl ?_
  refine o_y (y_move rfl) rfl ?_
  refine o_want rfl ?_
  refine o_call rfl (super_p T0) (by repeat (first | with_reducible exact Takes.nil | (apply Takes.cons; focus (repeat (first | with_reducible exact Rem.here | apply Rem.there))))) rfl ?_
  rintro _ _ ⟨rfl, rfl⟩
  simp only [SP.vals, hx0]
  simp only [List.append_eq, List.cons_append, List.nil_append, List.append_nil, tup]
  refine o_want rfl ?_
  refine o_y (y_fieldI rfl rfl rfl) rfl ?_
  refine o_want rfl ?_
  refine o_y (y_neq_f rfl rfl (by omega)) rfl ?_
  refine o_y (y_pick_f rfl rfl) rfl ?_
  refine o_nil ?_
  refine f_seq ?_
  refine c_false rfl ?_
  refine c_skip ?_
  refine f_seq ?_
  refine c_seq ?_
  refine c_region ?_
  refine o_y (y_move rfl) rfl ?_
  refine o_buildSlice rfl rfl rfl rfl rfl (fun nb => ?_)
  rename Nat => nb
  refine o_share (b := nb) (by repeat (first | with_reducible exact Rem.here | apply Rem.there)) ?_
  refine o_ent (M := [PRep p d T0, RowA false strC 1 (some ⟨nb, 0, none⟩) [[120]]]) (Ent.one (by repeat (first | with_reducible exact Rem.here | apply Rem.there)) (Ent.put (P := [Sh nb (.cells ⟨[str [120]]⟩ 9 (0, 0))]) (Takes.cons Rem.here Takes.nil) (RowA.shut rfl rfl) Ent.nil)) ?_
  refine o_call rfl (new_p T0 false (some ⟨nb, 0, none⟩) 1 (203 * 5) 1 0 [[120]] s1 f0.pf (by decide)) (by repeat (first | with_reducible exact Takes.nil | (apply Takes.cons; focus (repeat (first | with_reducible exact Rem.here | apply Rem.there))))) rfl ?_
  rw [e1]
  rintro _ _ ⟨rfl, rfl⟩
  simp only [List.append_eq, List.cons_append, List.nil_append, List.append_nil, tup]
  refine o_y (y_move rfl) rfl ?_
  refine o_y (y_extract rfl rfl) rfl ?_
  refine o_y (y_extract rfl rfl) rfl ?_
  refine o_y (y_assign rfl) rfl ?_
  refine o_y (y_assign rfl) rfl ?_
  refine o_nil ?_
  refine f_seq ?_
  refine c_seq ?_
  refine c_region ?_
  refine o_y (y_move rfl) rfl ?_
  refine o_y (y_move rfl) rfl ?_
  refine o_call rfl (commit_p T1 (203 * 6) 2 f1.pf f1.cf f1.lf (by decide)) (by repeat (first | with_reducible exact Takes.nil | (apply Takes.cons; focus (repeat (first | with_reducible exact Rem.here | apply Rem.there))))) rfl ?_
  rw [e2]
  rintro _ _ ⟨rfl, rfl⟩
  simp only [List.append_eq, List.cons_append, List.nil_append, List.append_nil, tup]
  refine o_y (y_assign rfl) rfl ?_
  refine o_nil ?_
  refine f_seq ?_
  refine c_seq ?_
  refine c_region ?_
  refine o_y (y_move rfl) rfl ?_
  refine o_call rfl (super_p T2) (by repeat (first | with_reducible exact Takes.nil | (apply Takes.cons; focus (repeat (first | with_reducible exact Rem.here | apply Rem.there))))) rfl ?_
  rw [w2x]
  rintro _ _ ⟨rfl, rfl⟩
  simp only [List.append_eq, List.cons_append, List.nil_append, List.append_nil, tup]
  refine o_alloc rfl (fun xb => ?_)
  refine o_store rfl rfl rfl frz0 ?_
  refine o_nil ?_
  refine f_seq ?_
  refine c_seq ?_
  refine c_region ?_
  refine o_y (y_move rfl) rfl ?_
  refine o_y (y_move rfl) rfl ?_
  refine o_buildSlice rfl rfl rfl rfl rfl (fun nb => ?_)
  rename Nat => nb2
  refine o_share (b := nb2) (by repeat (first | with_reducible exact Rem.here | apply Rem.there)) ?_
  refine o_ent (M := [PRep p d T2, RowA false strC 1 (some ⟨nb2, 0, none⟩) [[121]], Blk xb (.cells ⟨[.int .i64 2, .int .i64 2, .int .i64 0, .int .i64 3]⟩ 29 (0, 0))]) (Ent.one (by repeat (first | with_reducible exact Rem.here | apply Rem.there)) (Ent.put (P := [Sh nb2 (.cells ⟨[str [121]]⟩ 9 (0, 0))]) (Takes.cons Rem.here Takes.nil) (RowA.shut rfl rfl) (by repeat (first | with_reducible exact Ent.nil | (apply Ent.one; focus (repeat (first | with_reducible exact Rem.here | apply Rem.there))))))) ?_
  refine o_call rfl (change_p T2 false (some ⟨nb2, 0, none⟩) 1 (203 * 7) 2 1 0 [[121]] s2 f2.pf (by decide)) (by repeat (first | with_reducible exact Takes.nil | (apply Takes.cons; focus (repeat (first | with_reducible exact Rem.here | apply Rem.there))))) rfl ?_
  rw [e3]
  rintro _ _ ⟨rfl, rfl⟩
  simp only [List.append_eq, List.cons_append, List.nil_append, List.append_nil, tup]
  refine o_y (y_move rfl) rfl ?_
  refine o_y (y_extract rfl rfl) rfl ?_
  refine o_y (y_extract rfl rfl) rfl ?_
  refine o_y (y_assign rfl) rfl ?_
  refine o_y (y_assign rfl) rfl ?_
  refine o_nil ?_
  refine f_seq ?_
  refine c_seq ?_
  refine c_region ?_
  refine o_y (y_move rfl) rfl ?_
  refine o_y (y_move rfl) rfl ?_
  refine o_call rfl (commit_p T3 (203 * 8) 3 f3.pf f3.cf f3.lf (by decide)) (by repeat (first | with_reducible exact Takes.nil | (apply Takes.cons; focus (repeat (first | with_reducible exact Rem.here | apply Rem.there))))) rfl ?_
  rw [e4]
  rintro _ _ ⟨rfl, rfl⟩
  simp only [List.append_eq, List.cons_append, List.nil_append, List.append_nil, tup]
  refine o_y (y_assign rfl) rfl ?_
  refine o_nil ?_
  refine f_seq ?_
  refine c_seq ?_
  refine c_region ?_
  refine o_y (y_move rfl) rfl ?_
  refine o_call rfl (free_p T4 (by rw [w4f]; decide)) (by repeat (first | with_reducible exact Takes.nil | (apply Takes.cons; focus (repeat (first | with_reducible exact Rem.here | apply Rem.there))))) rfl ?_
  rw [w4f]
  rintro _ _ ⟨fa, fc, hwf, rfl, rfl⟩
  simp only [List.append_eq, List.cons_append, List.nil_append, List.append_nil, tup]
  refine o_y (y_assign rfl) rfl ?_
  refine o_nil ?_
  refine f_seq ?_
  refine c_seq ?_
  refine c_region ?_
  refine o_y (y_move rfl) rfl ?_
  refine o_y (y_nilCheck rfl) rfl ?_
  refine o_y (y_fieldAddr0 rfl) rfl ?_
  have hpg := f4.pf.pg
  refine o_open (A := PRep p d T4) (by repeat (first | with_reducible exact Rem.here | apply Rem.there)) (fun z hz => ?_)
  obtain ⟨h1, h2, h3⟩ := hz
  obtain ⟨ca, cc, lfa, lfc, la, lc⟩ := z
  dsimp only at h1 h2 h3
  try dsimp only [PZ.frs]
  simp only [List.append_eq, List.cons_append, List.nil_append, List.append_nil, tup]
  refine o_open (A := PCo p d _ _ _ T4) (by repeat (first | with_reducible exact Rem.here | apply Rem.there)) (fun y hy => ?_)
  obtain ⟨rb, s, ga, gc, m, es, ck⟩ := y
  obtain ⟨hwg, him⟩ := hy
  dsimp only at hwg him
  try dsimp only [PY.frs]
  simp only [List.append_eq, List.cons_append, List.nil_append, List.append_nil, tup]
  refine o_y (y_load rfl rfl rfl) rfl ?_
  refine o_y (y_move rfl) rfl ?_
  refine o_call rfl (rread_f rb d s T4.D T4.pages 3 hpg.2.1) (by repeat (first | with_reducible exact Takes.nil | (apply Takes.cons; focus (repeat (first | with_reducible exact Rem.here | apply Rem.there))))) rfl ?_
  rw [w4p, w4r]
  rintro _ _ (⟨hn, _⟩ | ⟨q, qa, qc, hq, herr, hw, rfl, rfl⟩)
  · cases hn
  injection hq with _ hq
  injection hq with hq
  subst hq
  simp only [List.append_eq, List.cons_append, List.nil_append, List.append_nil, tup]
  rw [← w4p]
  refine o_ent (M := [RowA false freeC 2 fa [⟨2, 3⟩], PRep p d T4, RowA false strC 1 qa [[121]], Blk xb (.cells ⟨[.int .i64 2, .int .i64 2, .int .i64 0, .int .i64 3]⟩ 29 (0, 0))]) ?_ ?_
  · refine Ent.one (by repeat (first | with_reducible exact Rem.here | apply Rem.there)) ?_
    refine (Ent.put (by repeat (first | with_reducible exact Takes.nil | (apply Takes.cons; focus (repeat (first | with_reducible exact Rem.here | apply Rem.there))))) (PCo.mk T4 (by exact ⟨rfl, rfl, rfl, rfl, rfl, rfl, rfl⟩) hwg him) (Ent.refl _)).trans ?_
    exact Ent.put (by repeat (first | with_reducible exact Takes.nil | (apply Takes.cons; focus (repeat (first | with_reducible exact Rem.here | apply Rem.there))))) (PRep.mk T4 (by exact ⟨rfl, rfl, rfl, rfl, rfl, rfl, rfl⟩) h1 h2 h3) (by repeat (first | with_reducible exact Ent.nil | (apply Ent.one; focus (repeat (first | with_reducible exact Rem.here | apply Rem.there)))))
  refine o_y (y_move rfl) rfl ?_
  refine o_y (y_extract rfl rfl) rfl ?_
  refine o_y (y_extract rfl rfl) rfl ?_
  refine o_alloc rfl (fun nb => ?_)
  refine o_store rfl rfl rfl frz0 ?_
  refine o_y (y_assign rfl) rfl ?_
  refine o_nil ?_
  refine f_seq ?_
  refine c_seq ?_
  refine c_region ?_
  refine o_y (y_move rfl) rfl ?_
  refine o_y (y_eql_t rfl rfl (by omega)) rfl ?_
  refine o_y (y_move rfl) rfl ?_
  refine o_want rfl ?_
  refine o_y (y_move rfl) rfl ?_
  refine o_want rfl ?_
  refine o_y (y_eql_t rfl rfl (by omega)) rfl ?_
  refine o_y (y_pick_t rfl rfl) rfl ?_
  refine o_y (y_move rfl) rfl ?_
  refine o_want rfl ?_
  refine o_y (y_move rfl) rfl ?_
  refine o_want rfl ?_
  refine o_y (y_eql_t rfl rfl (by omega)) rfl ?_
  refine o_y (y_pick_t rfl rfl) rfl ?_
  refine o_y (y_move rfl) rfl ?_
  refine o_want rfl ?_
  refine o_y (y_fieldAddr0 rfl) rfl ?_
  refine o_want rfl ?_
  refine o_y (y_load rfl rfl rfl) rfl ?_
  refine o_want rfl ?_
  refine o_y (y_eql_t rfl rfl (by omega)) rfl ?_
  refine o_y (y_pick_t rfl rfl) rfl ?_
  refine o_y (y_move rfl) rfl ?_
  refine o_want rfl ?_
  refine o_y (y_fieldAddr0 rfl) rfl ?_
  refine o_want rfl ?_
  refine o_y (y_load rfl rfl rfl) rfl ?_
  refine o_want rfl ?_
  refine o_y (y_eql_t rfl rfl (by omega)) rfl ?_
  refine o_y (y_pick_t rfl rfl) rfl ?_
  refine o_y (y_move rfl) rfl ?_
  refine o_want rfl ?_
  refine o_y (y_move rfl) rfl ?_
  refine o_want rfl ?_
  refine o_y (y_eql_t rfl rfl (by omega)) rfl ?_
  refine o_y (y_pick_t rfl rfl) rfl ?_
  refine o_y (y_move rfl) rfl ?_
  refine o_want rfl ?_
  refine o_y (y_move rfl) rfl ?_
  refine o_want rfl ?_
  refine o_y (y_eql_t rfl rfl (by omega)) rfl ?_
  refine o_y (y_pick_t rfl rfl) rfl ?_
  refine o_y (y_move rfl) rfl ?_
  refine o_want rfl ?_
  refine o_y (y_move rfl) rfl ?_
  refine o_want rfl ?_
  refine o_y (y_eql_t rfl rfl (by omega)) rfl ?_
  refine o_y (y_pick_t rfl rfl) rfl ?_
  refine o_y (y_move rfl) rfl ?_
  refine o_want rfl ?_
  refine o_y (y_move rfl) rfl ?_
  refine o_want rfl ?_
  refine o_call rfl (super_p T4) (by repeat (first | with_reducible exact Takes.nil | (apply Takes.cons; focus (repeat (first | with_reducible exact Rem.here | apply Rem.there))))) rfl ?_
  rw [w4x]
  rintro _ _ ⟨rfl, rfl⟩
  simp only [List.append_eq, List.cons_append, List.nil_append, List.append_nil, tup]
  refine o_want rfl ?_
  refine o_y (y_fieldI rfl rfl rfl) rfl ?_
  refine o_want rfl ?_
  refine o_y (y_cmp rfl rfl rfl) rfl ?_
  refine o_y (y_pick_t rfl rfl) rfl ?_
  refine o_y (y_move rfl) rfl ?_
  refine o_want rfl ?_
  refine o_y (y_move rfl) rfl ?_
  refine o_want rfl ?_
  refine o_y (y_len_slice rfl) rfl ?_
  refine o_want rfl ?_
  refine o_y (y_cmp rfl rfl rfl) rfl ?_
  refine o_y (y_pick_t rfl rfl) rfl ?_
  refine o_y (y_move rfl) rfl ?_
  refine o_want rfl ?_
  refine o_y (y_move rfl) rfl ?_
  refine o_want rfl ?_
  refine o_open (A := RowA false freeC 2 fa [⟨2, 3⟩]) (h := RowA.opens (f := freeC) (by simp)) (by repeat (first | with_reducible exact Rem.here | apply Rem.there)) (fun y2 hy2 => ?_)
  obtain ⟨kb, ko, cs, T, fz⟩ := y2
  obtain ⟨e5, e6⟩ := hy2
  dsimp only at e5 e6
  subst e5
  have hg1 := free_get (i := 0) e6 rfl
  simp only [List.append_eq, List.cons_append, List.nil_append, List.append_nil, tup]
  try refine o_want rfl ?_
  refine o_y (y_indexAddr 0 rfl rfl rfl (by decide)) rfl ?_
  refine o_want rfl ?_
  refine o_y (y_loadN rfl rfl hg1) rfl ?_
  refine o_want rfl ?_
  refine o_y (y_build rfl) rfl ?_
  refine o_want rfl ?_
  refine o_y (y_eql_ints [2, 3] [2, 3] rfl rfl rfl rfl rfl rfl) rfl ?_
  refine o_y (y_pick_t rfl rfl) rfl ?_
  refine o_y (y_move rfl) rfl ?_
  refine o_want rfl ?_
  refine o_y (y_move rfl) rfl ?_
  refine o_want rfl ?_
  refine o_y (y_eql_t rfl rfl (by omega)) rfl ?_
  refine o_y (y_pick_t rfl rfl) rfl ?_
  refine o_y (y_move rfl) rfl ?_
  refine o_want rfl ?_
  refine o_y (y_fieldAddr0 rfl) rfl ?_
  refine o_want rfl ?_
  refine o_y (y_load rfl rfl rfl) rfl ?_
  refine o_want rfl ?_
  refine o_y (y_len_slice rfl) rfl ?_
  refine o_want rfl ?_
  refine o_y (y_cmp rfl rfl rfl) rfl ?_
  refine o_y (y_pick_t rfl rfl) rfl ?_
  refine o_y (y_move rfl) rfl ?_
  refine o_want rfl ?_
  refine o_y (y_fieldAddr0 rfl) rfl ?_
  refine o_want rfl ?_
  refine o_y (y_load rfl rfl rfl) rfl ?_
  refine o_want rfl ?_
  refine o_open (A := RowA false strC 1 qa [[121]]) (h := RowA.opens (f := strC) (by simp)) (by repeat (first | with_reducible exact Rem.here | apply Rem.there)) (fun y2 hy2 => ?_)
  obtain ⟨kb2, ko2, cs2, T2, fz2⟩ := y2
  obtain ⟨e7, e8⟩ := hy2
  dsimp only at e7 e8
  subst e7
  have hg2 := str_get (i := 0) e8 rfl
  simp only [List.append_eq, List.cons_append, List.nil_append, List.append_nil, tup]
  try refine o_want rfl ?_
  refine o_y (y_indexAddr 0 rfl rfl rfl (by decide)) rfl ?_
  refine o_want rfl ?_
  refine o_y (y_load rfl rfl hg2) rfl ?_
  refine o_want rfl ?_
  refine o_y (y_eq_str (op := .eql) (l := [121]) (m := [121]) (c := true) rfl rfl rfl) rfl ?_
  refine o_y (y_pick_t rfl rfl) rfl ?_
  refine o_y (y_move rfl) rfl ?_
  refine o_want rfl ?_
  refine o_y (y_move rfl) rfl ?_
  refine o_want rfl ?_
  refine o_call rfl (chain_p T4 (by rw [w4c]; decide)) (by repeat (first | with_reducible exact Takes.nil | (apply Takes.cons; focus (repeat (first | with_reducible exact Rem.here | apply Rem.there))))) rfl ?_
  rw [w4c]
  rintro _ _ ⟨ca2, cc2, hwc, rfl, rfl⟩
  simp only [List.append_eq, List.cons_append, List.nil_append, List.append_nil, tup]
  refine o_want rfl ?_
  refine o_y (y_len_slice rfl) rfl ?_
  refine o_want rfl ?_
  refine o_y (y_cmp rfl rfl rfl) rfl ?_
  refine o_y (y_pick_t rfl rfl) rfl ?_
  refine o_y (y_move rfl) rfl ?_
  refine o_want rfl ?_
  refine o_y (y_move rfl) rfl ?_
  refine o_want rfl ?_
  refine o_y (y_nilCheck rfl) rfl ?_
  refine o_want rfl ?_
  refine o_y (y_fieldAddr0 rfl) rfl ?_
  refine o_want rfl ?_
  refine o_open (A := PRep p d T4) (by repeat (first | with_reducible exact Rem.here | apply Rem.there)) (fun z hz => ?_)
  obtain ⟨h1, h2, h3⟩ := hz
  obtain ⟨ca, cc, lfa, lfc, la, lc⟩ := z
  dsimp only at h1 h2 h3
  try dsimp only [PZ.frs]
  simp only [List.append_eq, List.cons_append, List.nil_append, List.append_nil, tup]
  refine o_open (A := PCo p d _ _ _ T4) (by repeat (first | with_reducible exact Rem.here | apply Rem.there)) (fun y hy => ?_)
  obtain ⟨rb, s, ga, gc, m, es, ck⟩ := y
  obtain ⟨hwg, him⟩ := hy
  dsimp only at hwg him
  try dsimp only [PY.frs]
  simp only [List.append_eq, List.cons_append, List.nil_append, List.append_nil, tup]
  refine o_y (y_load rfl rfl rfl) rfl ?_
  refine o_want rfl ?_
  refine o_call rfl (pages_r (d := d) rb s T4.pages) (by repeat (first | with_reducible exact Takes.nil | (apply Takes.cons; focus (repeat (first | with_reducible exact Rem.here | apply Rem.there))))) rfl ?_
  rw [w4p]
  rintro _ _ ⟨rfl, rfl⟩
  simp only [List.append_eq, List.cons_append, List.nil_append, List.append_nil, tup]
  refine o_want rfl ?_
  refine o_y (y_eql_t rfl rfl (by omega)) rfl ?_
  refine o_y (y_pick_t rfl rfl) rfl ?_
  refine o_y (y_assign rfl) rfl ?_
  refine o_nil ?_
  refine f_seq ?_
  refine c_ret ?_
  exact f_ent (by repeat (first | with_reducible exact Ent.nil | (apply Ent.one; focus (repeat (first | with_reducible exact Rem.here | apply Rem.there))))) (f_ret rfl ⟨rfl, rfl⟩)
end Go.Lun

/- What a function does where a block that it reads is held by the frame. -/
namespace Go.Lun

theorem St.frameK {F : Fr} {L P R : List Asrt} {w : World} (s : St F L w) (h : Takes L P R) :
    ∃ F', (∀ b x, F.res b = some x → F'.res b = some x) ∧ St F' P w ∧ ∀ L' w', St F' L' w' → St F (L' ++ R) w' := by
  obtain ⟨h1, h2, h3, r, hc, hf, hr, hs⟩ := s
  obtain ⟨a, b, hab, rfl, ha, hb⟩ := sep_split (h.ent r hs)
  have hFb : Compat F.res b := (hab.join_r hc.symm).symm
  have hFa : Compat F.res a := hc.symm.join_l.symm
  refine ⟨{ F with res := join F.res b }, fun _ _ h => join_some h, ⟨h1, h2, h3, a, .of_join hFa hab.symm, hf.join (hr.right hab), hr.left, ha⟩, ?_⟩
  rintro L' w' ⟨k1, k2, k3, r', kc, kf, kr, ks⟩
  have hbr : Compat b r' := hFb.join_r kc
  exact ⟨k1, k2, k3, join r' b, (Compat.of_join kc.join_l.symm hFb.symm).symm, kf.left, kr.join (kf.right hFb), sep_append hbr.symm ks hb⟩

structure FnK (P : Program) (f : FuncId) (args : List Value) (b : Nat) (o : Obj) (pre : List Asrt) (R : Value → List Asrt → Prop) : Prop where
  out : ∀ F w, FFind F b o → St F pre w → Calls P f ⟨args⟩ w fun e w' => ∃ v L', e = .returned v ∧ R v L' ∧ St F L' w'

section
variable {P : Program} {n : Nat} {ds : List Deferred} {F : Fr} {L : List Asrt} {env : Env} {Q : Post} {ops : Array Oper} {rest : List Oper}
variable {dt : Option Tmp} {ty : TypeId} {pos : String} {af : Array Edge} {g : Option (Nat × Bool)}
theorem fnK_start {f : FuncId} {fn : Func} {c : Code} {args : List Value} {b : Nat} {o : Obj} {pre : List Asrt} {R : Value → List Asrt → Prop} (hf : P.funcs[f]? = some fn) (hb : fn.body = some c) (hn : fn.ntmps = n)
    (hl : Nat.ble args.length n = true) (h : ∀ F, FFind F b o → CodeJ P n [] F pre (argEnv 0 args) c (FnPost P fn F R)) : FnK P f args b o pre R := .mk fun F w hF s => by
  refine (callsIn_wide (n := 0)).1 (callsIn_of_wp_marks (F := fe none) hf hb trivial (wpIn_mono ((h { F with ro := none } ⟨hF.out⟩).out w _ s ⟨?_, rfl, ?_⟩) ?_))
  · have := Nat.le_of_ble_eq_true hl
    simp [hn]; omega
  · intro t v ht
    obtain ⟨_, h2⟩ := look_argEnv ht
    have hlt : t < args.length := by
      rcases Nat.lt_or_ge t args.length with h | h
      · exact h
      · simp [List.getElem?_eq_none h] at h2
    simp [Array.getElem?_append, hlt]
    simpa [hlt] using h2
  · intro e a w hq
    cases e with
    | normal => exact hq
    | ret => exact hq
    | _ => exact hq.elim
theorem o_callK {f : FuncId} {args : Array Operand} {ats : Array TypeId} {vs : List Value} {b : Nat} {o : Obj} {pre M : List Asrt} {R : Value → List Asrt → Prop} [hc : Callee P f] [hb : FFind F b o] (hargs : evs env args.toList = some vs)
    (hf : FnK P f vs b o pre R) (ht : Takes L pre M) (hd : fits n dt = true) (h : ∀ v L', R v L' → OpsJ P n ds F (L' ++ M) (putE env dt v) ops rest Q) :
    OpsJ P n ds F L env ops (⟨dt, .call ⟨.value (.func f), args, ats⟩, ty, pos, af, none⟩ :: rest) Q := .mk fun w a s k => by
  refine wpList_plain rfl fun K hK => ?_
  obtain ⟨F', hsub, s', hback⟩ := s.frameK ht
  have hF' : FFind F' b o := by
    obtain ⟨q, hq⟩ := hb.out
    exact ⟨q, hsub _ _ hq⟩
  have he : (execOp a.eval ⟨dt, .call ⟨.value (.func f), args, ats⟩, ty, pos, af, none⟩).run P w = .ok (.enter f ⟨vs⟩) w := by
    simp [execOp, resolve, k.evsA hargs, Act.eval, Deferred.ofValue, invoke, hc.run]
  unfold Oper.wp
  rw [he, Oper.upon_enter]
  refine (hf.out F' w hF' s').mono fun e w' => ?_
  rintro ⟨v, L', rfl, hR, s''⟩
  exact hK _ _ ((h v L' hR).out w' _ (hback _ _ s'') (k.put hd v))
end
end Go.Lun

/- The pager's own, where its block is held; acts in a row. -/
namespace Go.Lun
open Go.Proofs

section
variable {p d rb m : Nat} {x : SP} {fv cv lf lc : Value} {old lp : Int}

theorem super_k : FnK Tryz.prog 25 [.pointer (some ⟨p, 0, none⟩)] p (pobj rb x fv cv m old lp lf lc) [] (fun v L => v = .agg ⟨x.vals⟩ ∧ L = []) := by
  refine fnK_start Tryz.func25 rfl rfl rfl fun F hF => ?_
  refine c_seq ?_
  refine c_region ?_
  refine o_alloc rfl (fun zb => ?_)
  refine o_nil ?_
  refine f_seq ?_
  refine c_seq ?_
  refine c_region ?_
  refine o_y (y_move rfl) rfl ?_
  refine o_y (y_nilCheck rfl) rfl ?_
  refine o_y (y_fieldAddr0 rfl) rfl ?_
  refine o_y (y_loadN rfl rfl rfl) rfl ?_
  refine o_store rfl rfl rfl frz0 ?_
  refine o_nil ?_
  refine f_seq ?_
  refine c_ret ?_
  exact f_retc rfl rfl rfl rfl rfl (by repeat (first | with_reducible exact Ent.nil | (apply Ent.one; focus (repeat (first | with_reducible exact Rem.here | apply Rem.there))))) ⟨rfl, rfl⟩
theorem free_k {a : Option Addr} {cap : Nat} {l : List FR} (hn : l.length ≤ 1000000) (hw : Wf a l.length cap) : FnK Tryz.prog 27 [.pointer (some ⟨p, 0, none⟩)] p (pobj rb x (.slice a l.length cap) cv m old lp lf lc) [RowA false freeC 2 a l]
    (fun v L => ∃ a' cap', Wf a' l.length cap' ∧ v = .slice a' l.length cap' ∧ L = [RowA false freeC 2 a' l, RowA false freeC 2 a l]) := by
  refine fnK_start Tryz.func27 rfl rfl rfl fun F hF => ?_
  refine c_seq ?_
  refine c_region ?_
  refine o_y (y_assign rfl) rfl ?_
  refine o_nil ?_
  refine f_seq ?_
  refine c_seq ?_
  refine c_region ?_
  refine o_y (y_move rfl) rfl ?_
  refine o_y (y_nilCheck rfl) rfl ?_
  refine o_y (y_fieldAddr0 rfl) rfl ?_
  refine o_y (y_load rfl rfl rfl) rfl ?_
  refine o_call rfl (clonef_f hn hw) (by repeat (first | with_reducible exact Takes.nil | (apply Takes.cons; focus (repeat (first | with_reducible exact Rem.here | apply Rem.there))))) rfl ?_
  rintro _ _ ⟨a', cap', hw', rfl, rfl⟩
  simp only [List.append_eq, List.cons_append, List.nil_append, List.append_nil, tup]
  refine o_y (y_assign rfl) rfl ?_
  refine o_nil ?_
  refine f_seq ?_
  refine c_ret ?_
  exact f_ret rfl ⟨a', cap', hw', rfl, rfl⟩
theorem chain_k {a : Option Addr} {cap : Nat} {l : List Int} (hn : l.length ≤ 1000000) (hw : Wf a l.length cap) : FnK Tryz.prog 29 [.pointer (some ⟨p, 0, none⟩)] p (pobj rb x fv (.slice a l.length cap) m old lp lf lc) [RowA false intC 1 a l]
    (fun v L => ∃ a' cap', Wf a' l.length cap' ∧ v = .slice a' l.length cap' ∧ L = [RowA false intC 1 a' l, RowA false intC 1 a l]) := by
  refine fnK_start Tryz.func29 rfl rfl rfl fun F hF => ?_
  refine c_seq ?_
  refine c_region ?_
  refine o_y (y_assign rfl) rfl ?_
  refine o_nil ?_
  refine f_seq ?_
  refine c_seq ?_
  refine c_region ?_
  refine o_y (y_move rfl) rfl ?_
  refine o_y (y_nilCheck rfl) rfl ?_
  refine o_y (y_fieldAddr0 rfl) rfl ?_
  refine o_y (y_load rfl rfl rfl) rfl ?_
  refine o_call rfl (clonei_f hn hw) (by repeat (first | with_reducible exact Takes.nil | (apply Takes.cons; focus (repeat (first | with_reducible exact Rem.here | apply Rem.there))))) rfl ?_
  rintro _ _ ⟨a', cap', hw', rfl, rfl⟩
  simp only [List.append_eq, List.cons_append, List.nil_append, List.append_nil, tup]
  refine o_y (y_assign rfl) rfl ?_
  refine o_nil ?_
  refine f_seq ?_
  refine c_ret ?_
  exact f_ret rfl ⟨a', cap', hw', rfl, rfl⟩
theorem pages_k {s : Nat} {n : Int} : FnK Tryz.prog 30 [.pointer (some ⟨rb, 0, none⟩)] rb (robj d s n) [] (fun v L => v = .int .i64 n ∧ L = []) := by
  refine fnK_start Tryz.func30 rfl rfl rfl fun F hF => ?_
  refine c_seq ?_
  refine c_region ?_
  refine o_y (y_assign rfl) rfl ?_
  refine o_nil ?_
  refine f_seq ?_
  refine c_seq ?_
  refine c_region ?_
  refine o_y (y_move rfl) rfl ?_
  refine o_y (y_nilCheck rfl) rfl ?_
  refine o_y (y_fieldAddr0 rfl) rfl ?_
  refine o_y (y_load rfl rfl rfl) rfl ?_
  refine o_y (y_assign rfl) rfl ?_
  refine o_nil ?_
  refine f_seq ?_
  refine c_ret ?_
  exact f_ret rfl ⟨rfl, rfl⟩
end

theorem star_dupP {i : Nat} {x : AP} {L : List Asrt} : ∀ {xs : List AP}, xs[i]? = some x → Ent (Star (xs.map fun x => KP x) :: L) (KP x :: Star (xs.map fun x => KP x) :: L) := by
  induction i with
  | zero =>
    intro ps h
    cases ps with
    | nil => cases h
    | cons q ps =>
      simp only [List.getElem?_cons_zero, Option.some.injEq] at h
      subst h
      rw [List.map_cons]
      exact ((Ent.star_cons.app (N := L)).trans RowA.dup).trans (Ent.cons (Ent.cons_star.app (N := L)))
  | succ i ih =>
    intro ps h
    cases ps with
    | nil => cases h
    | cons q ps =>
      rw [List.getElem?_cons_succ] at h
      rw [List.map_cons]
      refine ((Ent.star_cons.app (N := L)).trans (Ent.cons (ih h))).trans ?_
      refine (Ent.perm (List.Perm.swap _ _ _)).trans (Ent.cons ?_)
      exact Ent.cons_star.app (N := L)
/-- Acts that are arguments. -/
abbrev Acts (a : Option Addr) (xs : List AP) : List Asrt := [RowA false AP.cellsV 7 a xs, Star (xs.map fun x => KP x)]
theorem act_get {l : List AP} {cs : List Value} {off i : Nat} {s : AP} (h : getN cs off (l.length * 7) = some (l.flatMap AP.cellsV)) (hs : l[i]? = some s) : getN cs (off + i * 7) 7 = some s.cellsV :=
  getN_sub h (flat_get AP.cellsV 7 (fun _ => rfl) hs)
/-- The acts done that aren't too great. -/
def PS.acts (S : PS) (xs : List AP) : PS := xs.foldl (fun S x => if x.few = true then (S.act x).1 else S) S
theorem acts_snoc {S : PS} {xs : List AP} {i : Nat} {x : AP} (h : xs[i]? = some x) : S.acts (xs.take (i + 1)) = if x.few = true then ((S.acts (xs.take i)).act x).1 else S.acts (xs.take i) := by
  unfold PS.acts; rw [take_snoc' h, List.foldl_append]; rfl
theorem AFit.up {S : PS} {n m : Nat} (h : AFit S n) (hm : n ≤ m) : AFit S m := ⟨h.pf.up (by omega), h.cf, h.lf, by have := h.e; omega, h.old⟩
theorem acts_fit {S : PS} {n : Nat} (h : AFit S n) : ∀ (xs : List AP), n + xs.length ≤ 900000 → AFit (S.acts xs) (n + xs.length) := by
  have key : ∀ (xs : List AP) (S : PS) (n : Nat), AFit S n → n + xs.length ≤ 900000 → AFit (S.acts xs) (n + xs.length) := fun xs => by
    induction xs with
    | nil => intro S n h _; exact h
    | cons x xs ih =>
      intro S n h hl
      rw [List.length_cons] at hl ⊢
      have := ih (if x.few = true then (S.act x).1 else S) (n + 1) (by split; exact h.act (by omega) x; exact h.up (by omega)) (by omega)
      rw [show n + (xs.length + 1) = n + 1 + xs.length by omega]
      exact this
  exact fun xs hl => key xs S n h hl
end Go.Lun

/- PagerAborts, walked. -/
namespace Go.Lun
open Go.Proofs

theorem y_eql_ints_t {P : Program} {n : Nat} {ds : List Deferred} {F : Fr} {L : List Asrt} {env : Env} {dt : Option Tmp} {ty : TypeId} {pos : String} {af : Array Edge} {g : Option (Nat × Bool)} {xt yt : TypeId} {x y : Operand} {k : Nat} [hI : IntS P xt k] {vs us : List Value} (ps qs : List Int) (hx : ev env x = some (.agg ⟨vs⟩)) (hy : ev env y = some (.agg ⟨us⟩)) (hv : vs = ps.map fun a => .int .i64 a) (hu : us = qs.map fun a => .int .i64 a) (h1 : Nat.beq ps.length k = true) (h2 : Nat.beq qs.length k = true) (h : ps = qs) :
    Yld P n ds F L env ⟨dt, .binOp .eql xt x y yt, ty, pos, af, g⟩ (.bool true) := by
  have := y_eql_ints (P := P) (n := n) (ds := ds) (F := F) (L := L) (env := env) (dt := dt) (ty := ty) (pos := pos) (af := af) (g := g) (xt := xt) (yt := yt) ps qs hx hy hv hu h1 h2
  rwa [decide_eq_true h] at this
theorem act_same {S : PS} {x : AP} (h : x.kind ≠ 3) : SameL S (S.act x).1 := by
  unfold PS.act
  split
  · exact (same_new ..).l
  · split
    · exact (same_change ..).l
    · split
      · exact (same_drop ..).l
      · split
        · exact ⟨rfl, rfl, rfl, rfl⟩
        · split
          · exact ⟨rfl, rfl, rfl, rfl⟩
          · exact .refl S
/-- The acts done that aren't too great, and tell nothing. -/
def PS.acts3 (S : PS) (xs : List AP) : PS := xs.foldl (fun S x => if x.few = true ∧ x.kind ≠ 3 then (S.act x).1 else S) S
theorem acts3_snoc {S : PS} {xs : List AP} {i : Nat} {x : AP} (h : xs[i]? = some x) : S.acts3 (xs.take (i + 1)) = if x.few = true ∧ x.kind ≠ 3 then ((S.acts3 (xs.take i)).act x).1 else S.acts3 (xs.take i) := by
  unfold PS.acts3; rw [take_snoc' h, List.foldl_append]; rfl
theorem acts3_same (S : PS) : ∀ (xs : List AP), SameL S (S.acts3 xs) := by
  have key : ∀ (xs : List AP) (S : PS), SameL S (S.acts3 xs) := fun xs => by
    induction xs with
    | nil => intro S; exact .refl S
    | cons x xs ih =>
      intro S
      refine SameL.trans ?_ (ih _)
      dsimp only
      split
      · rename_i h; exact act_same h.2
      · exact .refl S
  exact fun xs => key xs S

set_option maxHeartbeats 25600000 in
theorem aborts_f (a0 a1 : Option Addr) (c0 c1 : Nat) (xs ys : List AP) :
    Fn Tryz.prog 5 [.slice a0 xs.length c0, .slice a1 ys.length c1] (Acts a0 xs ++ Acts a1 ys) (fun v L => v = .bool true ∧ L = []) := by
  refine fn_start Tryz.func5 rfl rfl rfl fun F => ?_
  have f0 := fresh_fit 100 (by decide)
  simp only [List.append_eq, List.cons_append, List.nil_append, List.append_nil, tup]
  refine c_seq ?_
  refine c_region ?_
  refine o_y (y_assign rfl) rfl ?_
  refine o_nil ?_
  refine f_seq ?_
  refine c_seq ?_
  refine c_region ?_
  refine o_call rfl (fresh8_f 100 (by decide)) (by repeat (first | with_reducible exact Takes.nil | (apply Takes.cons; focus (repeat (first | with_reducible exact Rem.here | apply Rem.there))))) rfl ?_
  generalize PS.begin 100 = S0 at *
  rintro _ _ ⟨p, d, rfl, rfl⟩
  simp only [List.append_eq, List.cons_append, List.nil_append, List.append_nil, tup]
  refine o_y (y_move rfl) rfl ?_
  refine o_y (y_extract rfl rfl) rfl ?_
  refine o_y (y_extract rfl rfl) rfl ?_
  refine o_y (y_assign rfl) rfl ?_
  refine o_y (y_assign rfl) rfl ?_
  refine o_nil ?_
  refine f_seq ?_
  refine c_seq ?_
  refine c_seq ?_
  refine c_region ?_
  refine o_call rfl awake8_f (by repeat (first | with_reducible exact Takes.nil | (apply Takes.cons; focus (repeat (first | with_reducible exact Rem.here | apply Rem.there))))) rfl ?_
  rintro _ _ ⟨rfl, rfl⟩
  simp only [List.append_eq, List.cons_append, List.nil_append, List.append_nil, tup]
  refine o_y (y_not rfl) rfl ?_
  refine o_y (y_move rfl) rfl ?_
  refine o_want rfl ?_
  refine o_y (y_move rfl) rfl ?_
  refine o_want rfl ?_
  refine o_y (y_eql_nil rfl rfl) rfl ?_
  refine o_y (y_pick_f rfl rfl) rfl ?_
  refine o_y (y_move rfl) rfl ?_
  refine o_want rfl ?_
  refine o_y (y_move rfl) rfl ?_
  refine o_want rfl ?_
  refine o_y (y_eql_nil rfl rfl) rfl ?_
  refine o_y (y_pick_f rfl rfl) rfl ?_
  refine o_nil ?_
  refine f_seq ?_
  refine c_false rfl ?_
  refine c_skip ?_
  refine f_seq ?_
  refine c_seq ?_
  refine c_seq ?_
  refine c_region ?_
  refine o_y (y_assign rfl) rfl ?_
  refine o_nil ?_
  refine f_seq ?_
  refine c_block ?_
  refine c_loop_inv (X := Nat) (fun i => i ≤ xs.length ∧ i ≤ 25) (fun i => 25 - i)
    (fun i => [PRep p d (S0.acts (xs.take i)), RowA false AP.cellsV 7 a0 xs, Star (xs.map fun x => KP x), RowA false AP.cellsV 7 a1 ys, Star (ys.map fun x => KP x)])
    (fun i => [(0, .slice a0 xs.length c0), (1, .slice a1 ys.length c1), (5, .pointer (some ⟨p, 0, none⟩)), (7, .int .i64 (i : Int))]) 0 ⟨Nat.zero_le _, by decide⟩ (by rw [List.take_zero, show S0.acts [] = S0 from rfl]; repeat (first | with_reducible exact Ent.nil | (apply Ent.one; focus (repeat (first | with_reducible exact Rem.here | apply Rem.there))))) (by repeat (first | exact trivial | refine ⟨rfl, ?_⟩)) ?_
  rintro i ⟨hi, hi2⟩ ih
  have hS : AFit (S0.acts (xs.take i)) (5 + i) := by
    have := acts_fit f0 (xs.take i) (by rw [List.length_take]; omega)
    rwa [List.length_take, Nat.min_eq_left hi] at this
  refine c_seq ?_
  refine c_seq ?_
  refine c_cut (X := Unit) (fun _ => [PRep p d (S0.acts (xs.take i)), RowA false AP.cellsV 7 a0 xs, Star (xs.map fun x => KP x), RowA false AP.cellsV 7 a1 ys, Star (ys.map fun x => KP x)])
    (fun _ => [(0, .slice a0 xs.length c0), (1, .slice a1 ys.length c1), (5, .pointer (some ⟨p, 0, none⟩)), (7, .int .i64 (i : Int)), (34, .bool (decide (i < xs.length ∧ i < 25)))]) ?_ ?_
  · by_cases g1 : i < xs.length
    · by_cases g2 : i < 25
      · rw [decide_eq_true ⟨g1, g2⟩]
        refine c_region ?_
        refine o_y (y_move rfl) rfl ?_
        refine o_y (y_move rfl) rfl ?_
        refine o_y (y_len_slice rfl) rfl ?_
        refine o_y (y_lss_t rfl rfl (by omega)) rfl ?_
        refine o_y (y_move rfl) rfl ?_
        refine o_want rfl ?_
        refine o_y (y_move rfl) rfl ?_
        refine o_want rfl ?_
        refine o_y (y_lss_t rfl rfl (by omega)) rfl ?_
        refine o_y (y_pick_t rfl rfl) rfl ?_
        refine o_nil ?_
        exact f_cut () (by repeat (first | with_reducible exact Ent.nil | (apply Ent.one; focus (repeat (first | with_reducible exact Rem.here | apply Rem.there))))) (by repeat (first | exact trivial | refine ⟨rfl, ?_⟩))
      · rw [decide_eq_false (fun h => g2 h.2)]
        refine c_region ?_
        refine o_y (y_move rfl) rfl ?_
        refine o_y (y_move rfl) rfl ?_
        refine o_y (y_len_slice rfl) rfl ?_
        refine o_y (y_lss_t rfl rfl (by omega)) rfl ?_
        refine o_y (y_move rfl) rfl ?_
        refine o_want rfl ?_
        refine o_y (y_move rfl) rfl ?_
        refine o_want rfl ?_
        refine o_y (y_lss_f rfl rfl (by omega)) rfl ?_
        refine o_y (y_pick_t rfl rfl) rfl ?_
        refine o_nil ?_
        exact f_cut () (by repeat (first | with_reducible exact Ent.nil | (apply Ent.one; focus (repeat (first | with_reducible exact Rem.here | apply Rem.there))))) (by repeat (first | exact trivial | refine ⟨rfl, ?_⟩))
    · rw [decide_eq_false (fun h => g1 h.1)]
      refine c_region ?_
      refine o_y (y_move rfl) rfl ?_
      refine o_y (y_move rfl) rfl ?_
      refine o_y (y_len_slice rfl) rfl ?_
      refine o_y (y_lss_f rfl rfl (by omega)) rfl ?_
      refine o_y (y_move rfl) rfl ?_
      refine o_skip rfl rfl ?_
      refine o_skip rfl rfl ?_
      refine o_y (y_pick_f rfl rfl) rfl ?_
      refine o_nil ?_
      exact f_cut () (by repeat (first | with_reducible exact Ent.nil | (apply Ent.one; focus (repeat (first | with_reducible exact Rem.here | apply Rem.there))))) (by repeat (first | exact trivial | refine ⟨rfl, ?_⟩))
  intro _
  by_cases hgo : i < xs.length ∧ i < 25
  case pos =>
    rw [decide_eq_true hgo]
    obtain ⟨hlt, hlt2⟩ := hgo
    obtain ⟨x, hx⟩ : ∃ c, xs[i]? = some c := ⟨_, List.getElem?_eq_getElem hlt⟩
    have hne : xs ≠ [] := by intro h; rw [h] at hlt; exact absurd hlt (by simp)
    have hsn := acts_snoc (S := S0) hx
    generalize S0.acts (xs.take i) = S at *
    refine c_open (A := RowA false AP.cellsV 7 a0 xs) (h := RowA.opens (f := AP.cellsV) hne) (by repeat (first | with_reducible exact Rem.here | apply Rem.there)) (fun y hy2 => ?_)
    obtain ⟨kb, ko, cs, T, fz⟩ := y
    obtain ⟨e1, e2⟩ := hy2
    dsimp only at e1 e2
    subst e1
    have hgt := act_get e2 hx
    simp only [List.append_eq, List.cons_append, List.nil_append, List.append_nil, tup]
    have hback : ∀ {T2 : PS} {M : List Asrt}, Ent (KP x :: Star (xs.map fun x => KP x) :: PRep p d T2 :: Bkp false kb (.cells ⟨cs⟩ T fz) :: RowA false AP.cellsV 7 a1 ys :: Star (ys.map fun x => KP x) :: M) [PRep p d T2, RowA false AP.cellsV 7 (some ⟨kb, ko, none⟩) xs, Star (xs.map fun x => KP x), RowA false AP.cellsV 7 a1 ys, Star (ys.map fun x => KP x)] := fun {T2 M} =>
      Ent.one (.there (.there .here)) (Ent.put (P := [Bkp false kb (.cells ⟨cs⟩ T fz)]) (Takes.cons (.there (.there .here)) Takes.nil) (RowA.shut rfl e2) (Ent.one (.there .here) (Ent.one (.there .here) (Ent.one (.there .here) Ent.nil))))
    refine c_ent (Ent.trans (M := Star (xs.map fun x => KP x) :: PRep p d S :: Bkp false kb (.cells ⟨cs⟩ T fz) :: RowA false AP.cellsV 7 a1 ys :: [Star (ys.map fun x => KP x)]) (by repeat (first | with_reducible exact Ent.nil | (apply Ent.one; focus (repeat (first | with_reducible exact Rem.here | apply Rem.there))))) (star_dupP hx)) ?_
    refine c_true rfl ?_
    refine c_skip ?_
    refine f_seq ?_
    refine c_seq ?_
    refine c_block ?_
    refine c_seq ?_
    refine c_region ?_
    refine o_y (y_move rfl) rfl ?_
    refine o_y (y_move rfl) rfl ?_
    refine o_y (y_indexAddr i rfl rfl rfl hlt) rfl ?_
    refine o_y (y_loadN rfl rfl hgt) rfl ?_
    refine o_call rfl (few8_f x) (by repeat (first | with_reducible exact Takes.nil | (apply Takes.cons; focus (repeat (first | with_reducible exact Rem.here | apply Rem.there))))) rfl ?_
    rintro _ _ ⟨rfl, rfl⟩
    simp only [List.append_eq, List.cons_append, List.nil_append, List.append_nil, tup]
    cases hfew : x.few with
    | false =>
      rw [if_neg (by rw [hfew]; decide)] at hsn
      refine o_nil ?_
      refine f_seq ?_
      refine c_false rfl ?_
      refine c_skip ?_
      refine f_block ?_
      refine f_seq ?_
      refine c_region ?_
      refine o_y (y_move rfl) rfl ?_
      refine o_y (y_arith64 rfl rfl rfl (by omega)) rfl ?_
      refine o_y (y_assign rfl) rfl ?_
      refine o_nil ?_
      refine f_next (Ent.trans (M := KP x :: Star (xs.map fun x => KP x) :: PRep p d S :: Bkp false kb (.cells ⟨cs⟩ T fz) :: RowA false AP.cellsV 7 a1 ys :: [Star (ys.map fun x => KP x)]) (by repeat (first | with_reducible exact Ent.nil | (apply Ent.one; focus (repeat (first | with_reducible exact Rem.here | apply Rem.there))))) ?_) (by repeat (first | exact trivial | refine ⟨rfl, ?_⟩)) (ih (i + 1) ⟨hlt, hlt2⟩ (by omega))
      rw [hsn]; exact hback
    | true =>
      rw [if_pos hfew] at hsn
      refine o_nil ?_
      refine f_seq ?_
      refine c_true rfl ?_
      refine c_region ?_
      refine o_y (y_move rfl) rfl ?_
      refine o_y (y_move rfl) rfl ?_
      refine o_y (y_move rfl) rfl ?_
      refine o_y (y_indexAddr i rfl rfl rfl hlt) rfl ?_
      refine o_y (y_loadN rfl rfl hgt) rfl ?_
      refine o_call rfl (do8_f S (5 + i) x hfew hS (by omega)) (by repeat (first | with_reducible exact Takes.nil | (apply Takes.cons; focus (repeat (first | with_reducible exact Rem.here | apply Rem.there))))) rfl ?_
      rintro _ _ ⟨rfl, rfl⟩
      simp only [List.append_eq, List.cons_append, List.nil_append, List.append_nil, tup]
      refine o_nil ?_
      refine f_block ?_
      refine f_seq ?_
      refine c_region ?_
      refine o_y (y_move rfl) rfl ?_
      refine o_y (y_arith64 rfl rfl rfl (by omega)) rfl ?_
      refine o_y (y_assign rfl) rfl ?_
      refine o_nil ?_
      refine f_next (Ent.trans (M := KP x :: Star (xs.map fun x => KP x) :: PRep p d (S.act x).1 :: Bkp false kb (.cells ⟨cs⟩ T fz) :: RowA false AP.cellsV 7 a1 ys :: [Star (ys.map fun x => KP x)]) (by repeat (first | with_reducible exact Ent.nil | (apply Ent.one; focus (repeat (first | with_reducible exact Rem.here | apply Rem.there))))) ?_) (by repeat (first | exact trivial | refine ⟨rfl, ?_⟩)) (ih (i + 1) ⟨hlt, hlt2⟩ (by omega))
      rw [hsn]; exact hback
  case neg =>
  clear ih
  rw [decide_eq_false hgo]
  generalize S0.acts (xs.take i) = S at *
  have hfl := hS.lf.flen hS.pf
  have hcl := hS.lf.len
  refine c_ent (M := [PRep p d S, RowA false AP.cellsV 7 a1 ys, Star (ys.map fun x => KP x)]) (by repeat (first | with_reducible exact Ent.nil | (apply Ent.one; focus (repeat (first | with_reducible exact Rem.here | apply Rem.there))))) ?_
  refine c_false rfl ?_
  refine c_exit ?_
  refine f_seq_exit ?_
  refine f_seq_exit ?_
  refine f_block_here ?_
  refine f_seq ?_
  refine c_seq ?_
  refine c_region ?_
  refine o_y (y_move rfl) rfl ?_
  refine o_call rfl (abort_p S (by omega) (by omega)) (by repeat (first | with_reducible exact Takes.nil | (apply Takes.cons; focus (repeat (first | with_reducible exact Rem.here | apply Rem.there))))) rfl ?_
  rintro _ _ ⟨rfl, rfl⟩
  simp only [List.append_eq, List.cons_append, List.nil_append, List.append_nil, tup]
  refine o_nil ?_
  refine f_seq ?_
  refine c_seq ?_
  have hS1 : AFit S.abort (6 + i) := by
    obtain ⟨q1, q2, q3⟩ := hS.pf.abort hS.lf
    exact ⟨q1.up (by omega), q2, q3, by show S.x.e ≤ _; have := hS.e; omega, hS.old⟩
  have hx1 : S.abort.x = S.x ∧ S.abort.pages = S.abort.lpages ∧ S.abort.free = S.abort.lfree ∧ S.abort.chain = S.abort.lchain := ⟨rfl, rfl, rfl, rfl⟩
  generalize S.abort = T at *
  have hTl := hS1.pf.len
  have hTc := hS1.cf.len
  refine c_cut (X := Nat × (Option Addr × Nat) × (Option Addr × Nat)) (fun y => [PRep p d T, Blk y.1 (superO T.x), RowA false freeC 2 y.2.1.1 T.free, RowA false intC 1 y.2.2.1 T.chain, RowA false AP.cellsV 7 a1 ys, Star (ys.map fun x => KP x)])
    (fun y => [(1, .slice a1 ys.length c1), (5, .pointer (some ⟨p, 0, none⟩)), (8, .pointer (some ⟨y.1, 0, none⟩)), (9, .int .i64 T.pages), (10, .slice y.2.1.1 T.free.length y.2.1.2), (11, .slice y.2.2.1 T.chain.length y.2.2.2)]) ?_ ?_
  · refine c_open (A := PRep p d T) (by repeat (first | with_reducible exact Rem.here | apply Rem.there)) (fun z hz => ?_)
    obtain ⟨h1, h2, h3⟩ := hz
    obtain ⟨ca, cc, lfa, lfc, la, lc⟩ := z
    dsimp only at h1 h2 h3
    try dsimp only [PZ.frs]
    simp only [List.append_eq, List.cons_append, List.nil_append, List.append_nil, tup]
    refine c_open (A := PCo p d _ _ _ T) (by repeat (first | with_reducible exact Rem.here | apply Rem.there)) (fun y hy => ?_)
    obtain ⟨rb, s, fa, fc, m, es, ck⟩ := y
    obtain ⟨hwf, him⟩ := hy
    dsimp only at hwf him
    try dsimp only [PY.frs]
    simp only [List.append_eq, List.cons_append, List.nil_append, List.append_nil, tup]
    refine pl_start [1, 6, 8, 10, 11, 12] Tryz.mixed ?_; intro hd
    refine pl_lock (A := Blk _ _) Rem.here rfl ?_ hd; intro hb0
    refine pl_lock (A := Blk _ _) Rem.here rfl ?_ hd; intro hb1
    refine pl_take (i := 0) rfl (by kernel_rfl) (y_move rfl) ?_ hd; clear hd; intro hd
    refine pl_take (i := 2) rfl (by kernel_rfl) (y_move rfl) ?_ hd; clear hd; intro hd
    refine pl_take (i := 3) rfl (by kernel_rfl) (y_nilCheck rfl) ?_ hd; clear hd; intro hd
    refine pl_take (i := 4) rfl (by kernel_rfl) (y_fieldAddr0 rfl) ?_ hd; clear hd; intro hd
    refine pl_take (i := 5) rfl (by kernel_rfl) (y_load rfl rfl rfl) ?_ hd; clear hd; intro hd
    refine pl_take (i := 7) rfl (by kernel_rfl) (y_move rfl) ?_ hd; clear hd; intro hd
    refine pl_take (i := 9) rfl (by kernel_rfl) (y_move rfl) ?_ hd; clear hd; intro hd
    refine pl_two (i := 1) (j := 11) (by kernel_rfl) rfl rfl ?_ ?_ hd
    · clear hd; intro hd
      refine o_callK (b := p) rfl super_k (by repeat (first | with_reducible exact Takes.nil | (apply Takes.cons; focus (repeat (first | with_reducible exact Rem.here | apply Rem.there))))) rfl ?_
      rintro _ _ ⟨rfl, rfl⟩
      simp only [List.append_eq, List.cons_append, List.nil_append, List.append_nil, tup]
      refine pl_back (by repeat (first | with_reducible exact Owes.nil | with_reducible refine Owes.same ?_ | with_reducible refine Owes.any ?_ | refine Owes.waived 1 (by kernel_rfl) ?_)) ?_ hd; clear hd; intro hd
      refine pl_two (i := 6) (j := 11) (by kernel_rfl) rfl rfl ?_ ?_ hd
      · clear hd; intro hd
        refine o_callK (b := rb) rfl pages_k (by repeat (first | with_reducible exact Takes.nil | (apply Takes.cons; focus (repeat (first | with_reducible exact Rem.here | apply Rem.there))))) rfl ?_
        rintro _ _ ⟨rfl, rfl⟩
        simp only [List.append_eq, List.cons_append, List.nil_append, List.append_nil, tup]
        refine pl_back (by repeat (first | with_reducible exact Owes.nil | with_reducible refine Owes.same ?_ | with_reducible refine Owes.any ?_ | refine Owes.waived 6 (by kernel_rfl) ?_ | refine Owes.waived 1 (by kernel_rfl) ?_)) ?_ hd; clear hd; intro hd
        refine pl_two (i := 8) (j := 11) (by kernel_rfl) rfl rfl ?_ ?_ hd
        · clear hd; intro hd
          refine o_callK (b := p) rfl (free_k (by omega) hwf) (by repeat (first | with_reducible exact Takes.nil | (apply Takes.cons; focus (repeat (first | with_reducible exact Rem.here | apply Rem.there))))) rfl ?_
          rintro _ _ ⟨a', ac', hw', rfl, rfl⟩
          simp only [List.append_eq, List.cons_append, List.nil_append, List.append_nil, tup]
          refine pl_back (by repeat (first | with_reducible exact Owes.nil | with_reducible refine Owes.same ?_ | with_reducible refine Owes.any ?_ | refine Owes.waived 8 (by kernel_rfl) ?_ | refine Owes.waived 6 (by kernel_rfl) ?_ | refine Owes.waived 1 (by kernel_rfl) ?_)) ?_ hd; clear hd; intro hd
          refine pl_two (i := 10) (j := 11) (by kernel_rfl) rfl rfl ?_ ?_ hd
          · clear hd; intro hd
            refine o_callK (b := p) rfl (chain_k (by omega) h1) (by repeat (first | with_reducible exact Takes.nil | (apply Takes.cons; focus (repeat (first | with_reducible exact Rem.here | apply Rem.there))))) rfl ?_
            rintro _ _ ⟨b', bc', hw2', rfl, rfl⟩
            simp only [List.append_eq, List.cons_append, List.nil_append, List.append_nil, tup]
            refine pl_back (by repeat (first | with_reducible exact Owes.nil | with_reducible refine Owes.same ?_ | with_reducible refine Owes.any ?_ | refine Owes.waived 10 (by kernel_rfl) ?_ | refine Owes.waived 8 (by kernel_rfl) ?_ | refine Owes.waived 6 (by kernel_rfl) ?_ | refine Owes.waived 1 (by kernel_rfl) ?_)) ?_ hd; clear hd; intro hd
            refine pl_sole (i := 11) (by kernel_rfl) rfl ?_ hd; clear hd; intro hd
            refine o_alloc rfl (fun xb => ?_)
            refine pl_back (by repeat (first | with_reducible exact Owes.nil | with_reducible refine Owes.same ?_ | with_reducible refine Owes.any ?_ | refine Owes.waived 11 (by kernel_rfl) ?_ | refine Owes.waived 10 (by kernel_rfl) ?_ | refine Owes.waived 8 (by kernel_rfl) ?_ | refine Owes.waived 6 (by kernel_rfl) ?_ | refine Owes.waived 1 (by kernel_rfl) ?_)) ?_ hd; clear hd; intro hd
            refine pl_sole (i := 12) (by kernel_rfl) rfl ?_ hd; clear hd; intro hd
            refine o_store rfl rfl rfl frz0 ?_
            refine pl_back (by repeat (first | with_reducible exact Owes.nil | with_reducible refine Owes.same ?_ | with_reducible refine Owes.any ?_ | refine Owes.waived 12 (by kernel_rfl) ?_ | refine Owes.waived 11 (by kernel_rfl) ?_ | refine Owes.waived 10 (by kernel_rfl) ?_ | refine Owes.waived 8 (by kernel_rfl) ?_ | refine Owes.waived 6 (by kernel_rfl) ?_ | refine Owes.waived 1 (by kernel_rfl) ?_)) ?_ hd; clear hd; intro hd
            refine pl_take (i := 13) rfl (by kernel_rfl) (y_assign rfl) ?_ hd; clear hd; intro hd
            refine pl_take (i := 14) rfl (by kernel_rfl) (y_assign rfl) ?_ hd; clear hd; intro hd
            refine pl_take (i := 15) rfl (by kernel_rfl) (y_assign rfl) ?_ hd; clear hd; intro hd
            refine pl_done (by kernel_rfl) ?_ hd
            refine f_unlock (A := Blk _ _) ?_
            refine f_unlock (A := Blk _ _) ?_
            refine f_cut (xb, (a', ac'), (b', bc')) ?_ (by repeat (first | exact trivial | refine ⟨rfl, ?_⟩))
            refine (Ent.put (by repeat (first | with_reducible exact Takes.nil | (apply Takes.cons; focus (repeat (first | with_reducible exact Rem.here | apply Rem.there))))) (PCo.mk T (by exact ⟨rfl, rfl, rfl, rfl, rfl, rfl, rfl⟩) hwf him) (Ent.refl _)).trans ?_
            exact Ent.put (by repeat (first | with_reducible exact Takes.nil | (apply Takes.cons; focus (repeat (first | with_reducible exact Rem.here | apply Rem.there))))) (PRep.mk T (by exact ⟨rfl, rfl, rfl, rfl, rfl, rfl, rfl⟩) h1 h2 h3) (by repeat (first | with_reducible exact Ent.nil | (apply Ent.one; focus (repeat (first | with_reducible exact Rem.here | apply Rem.there)))))
          · clear hd; intro hd
            refine o_alloc rfl (fun xb => ?_)
            refine pl_back (by repeat (first | with_reducible exact Owes.nil | with_reducible refine Owes.same ?_ | with_reducible refine Owes.any ?_ | refine Owes.waived 11 (by kernel_rfl) ?_ | refine Owes.waived 8 (by kernel_rfl) ?_ | refine Owes.waived 6 (by kernel_rfl) ?_ | refine Owes.waived 1 (by kernel_rfl) ?_)) ?_ hd; clear hd; intro hd
            refine pl_sole (i := 10) (by kernel_rfl) rfl ?_ hd; clear hd; intro hd
            refine o_callK (b := p) rfl (chain_k (by omega) h1) (by repeat (first | with_reducible exact Takes.nil | (apply Takes.cons; focus (repeat (first | with_reducible exact Rem.here | apply Rem.there))))) rfl ?_
            rintro _ _ ⟨b', bc', hw2', rfl, rfl⟩
            simp only [List.append_eq, List.cons_append, List.nil_append, List.append_nil, tup]
            refine pl_back (by repeat (first | with_reducible exact Owes.nil | with_reducible refine Owes.same ?_ | with_reducible refine Owes.any ?_ | refine Owes.waived 10 (by kernel_rfl) ?_ | refine Owes.waived 11 (by kernel_rfl) ?_ | refine Owes.waived 8 (by kernel_rfl) ?_ | refine Owes.waived 6 (by kernel_rfl) ?_ | refine Owes.waived 1 (by kernel_rfl) ?_)) ?_ hd; clear hd; intro hd
            refine pl_sole (i := 12) (by kernel_rfl) rfl ?_ hd; clear hd; intro hd
            refine o_store rfl rfl rfl frz0 ?_
            refine pl_back (by repeat (first | with_reducible exact Owes.nil | with_reducible refine Owes.same ?_ | with_reducible refine Owes.any ?_ | refine Owes.waived 12 (by kernel_rfl) ?_ | refine Owes.waived 10 (by kernel_rfl) ?_ | refine Owes.waived 11 (by kernel_rfl) ?_ | refine Owes.waived 8 (by kernel_rfl) ?_ | refine Owes.waived 6 (by kernel_rfl) ?_ | refine Owes.waived 1 (by kernel_rfl) ?_)) ?_ hd; clear hd; intro hd
            refine pl_take (i := 13) rfl (by kernel_rfl) (y_assign rfl) ?_ hd; clear hd; intro hd
            refine pl_take (i := 14) rfl (by kernel_rfl) (y_assign rfl) ?_ hd; clear hd; intro hd
            refine pl_take (i := 15) rfl (by kernel_rfl) (y_assign rfl) ?_ hd; clear hd; intro hd
            refine pl_done (by kernel_rfl) ?_ hd
            refine f_unlock (A := Blk _ _) ?_
            refine f_unlock (A := Blk _ _) ?_
            refine f_cut (xb, (a', ac'), (b', bc')) ?_ (by repeat (first | exact trivial | refine ⟨rfl, ?_⟩))
            refine (Ent.put (by repeat (first | with_reducible exact Takes.nil | (apply Takes.cons; focus (repeat (first | with_reducible exact Rem.here | apply Rem.there))))) (PCo.mk T (by exact ⟨rfl, rfl, rfl, rfl, rfl, rfl, rfl⟩) hwf him) (Ent.refl _)).trans ?_
            exact Ent.put (by repeat (first | with_reducible exact Takes.nil | (apply Takes.cons; focus (repeat (first | with_reducible exact Rem.here | apply Rem.there))))) (PRep.mk T (by exact ⟨rfl, rfl, rfl, rfl, rfl, rfl, rfl⟩) h1 h2 h3) (by repeat (first | with_reducible exact Ent.nil | (apply Ent.one; focus (repeat (first | with_reducible exact Rem.here | apply Rem.there)))))
        · clear hd; intro hd
          refine o_alloc rfl (fun xb => ?_)
          refine pl_back (by repeat (first | with_reducible exact Owes.nil | with_reducible refine Owes.same ?_ | with_reducible refine Owes.any ?_ | refine Owes.waived 11 (by kernel_rfl) ?_ | refine Owes.waived 6 (by kernel_rfl) ?_ | refine Owes.waived 1 (by kernel_rfl) ?_)) ?_ hd; clear hd; intro hd
          refine pl_sole (i := 8) (by kernel_rfl) rfl ?_ hd; clear hd; intro hd
          refine o_callK (b := p) rfl (free_k (by omega) hwf) (by repeat (first | with_reducible exact Takes.nil | (apply Takes.cons; focus (repeat (first | with_reducible exact Rem.here | apply Rem.there))))) rfl ?_
          rintro _ _ ⟨a', ac', hw', rfl, rfl⟩
          simp only [List.append_eq, List.cons_append, List.nil_append, List.append_nil, tup]
          refine pl_back (by repeat (first | with_reducible exact Owes.nil | with_reducible refine Owes.same ?_ | with_reducible refine Owes.any ?_ | refine Owes.waived 8 (by kernel_rfl) ?_ | refine Owes.waived 11 (by kernel_rfl) ?_ | refine Owes.waived 6 (by kernel_rfl) ?_ | refine Owes.waived 1 (by kernel_rfl) ?_)) ?_ hd; clear hd; intro hd
          refine pl_sole (i := 10) (by kernel_rfl) rfl ?_ hd; clear hd; intro hd
          refine o_callK (b := p) rfl (chain_k (by omega) h1) (by repeat (first | with_reducible exact Takes.nil | (apply Takes.cons; focus (repeat (first | with_reducible exact Rem.here | apply Rem.there))))) rfl ?_
          rintro _ _ ⟨b', bc', hw2', rfl, rfl⟩
          simp only [List.append_eq, List.cons_append, List.nil_append, List.append_nil, tup]
          refine pl_back (by repeat (first | with_reducible exact Owes.nil | with_reducible refine Owes.same ?_ | with_reducible refine Owes.any ?_ | refine Owes.waived 10 (by kernel_rfl) ?_ | refine Owes.waived 8 (by kernel_rfl) ?_ | refine Owes.waived 11 (by kernel_rfl) ?_ | refine Owes.waived 6 (by kernel_rfl) ?_ | refine Owes.waived 1 (by kernel_rfl) ?_)) ?_ hd; clear hd; intro hd
          refine pl_sole (i := 12) (by kernel_rfl) rfl ?_ hd; clear hd; intro hd
          refine o_store rfl rfl rfl frz0 ?_
          refine pl_back (by repeat (first | with_reducible exact Owes.nil | with_reducible refine Owes.same ?_ | with_reducible refine Owes.any ?_ | refine Owes.waived 12 (by kernel_rfl) ?_ | refine Owes.waived 10 (by kernel_rfl) ?_ | refine Owes.waived 8 (by kernel_rfl) ?_ | refine Owes.waived 11 (by kernel_rfl) ?_ | refine Owes.waived 6 (by kernel_rfl) ?_ | refine Owes.waived 1 (by kernel_rfl) ?_)) ?_ hd; clear hd; intro hd
          refine pl_take (i := 13) rfl (by kernel_rfl) (y_assign rfl) ?_ hd; clear hd; intro hd
          refine pl_take (i := 14) rfl (by kernel_rfl) (y_assign rfl) ?_ hd; clear hd; intro hd
          refine pl_take (i := 15) rfl (by kernel_rfl) (y_assign rfl) ?_ hd; clear hd; intro hd
          refine pl_done (by kernel_rfl) ?_ hd
          refine f_unlock (A := Blk _ _) ?_
          refine f_unlock (A := Blk _ _) ?_
          refine f_cut (xb, (a', ac'), (b', bc')) ?_ (by repeat (first | exact trivial | refine ⟨rfl, ?_⟩))
          refine (Ent.put (by repeat (first | with_reducible exact Takes.nil | (apply Takes.cons; focus (repeat (first | with_reducible exact Rem.here | apply Rem.there))))) (PCo.mk T (by exact ⟨rfl, rfl, rfl, rfl, rfl, rfl, rfl⟩) hwf him) (Ent.refl _)).trans ?_
          exact Ent.put (by repeat (first | with_reducible exact Takes.nil | (apply Takes.cons; focus (repeat (first | with_reducible exact Rem.here | apply Rem.there))))) (PRep.mk T (by exact ⟨rfl, rfl, rfl, rfl, rfl, rfl, rfl⟩) h1 h2 h3) (by repeat (first | with_reducible exact Ent.nil | (apply Ent.one; focus (repeat (first | with_reducible exact Rem.here | apply Rem.there)))))
      · clear hd; intro hd
        refine o_alloc rfl (fun xb => ?_)
        refine pl_back (by repeat (first | with_reducible exact Owes.nil | with_reducible refine Owes.same ?_ | with_reducible refine Owes.any ?_ | refine Owes.waived 11 (by kernel_rfl) ?_ | refine Owes.waived 1 (by kernel_rfl) ?_)) ?_ hd; clear hd; intro hd
        refine pl_sole (i := 6) (by kernel_rfl) rfl ?_ hd; clear hd; intro hd
        refine o_callK (b := rb) rfl pages_k (by repeat (first | with_reducible exact Takes.nil | (apply Takes.cons; focus (repeat (first | with_reducible exact Rem.here | apply Rem.there))))) rfl ?_
        rintro _ _ ⟨rfl, rfl⟩
        simp only [List.append_eq, List.cons_append, List.nil_append, List.append_nil, tup]
        refine pl_back (by repeat (first | with_reducible exact Owes.nil | with_reducible refine Owes.same ?_ | with_reducible refine Owes.any ?_ | refine Owes.waived 6 (by kernel_rfl) ?_ | refine Owes.waived 11 (by kernel_rfl) ?_ | refine Owes.waived 1 (by kernel_rfl) ?_)) ?_ hd; clear hd; intro hd
        refine pl_sole (i := 8) (by kernel_rfl) rfl ?_ hd; clear hd; intro hd
        refine o_callK (b := p) rfl (free_k (by omega) hwf) (by repeat (first | with_reducible exact Takes.nil | (apply Takes.cons; focus (repeat (first | with_reducible exact Rem.here | apply Rem.there))))) rfl ?_
        rintro _ _ ⟨a', ac', hw', rfl, rfl⟩
        simp only [List.append_eq, List.cons_append, List.nil_append, List.append_nil, tup]
        refine pl_back (by repeat (first | with_reducible exact Owes.nil | with_reducible refine Owes.same ?_ | with_reducible refine Owes.any ?_ | refine Owes.waived 8 (by kernel_rfl) ?_ | refine Owes.waived 6 (by kernel_rfl) ?_ | refine Owes.waived 11 (by kernel_rfl) ?_ | refine Owes.waived 1 (by kernel_rfl) ?_)) ?_ hd; clear hd; intro hd
        refine pl_sole (i := 10) (by kernel_rfl) rfl ?_ hd; clear hd; intro hd
        refine o_callK (b := p) rfl (chain_k (by omega) h1) (by repeat (first | with_reducible exact Takes.nil | (apply Takes.cons; focus (repeat (first | with_reducible exact Rem.here | apply Rem.there))))) rfl ?_
        rintro _ _ ⟨b', bc', hw2', rfl, rfl⟩
        simp only [List.append_eq, List.cons_append, List.nil_append, List.append_nil, tup]
        refine pl_back (by repeat (first | with_reducible exact Owes.nil | with_reducible refine Owes.same ?_ | with_reducible refine Owes.any ?_ | refine Owes.waived 10 (by kernel_rfl) ?_ | refine Owes.waived 8 (by kernel_rfl) ?_ | refine Owes.waived 6 (by kernel_rfl) ?_ | refine Owes.waived 11 (by kernel_rfl) ?_ | refine Owes.waived 1 (by kernel_rfl) ?_)) ?_ hd; clear hd; intro hd
        refine pl_sole (i := 12) (by kernel_rfl) rfl ?_ hd; clear hd; intro hd
        refine o_store rfl rfl rfl frz0 ?_
        refine pl_back (by repeat (first | with_reducible exact Owes.nil | with_reducible refine Owes.same ?_ | with_reducible refine Owes.any ?_ | refine Owes.waived 12 (by kernel_rfl) ?_ | refine Owes.waived 10 (by kernel_rfl) ?_ | refine Owes.waived 8 (by kernel_rfl) ?_ | refine Owes.waived 6 (by kernel_rfl) ?_ | refine Owes.waived 11 (by kernel_rfl) ?_ | refine Owes.waived 1 (by kernel_rfl) ?_)) ?_ hd; clear hd; intro hd
        refine pl_take (i := 13) rfl (by kernel_rfl) (y_assign rfl) ?_ hd; clear hd; intro hd
        refine pl_take (i := 14) rfl (by kernel_rfl) (y_assign rfl) ?_ hd; clear hd; intro hd
        refine pl_take (i := 15) rfl (by kernel_rfl) (y_assign rfl) ?_ hd; clear hd; intro hd
        refine pl_done (by kernel_rfl) ?_ hd
        refine f_unlock (A := Blk _ _) ?_
        refine f_unlock (A := Blk _ _) ?_
        refine f_cut (xb, (a', ac'), (b', bc')) ?_ (by repeat (first | exact trivial | refine ⟨rfl, ?_⟩))
        refine (Ent.put (by repeat (first | with_reducible exact Takes.nil | (apply Takes.cons; focus (repeat (first | with_reducible exact Rem.here | apply Rem.there))))) (PCo.mk T (by exact ⟨rfl, rfl, rfl, rfl, rfl, rfl, rfl⟩) hwf him) (Ent.refl _)).trans ?_
        exact Ent.put (by repeat (first | with_reducible exact Takes.nil | (apply Takes.cons; focus (repeat (first | with_reducible exact Rem.here | apply Rem.there))))) (PRep.mk T (by exact ⟨rfl, rfl, rfl, rfl, rfl, rfl, rfl⟩) h1 h2 h3) (by repeat (first | with_reducible exact Ent.nil | (apply Ent.one; focus (repeat (first | with_reducible exact Rem.here | apply Rem.there)))))
    · clear hd; intro hd
      refine o_alloc rfl (fun xb => ?_)
      refine pl_back (by repeat (first | with_reducible exact Owes.nil | with_reducible refine Owes.same ?_ | with_reducible refine Owes.any ?_ | refine Owes.waived 11 (by kernel_rfl) ?_)) ?_ hd; clear hd; intro hd
      refine pl_sole (i := 1) (by kernel_rfl) rfl ?_ hd; clear hd; intro hd
      refine o_callK (b := p) rfl super_k (by repeat (first | with_reducible exact Takes.nil | (apply Takes.cons; focus (repeat (first | with_reducible exact Rem.here | apply Rem.there))))) rfl ?_
      rintro _ _ ⟨rfl, rfl⟩
      simp only [List.append_eq, List.cons_append, List.nil_append, List.append_nil, tup]
      refine pl_back (by repeat (first | with_reducible exact Owes.nil | with_reducible refine Owes.same ?_ | with_reducible refine Owes.any ?_ | refine Owes.waived 1 (by kernel_rfl) ?_ | refine Owes.waived 11 (by kernel_rfl) ?_)) ?_ hd; clear hd; intro hd
      refine pl_sole (i := 6) (by kernel_rfl) rfl ?_ hd; clear hd; intro hd
      refine o_callK (b := rb) rfl pages_k (by repeat (first | with_reducible exact Takes.nil | (apply Takes.cons; focus (repeat (first | with_reducible exact Rem.here | apply Rem.there))))) rfl ?_
      rintro _ _ ⟨rfl, rfl⟩
      simp only [List.append_eq, List.cons_append, List.nil_append, List.append_nil, tup]
      refine pl_back (by repeat (first | with_reducible exact Owes.nil | with_reducible refine Owes.same ?_ | with_reducible refine Owes.any ?_ | refine Owes.waived 6 (by kernel_rfl) ?_ | refine Owes.waived 1 (by kernel_rfl) ?_ | refine Owes.waived 11 (by kernel_rfl) ?_)) ?_ hd; clear hd; intro hd
      refine pl_sole (i := 8) (by kernel_rfl) rfl ?_ hd; clear hd; intro hd
      refine o_callK (b := p) rfl (free_k (by omega) hwf) (by repeat (first | with_reducible exact Takes.nil | (apply Takes.cons; focus (repeat (first | with_reducible exact Rem.here | apply Rem.there))))) rfl ?_
      rintro _ _ ⟨a', ac', hw', rfl, rfl⟩
      simp only [List.append_eq, List.cons_append, List.nil_append, List.append_nil, tup]
      refine pl_back (by repeat (first | with_reducible exact Owes.nil | with_reducible refine Owes.same ?_ | with_reducible refine Owes.any ?_ | refine Owes.waived 8 (by kernel_rfl) ?_ | refine Owes.waived 6 (by kernel_rfl) ?_ | refine Owes.waived 1 (by kernel_rfl) ?_ | refine Owes.waived 11 (by kernel_rfl) ?_)) ?_ hd; clear hd; intro hd
      refine pl_sole (i := 10) (by kernel_rfl) rfl ?_ hd; clear hd; intro hd
      refine o_callK (b := p) rfl (chain_k (by omega) h1) (by repeat (first | with_reducible exact Takes.nil | (apply Takes.cons; focus (repeat (first | with_reducible exact Rem.here | apply Rem.there))))) rfl ?_
      rintro _ _ ⟨b', bc', hw2', rfl, rfl⟩
      simp only [List.append_eq, List.cons_append, List.nil_append, List.append_nil, tup]
      refine pl_back (by repeat (first | with_reducible exact Owes.nil | with_reducible refine Owes.same ?_ | with_reducible refine Owes.any ?_ | refine Owes.waived 10 (by kernel_rfl) ?_ | refine Owes.waived 8 (by kernel_rfl) ?_ | refine Owes.waived 6 (by kernel_rfl) ?_ | refine Owes.waived 1 (by kernel_rfl) ?_ | refine Owes.waived 11 (by kernel_rfl) ?_)) ?_ hd; clear hd; intro hd
      refine pl_sole (i := 12) (by kernel_rfl) rfl ?_ hd; clear hd; intro hd
      refine o_store rfl rfl rfl frz0 ?_
      refine pl_back (by repeat (first | with_reducible exact Owes.nil | with_reducible refine Owes.same ?_ | with_reducible refine Owes.any ?_ | refine Owes.waived 12 (by kernel_rfl) ?_ | refine Owes.waived 10 (by kernel_rfl) ?_ | refine Owes.waived 8 (by kernel_rfl) ?_ | refine Owes.waived 6 (by kernel_rfl) ?_ | refine Owes.waived 1 (by kernel_rfl) ?_ | refine Owes.waived 11 (by kernel_rfl) ?_)) ?_ hd; clear hd; intro hd
      refine pl_take (i := 13) rfl (by kernel_rfl) (y_assign rfl) ?_ hd; clear hd; intro hd
      refine pl_take (i := 14) rfl (by kernel_rfl) (y_assign rfl) ?_ hd; clear hd; intro hd
      refine pl_take (i := 15) rfl (by kernel_rfl) (y_assign rfl) ?_ hd; clear hd; intro hd
      refine pl_done (by kernel_rfl) ?_ hd
      refine f_unlock (A := Blk _ _) ?_
      refine f_unlock (A := Blk _ _) ?_
      refine f_cut (xb, (a', ac'), (b', bc')) ?_ (by repeat (first | exact trivial | refine ⟨rfl, ?_⟩))
      refine (Ent.put (by repeat (first | with_reducible exact Takes.nil | (apply Takes.cons; focus (repeat (first | with_reducible exact Rem.here | apply Rem.there))))) (PCo.mk T (by exact ⟨rfl, rfl, rfl, rfl, rfl, rfl, rfl⟩) hwf him) (Ent.refl _)).trans ?_
      exact Ent.put (by repeat (first | with_reducible exact Takes.nil | (apply Takes.cons; focus (repeat (first | with_reducible exact Rem.here | apply Rem.there))))) (PRep.mk T (by exact ⟨rfl, rfl, rfl, rfl, rfl, rfl, rfl⟩) h1 h2 h3) (by repeat (first | with_reducible exact Ent.nil | (apply Ent.one; focus (repeat (first | with_reducible exact Rem.here | apply Rem.there)))))
  rintro ⟨xb, ⟨fa', fc'⟩, ⟨ca', cc'⟩⟩
  dsimp only
  refine c_seq ?_
  refine c_seq ?_
  refine c_region ?_
  refine o_y (y_assign rfl) rfl ?_
  refine o_nil ?_
  refine f_seq ?_
  refine c_block ?_
  refine c_loop_inv (X := Nat) (fun j => j ≤ ys.length ∧ j ≤ 25) (fun j => 25 - j)
    (fun j => [PRep p d (T.acts3 (ys.take j)), Blk xb (superO T.x), RowA false freeC 2 fa' T.free, RowA false intC 1 ca' T.chain, RowA false AP.cellsV 7 a1 ys, Star (ys.map fun x => KP x)])
    (fun j => [(1, .slice a1 ys.length c1), (5, .pointer (some ⟨p, 0, none⟩)), (8, .pointer (some ⟨xb, 0, none⟩)), (9, .int .i64 T.pages), (10, .slice fa' T.free.length fc'), (11, .slice ca' T.chain.length cc'), (12, .int .i64 (j : Int))]) 0 ⟨Nat.zero_le _, by decide⟩ (by rw [List.take_zero, show T.acts3 [] = T from rfl]; repeat (first | with_reducible exact Ent.nil | (apply Ent.one; focus (repeat (first | with_reducible exact Rem.here | apply Rem.there))))) (by repeat (first | exact trivial | refine ⟨rfl, ?_⟩)) ?_
  clear hgo
  rintro j ⟨hj, hj2⟩ ih
  have hS2 : AFit (T.acts3 (ys.take j)) (6 + i + j) := by
    have key : ∀ (l : List AP) (S : PS) (n : Nat), AFit S n → n + l.length ≤ 900000 → AFit (S.acts3 l) (n + l.length) := fun l => by
      induction l with
      | nil => intro S n h _; exact h
      | cons x l ih =>
        intro S n h hl
        rw [List.length_cons] at hl ⊢
        have := ih (if x.few = true ∧ x.kind ≠ 3 then (S.act x).1 else S) (n + 1) (by split; exact h.act (by omega) x; exact h.up (by omega)) (by omega)
        rw [show n + (l.length + 1) = n + 1 + l.length by omega]
        exact this
    have := key (ys.take j) T (6 + i) hS1 (by rw [List.length_take]; omega)
    rwa [List.length_take, Nat.min_eq_left hj] at this
  refine c_seq ?_
  refine c_seq ?_
  refine c_cut (X := Unit) (fun _ => [PRep p d (T.acts3 (ys.take j)), Blk xb (superO T.x), RowA false freeC 2 fa' T.free, RowA false intC 1 ca' T.chain, RowA false AP.cellsV 7 a1 ys, Star (ys.map fun x => KP x)])
    (fun _ => [(1, .slice a1 ys.length c1), (5, .pointer (some ⟨p, 0, none⟩)), (8, .pointer (some ⟨xb, 0, none⟩)), (9, .int .i64 T.pages), (10, .slice fa' T.free.length fc'), (11, .slice ca' T.chain.length cc'), (12, .int .i64 (j : Int)), (68, .bool (decide (j < ys.length ∧ j < 25)))]) ?_ ?_
  · by_cases g1 : j < ys.length
    · by_cases g2 : j < 25
      · rw [decide_eq_true ⟨g1, g2⟩]
        refine c_region ?_
        refine o_y (y_move rfl) rfl ?_
        refine o_y (y_move rfl) rfl ?_
        refine o_y (y_len_slice rfl) rfl ?_
        refine o_y (y_lss_t rfl rfl (by omega)) rfl ?_
        refine o_y (y_move rfl) rfl ?_
        refine o_want rfl ?_
        refine o_y (y_move rfl) rfl ?_
        refine o_want rfl ?_
        refine o_y (y_lss_t rfl rfl (by omega)) rfl ?_
        refine o_y (y_pick_t rfl rfl) rfl ?_
        refine o_nil ?_
        exact f_cut () (by repeat (first | with_reducible exact Ent.nil | (apply Ent.one; focus (repeat (first | with_reducible exact Rem.here | apply Rem.there))))) (by repeat (first | exact trivial | refine ⟨rfl, ?_⟩))
      · rw [decide_eq_false (fun h => g2 h.2)]
        refine c_region ?_
        refine o_y (y_move rfl) rfl ?_
        refine o_y (y_move rfl) rfl ?_
        refine o_y (y_len_slice rfl) rfl ?_
        refine o_y (y_lss_t rfl rfl (by omega)) rfl ?_
        refine o_y (y_move rfl) rfl ?_
        refine o_want rfl ?_
        refine o_y (y_move rfl) rfl ?_
        refine o_want rfl ?_
        refine o_y (y_lss_f rfl rfl (by omega)) rfl ?_
        refine o_y (y_pick_t rfl rfl) rfl ?_
        refine o_nil ?_
        exact f_cut () (by repeat (first | with_reducible exact Ent.nil | (apply Ent.one; focus (repeat (first | with_reducible exact Rem.here | apply Rem.there))))) (by repeat (first | exact trivial | refine ⟨rfl, ?_⟩))
    · rw [decide_eq_false (fun h => g1 h.1)]
      refine c_region ?_
      refine o_y (y_move rfl) rfl ?_
      refine o_y (y_move rfl) rfl ?_
      refine o_y (y_len_slice rfl) rfl ?_
      refine o_y (y_lss_f rfl rfl (by omega)) rfl ?_
      refine o_y (y_move rfl) rfl ?_
      refine o_skip rfl rfl ?_
      refine o_skip rfl rfl ?_
      refine o_y (y_pick_f rfl rfl) rfl ?_
      refine o_nil ?_
      exact f_cut () (by repeat (first | with_reducible exact Ent.nil | (apply Ent.one; focus (repeat (first | with_reducible exact Rem.here | apply Rem.there))))) (by repeat (first | exact trivial | refine ⟨rfl, ?_⟩))
  intro _
  by_cases hgo : j < ys.length ∧ j < 25
  case pos =>
    rw [decide_eq_true hgo]
    obtain ⟨hlt, hlt2⟩ := hgo
    obtain ⟨x, hx⟩ : ∃ c, ys[j]? = some c := ⟨_, List.getElem?_eq_getElem hlt⟩
    have hne : ys ≠ [] := by intro h; rw [h] at hlt; exact absurd hlt (by simp)
    have hsn := acts3_snoc (S := T) hx
    generalize T.acts3 (ys.take j) = S at *
    refine c_open (A := RowA false AP.cellsV 7 a1 ys) (h := RowA.opens (f := AP.cellsV) hne) (by repeat (first | with_reducible exact Rem.here | apply Rem.there)) (fun y hy2 => ?_)
    obtain ⟨kb, ko, cs, T2, fz⟩ := y
    obtain ⟨e1, e2⟩ := hy2
    dsimp only at e1 e2
    subst e1
    have hgt := act_get e2 hx
    have hg0 : cs[ko + j * 7]? = some (.int .i64 x.kind) := by
      have := (takeN_get hgt).2 0 (by decide)
      rw [List.getElem?_drop, Nat.add_zero] at this
      exact this
    simp only [List.append_eq, List.cons_append, List.nil_append, List.append_nil, tup]
    have hback : ∀ {U : PS} {M : List Asrt}, Ent (KP x :: Star (ys.map fun x => KP x) :: PRep p d U :: Bkp false kb (.cells ⟨cs⟩ T2 fz) :: Blk xb (superO T.x) :: RowA false freeC 2 fa' T.free :: RowA false intC 1 ca' T.chain :: M) [PRep p d U, Blk xb (superO T.x), RowA false freeC 2 fa' T.free, RowA false intC 1 ca' T.chain, RowA false AP.cellsV 7 (some ⟨kb, ko, none⟩) ys, Star (ys.map fun x => KP x)] := fun {U M} =>
      Ent.one (.there (.there .here)) (Ent.one (.there (.there (.there .here))) (Ent.one (.there (.there (.there .here))) (Ent.one (.there (.there (.there .here))) (Ent.put (P := [Bkp false kb (.cells ⟨cs⟩ T2 fz)]) (Takes.cons (.there (.there .here)) Takes.nil) (RowA.shut rfl e2) (Ent.one (.there .here) Ent.nil)))))
    refine c_ent (Ent.trans (M := Star (ys.map fun x => KP x) :: PRep p d S :: Bkp false kb (.cells ⟨cs⟩ T2 fz) :: Blk xb (superO T.x) :: RowA false freeC 2 fa' T.free :: [RowA false intC 1 ca' T.chain]) (by repeat (first | with_reducible exact Ent.nil | (apply Ent.one; focus (repeat (first | with_reducible exact Rem.here | apply Rem.there))))) (star_dupP hx)) ?_
    refine c_true rfl ?_
    refine c_skip ?_
    refine f_seq ?_
    refine c_seq ?_
    refine c_block ?_
    refine c_seq ?_
    refine c_region ?_
    refine o_y (y_move rfl) rfl ?_
    refine o_y (y_move rfl) rfl ?_
    refine o_y (y_indexAddr j rfl rfl rfl hlt) rfl ?_
    refine o_y (y_loadN rfl rfl hgt) rfl ?_
    refine o_call rfl (few8_f x) (by repeat (first | with_reducible exact Takes.nil | (apply Takes.cons; focus (repeat (first | with_reducible exact Rem.here | apply Rem.there))))) rfl ?_
    rintro _ _ ⟨rfl, rfl⟩
    simp only [List.append_eq, List.cons_append, List.nil_append, List.append_nil, tup]
    cases hfew : x.few with
    | false =>
      rw [if_neg (fun h => by rw [hfew] at h; exact absurd h.1 (by decide))] at hsn
      refine o_y (y_move rfl) rfl ?_
      refine o_skip rfl rfl ?_
      refine o_skip rfl rfl ?_
      refine o_skip rfl rfl ?_
      refine o_skip rfl rfl ?_
      refine o_skip rfl rfl ?_
      refine o_skip rfl rfl ?_
      refine o_y (y_pick_f rfl rfl) rfl ?_
      refine o_nil ?_
      refine f_seq ?_
      refine c_false rfl ?_
      refine c_skip ?_
      refine f_block ?_
      refine f_seq ?_
      refine c_region ?_
      refine o_y (y_move rfl) rfl ?_
      refine o_y (y_arith64 rfl rfl rfl (by omega)) rfl ?_
      refine o_y (y_assign rfl) rfl ?_
      refine o_nil ?_
      refine f_next (Ent.trans (M := KP x :: Star (ys.map fun x => KP x) :: PRep p d S :: Bkp false kb (.cells ⟨cs⟩ T2 fz) :: Blk xb (superO T.x) :: RowA false freeC 2 fa' T.free :: [RowA false intC 1 ca' T.chain]) (by repeat (first | with_reducible exact Ent.nil | (apply Ent.one; focus (repeat (first | with_reducible exact Rem.here | apply Rem.there))))) ?_) (by repeat (first | exact trivial | refine ⟨rfl, ?_⟩)) (ih (j + 1) ⟨hlt, hlt2⟩ (by omega))
      rw [hsn]; exact hback
    | true =>
      refine o_y (y_move rfl) rfl ?_
      refine o_want rfl ?_
      refine o_y (y_move rfl) rfl ?_
      refine o_want rfl ?_
      refine o_y (y_move rfl) rfl ?_
      refine o_want rfl ?_
      refine o_y (y_indexAddr j rfl rfl rfl hlt) rfl ?_
      refine o_want rfl ?_
      refine o_y (y_fieldAddr rfl) rfl ?_
      refine o_want rfl ?_
      refine o_y (y_load rfl rfl (by rw [Nat.add_zero]; exact hg0)) rfl ?_
      by_cases h3 : x.kind = 3
      · rw [if_neg (fun h => h.2 h3)] at hsn
        refine o_want rfl ?_
        refine o_y (y_neq_f rfl rfl (by omega)) rfl ?_
        refine o_y (y_pick_t rfl rfl) rfl ?_
        refine o_nil ?_
        refine f_seq ?_
        refine c_false rfl ?_
        refine c_skip ?_
        refine f_block ?_
        refine f_seq ?_
        refine c_region ?_
        refine o_y (y_move rfl) rfl ?_
        refine o_y (y_arith64 rfl rfl rfl (by omega)) rfl ?_
        refine o_y (y_assign rfl) rfl ?_
        refine o_nil ?_
        refine f_next (Ent.trans (M := KP x :: Star (ys.map fun x => KP x) :: PRep p d S :: Bkp false kb (.cells ⟨cs⟩ T2 fz) :: Blk xb (superO T.x) :: RowA false freeC 2 fa' T.free :: [RowA false intC 1 ca' T.chain]) (by repeat (first | with_reducible exact Ent.nil | (apply Ent.one; focus (repeat (first | with_reducible exact Rem.here | apply Rem.there))))) ?_) (by repeat (first | exact trivial | refine ⟨rfl, ?_⟩)) (ih (j + 1) ⟨hlt, hlt2⟩ (by omega))
        rw [hsn]; exact hback
      · rw [if_pos ⟨hfew, h3⟩] at hsn
        refine o_want rfl ?_
        refine o_y (y_neq_t rfl rfl (by omega)) rfl ?_
        refine o_y (y_pick_t rfl rfl) rfl ?_
        refine o_nil ?_
        refine f_seq ?_
        refine c_true rfl ?_
        refine c_region ?_
        refine o_y (y_move rfl) rfl ?_
        refine o_y (y_move rfl) rfl ?_
        refine o_y (y_move rfl) rfl ?_
        refine o_y (y_indexAddr j rfl rfl rfl hlt) rfl ?_
        refine o_y (y_loadN rfl rfl hgt) rfl ?_
        refine o_call rfl (do8_f S (6 + i + j) x hfew hS2 (by omega)) (by repeat (first | with_reducible exact Takes.nil | (apply Takes.cons; focus (repeat (first | with_reducible exact Rem.here | apply Rem.there))))) rfl ?_
        rintro _ _ ⟨rfl, rfl⟩
        simp only [List.append_eq, List.cons_append, List.nil_append, List.append_nil, tup]
        refine o_nil ?_
        refine f_block ?_
        refine f_seq ?_
        refine c_region ?_
        refine o_y (y_move rfl) rfl ?_
        refine o_y (y_arith64 rfl rfl rfl (by omega)) rfl ?_
        refine o_y (y_assign rfl) rfl ?_
        refine o_nil ?_
        refine f_next (Ent.trans (M := KP x :: Star (ys.map fun x => KP x) :: PRep p d (S.act x).1 :: Bkp false kb (.cells ⟨cs⟩ T2 fz) :: Blk xb (superO T.x) :: RowA false freeC 2 fa' T.free :: [RowA false intC 1 ca' T.chain]) (by repeat (first | with_reducible exact Ent.nil | (apply Ent.one; focus (repeat (first | with_reducible exact Rem.here | apply Rem.there))))) ?_) (by repeat (first | exact trivial | refine ⟨rfl, ?_⟩)) (ih (j + 1) ⟨hlt, hlt2⟩ (by omega))
        rw [hsn]; exact hback
  case neg =>
  clear ih
  rw [decide_eq_false hgo]
  have hsm := acts3_same T (ys.take j)
  generalize T.acts3 (ys.take j) = U at *
  have hUl := hS2.lf.flen hS2.pf
  have hUc := hS2.lf.len
  refine c_ent (M := [PRep p d U, Blk xb (superO T.x), RowA false freeC 2 fa' T.free, RowA false intC 1 ca' T.chain]) (by repeat (first | with_reducible exact Ent.nil | (apply Ent.one; focus (repeat (first | with_reducible exact Rem.here | apply Rem.there))))) ?_
  refine c_false rfl ?_
  refine c_exit ?_
  refine f_seq_exit ?_
  refine f_seq_exit ?_
  refine f_block_here ?_
  refine f_seq ?_
  refine c_seq ?_
  refine c_region ?_
  refine o_y (y_move rfl) rfl ?_
  refine o_call rfl (abort_p U (by omega) (by omega)) (by repeat (first | with_reducible exact Takes.nil | (apply Takes.cons; focus (repeat (first | with_reducible exact Rem.here | apply Rem.there))))) rfl ?_
  rintro _ _ ⟨rfl, rfl⟩
  simp only [List.append_eq, List.cons_append, List.nil_append, List.append_nil, tup]
  have q1 : U.abort.x = T.x := hsm.x
  have q2 : U.abort.pages = T.pages := hsm.lpages.trans hx1.2.1.symm
  have q3 : U.abort.free = T.free := hsm.lfree.trans hx1.2.2.1.symm
  have q4 : U.abort.chain = T.chain := hsm.lchain.trans hx1.2.2.2.symm
  generalize U.abort = V at *
  refine o_nil ?_
  refine f_seq ?_
  refine c_seq ?_
  refine c_open (A := PRep p d V) (by repeat (first | with_reducible exact Rem.here | apply Rem.there)) (fun z hz => ?_)
  obtain ⟨h1, h2, h3⟩ := hz
  obtain ⟨ca, cc, lfa, lfc, la, lc⟩ := z
  dsimp only at h1 h2 h3
  try dsimp only [PZ.frs]
  simp only [List.append_eq, List.cons_append, List.nil_append, List.append_nil, tup]
  refine c_open (A := PCo p d _ _ _ V) (by repeat (first | with_reducible exact Rem.here | apply Rem.there)) (fun y hy => ?_)
  obtain ⟨rb, s, fa, fc, m, es, ck⟩ := y
  obtain ⟨hwf, him⟩ := hy
  dsimp only at hwf him
  try dsimp only [PY.frs]
  simp only [List.append_eq, List.cons_append, List.nil_append, List.append_nil, tup]
  rw [q3] at hwf ⊢
  rw [q4] at h1 ⊢
  refine c_ent (M := [Blk p (pobj rb V.x (.slice fa T.free.length fc) (.slice ca T.chain.length cc) m V.oldest V.lpages (.slice lfa V.lfree.length lfc) (.slice la V.lchain.length lc)), Blk rb (robj d s V.pages), Blk xb (superO T.x), RowA false freeC 2 fa T.free, RowA false intC 1 ca T.chain, RowA false freeC 2 fa' T.free, RowA false intC 1 ca' T.chain]) (by repeat (first | with_reducible exact Ent.nil | (apply Ent.one; focus (repeat (first | with_reducible exact Rem.here | apply Rem.there))))) ?_
  rw [q1, q2]
  refine pl_start [1, 9, 15, 17, 21, 23] Tryz.mixed ?_; intro hd
  refine pl_lock (A := Blk _ _) Rem.here rfl ?_ hd; intro hb0
  refine pl_lock (A := Blk _ _) Rem.here rfl ?_ hd; intro hb1
  refine pl_lock (A := Blk _ _) Rem.here rfl ?_ hd; intro hb2
  refine pl_take (i := 0) rfl (by kernel_rfl) (y_move rfl) ?_ hd; clear hd; intro hd
  refine pl_take (i := 2) rfl (by kernel_rfl) (y_loadN rfl rfl rfl) ?_ hd; clear hd; intro hd
  refine pl_sole (i := 1) (by kernel_rfl) rfl ?_ hd; clear hd; intro hd
  refine o_callK (b := p) rfl super_k (by repeat (first | with_reducible exact Takes.nil | (apply Takes.cons; focus (repeat (first | with_reducible exact Rem.here | apply Rem.there))))) rfl ?_
  rintro _ _ ⟨rfl, rfl⟩
  simp only [List.append_eq, List.cons_append, List.nil_append, List.append_nil, tup]
  refine pl_back (by repeat (first | with_reducible exact Owes.nil | with_reducible refine Owes.same ?_ | with_reducible refine Owes.any ?_ | refine Owes.waived 1 (by kernel_rfl) ?_)) ?_ hd; clear hd; intro hd
  refine pl_take (i := 3) rfl (by kernel_rfl) (y_eql_ints_t T.x.nrs T.x.nrs rfl rfl rfl rfl rfl rfl rfl) ?_ hd; clear hd; intro hd
  refine pl_take (i := 4) rfl (by kernel_rfl) (y_move rfl) ?_ hd; clear hd; intro hd
  refine pl_want (i := 5) rfl (by kernel_rfl) rfl (y_move rfl) ?_ hd; clear hd; intro hd
  refine pl_want (i := 6) rfl (by kernel_rfl) rfl (y_nilCheck rfl) ?_ hd; clear hd; intro hd
  refine pl_want (i := 7) rfl (by kernel_rfl) rfl (y_fieldAddr0 rfl) ?_ hd; clear hd; intro hd
  refine pl_want (i := 8) rfl (by kernel_rfl) rfl (y_load rfl rfl rfl) ?_ hd; clear hd; intro hd
  refine pl_want (i := 10) rfl (by kernel_rfl) rfl (y_move rfl) ?_ hd; clear hd; intro hd
  refine pl_sole (i := 9) (by kernel_rfl) rfl ?_ hd; clear hd; intro hd
  refine o_want rfl ?_
  refine o_callK (b := rb) rfl pages_k (by repeat (first | with_reducible exact Takes.nil | (apply Takes.cons; focus (repeat (first | with_reducible exact Rem.here | apply Rem.there))))) rfl ?_
  rintro _ _ ⟨rfl, rfl⟩
  simp only [List.append_eq, List.cons_append, List.nil_append, List.append_nil, tup]
  refine pl_back (by repeat (first | with_reducible exact Owes.nil | with_reducible refine Owes.same ?_ | with_reducible refine Owes.any ?_ | refine Owes.waived 9 (by kernel_rfl) ?_ | refine Owes.waived 1 (by kernel_rfl) ?_)) ?_ hd; clear hd; intro hd
  refine pl_want (i := 11) rfl (by kernel_rfl) rfl (y_eql_t rfl rfl (by omega)) ?_ hd; clear hd; intro hd
  refine pl_take (i := 12) rfl (by kernel_rfl) (y_pick_t rfl rfl) ?_ hd; clear hd; intro hd
  refine pl_take (i := 13) rfl (by kernel_rfl) (y_move rfl) ?_ hd; clear hd; intro hd
  refine pl_want (i := 14) rfl (by kernel_rfl) rfl (y_move rfl) ?_ hd; clear hd; intro hd
  refine pl_want (i := 16) rfl (by kernel_rfl) rfl (y_move rfl) ?_ hd; clear hd; intro hd
  refine pl_sole (i := 15) (by kernel_rfl) rfl ?_ hd; clear hd; intro hd
  refine o_want rfl ?_
  refine o_callK (b := p) rfl (free_k (by omega) hwf) (by repeat (first | with_reducible exact Takes.nil | (apply Takes.cons; focus (repeat (first | with_reducible exact Rem.here | apply Rem.there))))) rfl ?_
  rintro _ _ ⟨a', ac', hw', rfl, rfl⟩
  simp only [List.append_eq, List.cons_append, List.nil_append, List.append_nil, tup]
  refine pl_back (by repeat (first | with_reducible exact Owes.nil | with_reducible refine Owes.same ?_ | with_reducible refine Owes.any ?_ | refine Owes.waived 15 (by kernel_rfl) ?_ | refine Owes.waived 9 (by kernel_rfl) ?_ | refine Owes.waived 1 (by kernel_rfl) ?_)) ?_ hd; clear hd; intro hd
  refine pl_sole (i := 17) (by kernel_rfl) rfl ?_ hd; clear hd; intro hd
  refine o_want rfl ?_
  refine o_call rfl (same6_f (a := a') (b := fa') T.free T.free (by omega) (by omega)) (by repeat (first | with_reducible exact Takes.nil | (apply Takes.cons; focus (repeat (first | with_reducible exact Rem.here | apply Rem.there))))) rfl ?_
  rintro _ _ ⟨r1, hr1, rfl, rfl⟩
  have hr1 := hr1.2 rfl
  subst hr1
  simp only [List.append_eq, List.cons_append, List.nil_append, List.append_nil, tup]
  refine pl_back (by repeat (first | with_reducible exact Owes.nil | with_reducible refine Owes.same ?_ | with_reducible refine Owes.any ?_ | refine Owes.waived 17 (by kernel_rfl) ?_ | refine Owes.waived 15 (by kernel_rfl) ?_ | refine Owes.waived 9 (by kernel_rfl) ?_ | refine Owes.waived 1 (by kernel_rfl) ?_)) ?_ hd; clear hd; intro hd
  refine pl_take (i := 18) rfl (by kernel_rfl) (y_pick_t rfl rfl) ?_ hd; clear hd; intro hd
  refine pl_take (i := 19) rfl (by kernel_rfl) (y_move rfl) ?_ hd; clear hd; intro hd
  refine pl_want (i := 20) rfl (by kernel_rfl) rfl (y_move rfl) ?_ hd; clear hd; intro hd
  refine pl_want (i := 22) rfl (by kernel_rfl) rfl (y_move rfl) ?_ hd; clear hd; intro hd
  refine pl_sole (i := 21) (by kernel_rfl) rfl ?_ hd; clear hd; intro hd
  refine o_want rfl ?_
  refine o_callK (b := p) rfl (chain_k (by omega) h1) (by repeat (first | with_reducible exact Takes.nil | (apply Takes.cons; focus (repeat (first | with_reducible exact Rem.here | apply Rem.there))))) rfl ?_
  rintro _ _ ⟨b', bc', hw2', rfl, rfl⟩
  simp only [List.append_eq, List.cons_append, List.nil_append, List.append_nil, tup]
  refine pl_back (by repeat (first | with_reducible exact Owes.nil | with_reducible refine Owes.same ?_ | with_reducible refine Owes.any ?_ | refine Owes.waived 21 (by kernel_rfl) ?_ | refine Owes.waived 17 (by kernel_rfl) ?_ | refine Owes.waived 15 (by kernel_rfl) ?_ | refine Owes.waived 9 (by kernel_rfl) ?_ | refine Owes.waived 1 (by kernel_rfl) ?_)) ?_ hd; clear hd; intro hd
  refine pl_sole (i := 23) (by kernel_rfl) rfl ?_ hd; clear hd; intro hd
  refine o_want rfl ?_
  refine o_call rfl (same8_f (a := b') (b := ca') T.chain T.chain (by omega) (by omega)) (by repeat (first | with_reducible exact Takes.nil | (apply Takes.cons; focus (repeat (first | with_reducible exact Rem.here | apply Rem.there))))) rfl ?_
  rintro _ _ ⟨r2, hr2, rfl, rfl⟩
  have hr2 := hr2.2 rfl
  subst hr2
  simp only [List.append_eq, List.cons_append, List.nil_append, List.append_nil, tup]
  refine pl_back (by repeat (first | with_reducible exact Owes.nil | with_reducible refine Owes.same ?_ | with_reducible refine Owes.any ?_ | refine Owes.waived 23 (by kernel_rfl) ?_ | refine Owes.waived 21 (by kernel_rfl) ?_ | refine Owes.waived 17 (by kernel_rfl) ?_ | refine Owes.waived 15 (by kernel_rfl) ?_ | refine Owes.waived 9 (by kernel_rfl) ?_ | refine Owes.waived 1 (by kernel_rfl) ?_)) ?_ hd; clear hd; intro hd
  refine pl_take (i := 24) rfl (by kernel_rfl) (y_pick_t rfl rfl) ?_ hd; clear hd; intro hd
  refine pl_take (i := 25) rfl (by kernel_rfl) (y_assign rfl) ?_ hd; clear hd; intro hd
  refine pl_done (by kernel_rfl) ?_ hd
  refine f_unlock (A := Blk _ _) ?_
  refine f_unlock (A := Blk _ _) ?_
  refine f_unlock (A := Blk _ _) ?_
  refine f_seq ?_
  refine c_ret ?_
  exact f_ent Ent.nil (f_ret rfl ⟨rfl, rfl⟩)
end Go.Lun

/- From a contract to the world of a call: what was there stays as it was. -/
namespace Go.Lun
open Go.Proofs Go.ChangeShapes Go.WideShapes Go.ChangeAt Go.RowKit

/-- All that there is when a call begins, as its frame. -/
def Fr.all (W : World) : Fr := ⟨W.os, W.output, W.heap.size, fun b => W.heap[b]?.map fun o => (false, o), none⟩

structure Kept (W w : World) : Prop where
  os : w.os = W.os
  output : w.output = W.output
  size : W.heap.size ≤ w.heap.size
  block : ∀ k, k < W.heap.size → w.heap[k]? = W.heap[k]?

theorem sat_all (W : World) : Sat (Fr.all W).res W := by
  intro b p o h
  simp only [Fr.all, Option.map_eq_some_iff] at h
  obtain ⟨o', h1, h2⟩ := h
  injection h2 with _ h2
  rw [h1, h2]

theorem st_all (W : World) : St (Fr.all W) [] W := by
  refine ⟨rfl, rfl, Nat.le_refl _, (fun _ => none), ?_, sat_all W, ?_, trivial⟩
  · intro b p o q o' _ h; cases h
  · intro b p o h; cases h

theorem kept_of {W w : World} {L : List Asrt} (s : St (Fr.all W) L w) : Kept W w := by
  obtain ⟨h1, h2, h3, _, _, hf, _, _⟩ := s
  refine ⟨h1, h2, h3, fun k hk => ?_⟩
  have h4 : W.heap[k]? = some W.heap[k] := Array.getElem?_eq_getElem hk
  rw [h4]
  exact hf k false _ (by simp only [Fr.all, h4, Option.map_some])

theorem Kept.frame {W w : World} (h : Kept W w) (may : MemPlace → Prop) : W.keptBut w may := by
  refine ⟨h.os, h.output, fun i hi => ?_⟩
  rw [h.block i hi]
  split <;> simp_all

theorem Kept.same {W w : World} (h : Kept W w) {p : MemPlace} (hp : p.block < W.heap.size) : W.sameAt w p := by
  cases p with
  | cell b o => exact World.cell?_of_block (w := W) (h.block b hp)
  | map b => exact h.block b hp

theorem Kept.trod {H : Type} {enc : TypeId × Value → H} {P : Program} {t : TypeId} (hl : laidOutB P = true) (hr : P.readableRec t = true) (hrow : t < P.types.size) {W w : World} {v : Value} {d : DataW H} {ps : List MemPlace}
    (h : DataW.Trod enc P W 0 (fun _ => true) true t v d ps) (hb : Kept W w) (hlt : ∀ x ∈ ps, x.block < W.heap.size) :
    DataW.Trod enc P w 0 (fun b => decide (b < W.heap.size)) true t v d ps :=
  WideElems.Trod_stays hl hr hrow h (fun x hx => hb.same (hlt x hx)) (fun x hx => by simpa using hlt x hx)

/-- A contract that needs nothing but what there is, in the world of a call. -/
theorem Fn.lift {P : Program} {f : FuncId} {args : List Value} {R : Value → List Asrt → Prop} {W : World} (h : Fn P f args [] R) :
    Calls P f ⟨args⟩ W fun e w => ∃ v L, e = .returned v ∧ R v L ∧ Kept W w := (h.out (Fr.all W) W (st_all W)).mono fun e w => by
  rintro ⟨v, L, rfl, hR, s⟩
  exact ⟨v, L, rfl, hR, kept_of s⟩

theorem Try.own : ownKnob Tryz.prog.godebug = none := by kernel_rfl
theorem Try.laidOut : laidOutB Tryz.prog = true := by kernel_rfl

/-- A byte as an argument. -/
theorem open_u8 {H : Type} {enc : TypeId × Value → H} {P : Program} {W : World} {r : Reach} {b0 base : Nat} {sp : Nat → Bool} {hd : Bool} {t : TypeId} {v : Value} {d : DataW H} {ps : List MemPlace} (ht : P.underlying t = some (.int .u8)) (hval : Value.okWide P W r b0 t v) (h : DataW.Trod enc P W base sp hd t v d ps) :
    ∃ c : UInt8, v = byteV c ∧ d = .lit (.int .u8 (c.toNat : Int)) ∧ ps = [] ∧ (Lit.int .u8 (c.toNat : Int)).wf = true := by
  obtain ⟨n, rfl, rfl, rfl, hw⟩ := open_int ht hval h
  have hw' := hw
  simp only [Lit.wf, Bool.and_eq_true, decide_eq_true_eq] at hw'
  have h1 : IntKind.u8.min = 0 := rfl
  have h2 : IntKind.u8.max = 255 := rfl
  have e : ((UInt8.ofNat n.toNat).toNat : Int) = n := by
    have : (UInt8.ofNat n.toNat).toNat = n.toNat % 256 := by simp
    rw [this]; omega
  exact ⟨UInt8.ofNat n.toNat, by rw [byteV, e], by rw [e], rfl, by rw [e]; exact hw⟩
end Go.Lun

/- Rows that are read alone, out of a call's arguments. -/
namespace Go.Lun
open Go.Proofs Go.ChangeShapes Go.WideShapes Go.ChangeAt Go.RowKit Go.Deep

theorem sep_all {W : World} : ∀ {L : List Asrt}, (∀ A ∈ L, A (Fr.all W).res) → sep L (Fr.all W).res
  | [], _ => trivial
  | A :: L, h => by
    have hc : Compat (Fr.all W).res (Fr.all W).res := by
      intro b p o q o' h1 h2
      have : (p, o) = (q, o') := Option.some.inj (h1.symm.trans h2)
      injection this with e1 e2
      subst e1; subst e2
      simp only [Fr.all, Option.map_eq_some_iff] at h1
      obtain ⟨_, _, h3⟩ := h1
      injection h3 with h3 _
      exact ⟨h3.symm, h3.symm, rfl⟩
    refine ⟨(Fr.all W).res, (Fr.all W).res, hc, ?_, h A (by simp), sep_all fun B hB => h B (by simp [hB])⟩
    funext b
    simp only [join]
    split <;> simp_all

theorem st_args {W : World} {L : List Asrt} (h : ∀ A ∈ L, A (Fr.all W).res) : St (Fr.all W) L W := by
  refine ⟨rfl, rfl, Nat.le_refl _, (Fr.all W).res, ?_, sat_all W, sat_all W, sep_all h⟩
  intro b p o q o' h1 h2
  have : (p, o) = (q, o') := Option.some.inj (h1.symm.trans h2)
  injection this with e1 e2
  subst e1; subst e2
  simp only [Fr.all, Option.map_eq_some_iff] at h1
  obtain ⟨_, _, h3⟩ := h1
  injection h3 with h3 _
  exact ⟨h3.symm, h3.symm, rfl⟩

/-- A contract that only reads what the arguments read, in the world of a call. -/
theorem Fn.lift_args {P : Program} {f : FuncId} {args : List Value} {L0 : List Asrt} {R : Value → List Asrt → Prop} {W : World} (h : Fn P f args L0 R) (hL : ∀ A ∈ L0, A (Fr.all W).res) :
    Calls P f ⟨args⟩ W fun e w => ∃ v L, e = .returned v ∧ R v L ∧ Kept W w := (h.out (Fr.all W) W (st_args hL)).mono fun e w => by
  rintro ⟨v, L, rfl, hR, s⟩
  exact ⟨v, L, rfl, hR, kept_of s⟩

theorem mapM_get {α β : Type} {g : α → Option β} : ∀ {xs : List α} {ys : List β}, xs.mapM g = some ys → ys.length = xs.length ∧ ∀ (j : Nat) (x : α), xs[j]? = some x → g x = ys[j]?
  | [], ys, h => by simp at h; subst h; simp
  | x :: xs, ys, h => by
    rw [List.mapM_cons] at h
    cases hg : g x with
    | none => rw [hg] at h; cases h
    | some y =>
      cases hm : xs.mapM g with
      | none => rw [hg, hm] at h; cases h
      | some zs =>
        rw [hg, hm] at h
        have h' : y :: zs = ys := by injection h
        subst h'
        obtain ⟨h1, h2⟩ := mapM_get hm
        refine ⟨by simp [h1], fun j z hz => ?_⟩
        cases j with
        | zero => simp at hz; subst hz; simpa using hg
        | succ j => simpa using h2 j z (by simpa using hz)

theorem getN_of {cs ys : List Value} {off : Nat} (h : ∀ j, j < ys.length → cs[off + j]? = ys[j]?) : getN cs off ys.length = some ys := by
  have hl : ys.length ≤ (cs.drop off).length := by
    rw [List.length_drop]
    rcases Nat.eq_zero_or_pos ys.length with h0 | h0
    · omega
    · have := h (ys.length - 1) (by omega)
      rw [List.getElem?_eq_getElem (by omega : ys.length - 1 < ys.length)] at this
      have h2 : off + (ys.length - 1) < cs.length := by
        rcases Nat.lt_or_ge (off + (ys.length - 1)) cs.length with h3 | h3
        · exact h3
        · rw [List.getElem?_eq_none h3] at this; cases this
      omega
  unfold getN
  rw [takeN_take hl]
  congr 1
  apply List.ext_getElem?
  intro j
  rcases Nat.lt_or_ge j ys.length with hj | hj
  · rw [List.getElem?_take_of_lt hj, List.getElem?_drop]; exact h j hj
  · rw [List.getElem?_eq_none hj, List.getElem?_eq_none (by rw [List.length_take]; omega)]

theorem getN_app {cs us vs : List Value} {off k m : Nat} (h1 : getN cs off k = some us) (h2 : getN cs (off + k) m = some vs) : getN cs off (k + m) = some (us ++ vs) := by
  have l1 := getN_length h1
  have l2 := getN_length h2
  have g1 := (takeN_get h1).2
  have g2 := (takeN_get h2).2
  have := getN_of (cs := cs) (ys := us ++ vs) (off := off) (fun j hj => by
    rw [List.length_append] at hj
    by_cases hjk : j < us.length
    · rw [List.getElem?_append_left hjk, ← g1 j (by omega), List.getElem?_drop]
    · rw [List.getElem?_append_right (by omega), ← g2 (j - us.length) (by omega), List.getElem?_drop]
      congr 1; omega)
  rw [List.length_append, l1, l2] at this
  exact this

theorem getN_flat {α : Type} {f : α → List Value} {k : Nat} {cs : List Value} : ∀ {xs : List α} {off : Nat}, (∀ i x, xs[i]? = some x → getN cs (off + i * k) k = some (f x)) → getN cs off (xs.length * k) = some (xs.flatMap f)
  | [], off, _ => by simp [getN, takeN]
  | x :: xs, off, h => by
    have h0 := h 0 x rfl
    rw [Nat.zero_mul, Nat.add_zero] at h0
    have ih := getN_flat (xs := xs) (off := off + k) (fun i y hy => by
      have := h (i + 1) y (by simpa using hy)
      have e : off + (i + 1) * k = off + k + i * k := by rw [Nat.add_mul, Nat.one_mul]; omega
      rw [← e]; exact this)
    have := getN_app h0 ih
    rw [List.flatMap_cons, List.length_cons, Nat.add_mul, Nat.one_mul, Nat.add_comm]
    exact this

/-- Cells of a world's row. -/
theorem cells_at {W : World} {a : Addr} {o k : Nat} {l : List Value} (hk : 0 < k) (h : W.cells? 0 (a.add o) k = some l) :
    ∃ (c : List Value) (T : TypeId) (fz : Nat × Nat), W.heap[a.block]? = some (.cells ⟨c⟩ T fz) ∧ getN c (a.off + o) k = some l ∧ (o = 0 → a.spot = none) := by
  unfold World.cells? at h
  rw [if_pos (Nat.zero_le _)] at h
  obtain ⟨h1, h2⟩ := mapM_get h
  rw [List.length_range] at h1
  have hb : (a.add o).block = a.block := by unfold Addr.add; split <;> rfl
  have ho : (a.add o).off = a.off + o := by unfold Addr.add; split <;> simp_all
  have key : ∀ j, j < k → W.cell? ((a.add o).add j) = l[j]? := fun j hj => h2 j j (by rw [List.getElem?_range hj])
  have hbj : ∀ j, ((a.add o).add j).block = a.block := fun j => by rw [← hb]; generalize a.add o = a'; unfold Addr.add; split <;> rfl
  have hoj : ∀ j, ((a.add o).add j).off = a.off + o + j := fun j => by rw [← ho]; generalize a.add o = a'; unfold Addr.add; split <;> simp_all
  cases hh : W.heap[a.block]? with
  | none =>
    have := key 0 hk
    unfold World.cell? at this
    rw [hbj, hh, List.getElem?_eq_getElem (by omega)] at this
    cases this
  | some ob =>
    cases ob with
    | cells c T fz =>
      obtain ⟨c⟩ := c
      refine ⟨c, T, fz, rfl, ?_, ?_⟩
      · have := getN_of (cs := c) (ys := l) (off := a.off + o) (fun j hj => by
          have := key j (by omega)
          unfold World.cell? at this
          rw [hbj, hh] at this
          dsimp only at this
          split at this
          · rw [List.getElem?_eq_getElem hj] at this; cases this
          · rw [hoj] at this; simpa using this)
        rw [h1] at this; exact this
      · intro h0
        subst h0
        have := key 0 hk
        unfold World.cell? at this
        rw [hbj, hh, List.getElem?_eq_getElem (by omega)] at this
        dsimp only at this
        split at this
        · cases this
        · rename_i hs
          have e : (a.add 0).add 0 = a := by simp [Addr.add]
          rw [e] at hs
          simpa using hs
    | _ =>
      have := key 0 hk
      unfold World.cell? at this
      rw [hbj, hh, List.getElem?_eq_getElem (by omega)] at this
      cases this

theorem rowA_of {α : Type} {W : World} {f : α → List Value} {k : Nat} (hk : 0 < k) {a : Addr} {xs : List α} (h : ∀ i x, xs[i]? = some x → W.cells? 0 (a.add (i * k)) k = some (f x)) : RowA false f k (some a) xs (Fr.all W).res := by
  intro hne
  cases xs with
  | nil => exact absurd rfl hne
  | cons x xs =>
    obtain ⟨c, T, fz, h1, h2, h3⟩ := cells_at hk (h 0 x rfl)
    have hsp := h3 (Nat.zero_mul _)
    obtain ⟨b, off, sp⟩ := a
    dsimp only at hsp h1 h2
    subst hsp
    refine ⟨b, off, c, T, fz, rfl, getN_flat (fun i y hy => ?_), ?_⟩
    · obtain ⟨c', T', fz', g1, g2, _⟩ := cells_at hk (h i y hy)
      dsimp only at g1 g2
      rw [h1] at g1
      injection g1 with g1
      injection g1 with e1 e2 e3
      injection e1 with e1
      rw [e1]; exact g2
    · simp only [Fr.all, h1, Option.map_some]

theorem list_of {α : Type} {p : Nat → α → Prop} : ∀ n, (∀ i, i < n → ∃ x, p i x) → ∃ xs : List α, xs.length = n ∧ ∀ i x, xs[i]? = some x → p i x
  | 0, _ => ⟨[], rfl, fun i x h => by simp at h⟩
  | n + 1, h => by
    obtain ⟨xs, h1, h2⟩ := list_of n (fun i hi => h i (by omega))
    obtain ⟨x, hx⟩ := h n (by omega)
    refine ⟨xs ++ [x], by simp [h1], fun i y hy => ?_⟩
    rcases Nat.lt_or_ge i xs.length with hi | hi
    · rw [List.getElem?_append_left hi] at hy; exact h2 i y hy
    · rw [List.getElem?_append_right hi] at hy
      have : i = n := by
        rcases Nat.lt_or_ge (i - xs.length) 1 with g | g
        · omega
        · rw [List.getElem?_eq_none (by simpa using g)] at hy; cases hy
      subst this
      rw [h1, Nat.sub_self] at hy
      simp at hy; subst hy; exact hx

/-- A row out of an argument, by what each of its elements is. -/
theorem row_open {α : Type} {H : Type} {enc : TypeId × Value → H} {P : Program} {W : World} {sp : Nat → Bool} {hd : Bool} {fuel k : Nat} {t e : TypeId} {cs0 : List Value} {y : DataW H × List MemPlace} (f : α → List Value) (Q : α → Prop) (hk : 0 < k)
    (ht : P.underlying t = some (.slice e)) (hc : P.cellsOf e = k) (hel : ∀ n cs y, DataW.trod enc P W 0 sp hd n e cs = some y → ∃ x : α, cs = f x ∧ Q x) (h : DataW.trod enc P W 0 sp hd fuel t cs0 = some y) :
    ∃ (a : Option Addr) (cap : Nat) (xs : List α), cs0 = [.slice a xs.length cap] ∧ RowA false f k a xs (Fr.all W).res ∧ (∀ x ∈ xs, Q x) ∧ (a = none → cap = 0) ∧ xs.length ≤ cap ∧ cap ≤ maxLen := by
  rcases DataW.trod_slice ht h with ⟨h0, _⟩ | ⟨a, len, cap, elems, rest, n, _, hcs, _, _, hlc, hcm, hlen, hels, _, _⟩
  · exact ⟨none, 0, [], h0, fun hne => absurd rfl hne, by simp, fun _ => rfl, Nat.le_refl _, Nat.zero_le _⟩
  · rw [hc] at hels
    obtain ⟨xs, hxl, hx⟩ := list_of (α := α) (p := fun i x => W.cells? 0 (a.add (i * k)) k = some (f x) ∧ Q x) len (fun i hi => by
      have h1 := hels i hi
      rw [List.getElem?_eq_getElem (by omega)] at h1
      cases hcc : W.cells? 0 (a.add (i * k)) k with
      | none => rw [hcc] at h1; cases h1
      | some cs =>
        rw [hcc] at h1
        obtain ⟨x, rfl, hq⟩ := hel n cs _ h1
        exact ⟨x, rfl, hq⟩)
    refine ⟨some a, cap, xs, by rw [hxl]; exact hcs, rowA_of hk (fun i x hi => (hx i x hi).1), fun x hm => ?_, (fun h => by cases h), by omega, hcm⟩
    obtain ⟨i, hi, rfl⟩ := List.mem_iff_getElem.1 hm
    exact (hx i _ (List.getElem?_eq_getElem hi)).2
end Go.Lun

/- Acts of layer 8, out of arguments. -/
namespace Go.Lun
open Go.Proofs Go.ChangeShapes Go.WideShapes Go.ChangeAt Go.RowKit Go.Deep

theorem cells_int : Tryz.prog.cellsOf 3 = 1 := by kernel_rfl
theorem cells_string : Tryz.prog.cellsOf 9 = 1 := by kernel_rfl
theorem cells_strings : Tryz.prog.cellsOf 37 = 1 := by kernel_rfl
theorem cells_actP : Tryz.prog.cellsOf 39 = 7 := by kernel_rfl

section
variable {H : Type} {enc : TypeId × Value → H} {W : World} {sp : Nat → Bool} {hd : Bool}
/-- A struct's field of one cell. -/
theorem fld_open {P : Program} {m : Nat} {fs : Array Field} {cs : List Value} {xs : List (DataW H × List MemPlace)} (hxl : xs.length = fs.size)
    (hf : ∀ (i : Nat) (f : Field), fs[i]? = some f → DataW.trod enc P W 0 sp hd m f.type ((cs.drop f.offset).take (P.cellsOf f.type)) = xs[i]?)
    (i : Nat) (t : TypeId) (c : Value) {fl : Field} (h1 : fs[i]? = some fl) (h2 : fl.type = t) (h3 : fl.offset = i) (hc : P.cellsOf t = 1) (h4 : cs[i]? = some c) : ∃ y, DataW.trod enc P W 0 sp hd m t [c] = some y := by
  have h := hf i fl h1
  subst h2
  rw [h3, hc] at h
  have hi : i < fs.size := by
    rcases Nat.lt_or_ge i fs.size with g | g
    · exact g
    · rw [Array.getElem?_eq_none g] at h1; cases h1
  have e : (cs.drop i).take 1 = [c] := by
    have hlt : i < cs.length := by
      rcases Nat.lt_or_ge i cs.length with g | g
      · exact g
      · rw [List.getElem?_eq_none g] at h4; cases h4
    rw [List.getElem?_eq_getElem hlt] at h4
    injection h4 with h4
    rw [List.drop_eq_getElem_cons hlt, h4]
    rfl
  rw [e, List.getElem?_eq_getElem (by omega)] at h
  exact ⟨_, h⟩

theorem str_open (n : Nat) (cs : List Value) (y : DataW H × List MemPlace) (h : DataW.trod enc Tryz.prog W 0 sp hd n 9 cs = some y) : ∃ b : Bytes, cs = strC b ∧ True := by
  obtain ⟨s, h1, _, _⟩ := DataW.trod_string Tryz.underlying9 h
  exact ⟨s.data.toList, h1, trivial⟩
set_option maxRecDepth 20000 in
theorem actP_open (n : Nat) (cs : List Value) (y : DataW H × List MemPlace) (h : DataW.trod enc Tryz.prog W 0 sp hd n 39 cs = some y) : ∃ x : AP, cs = x.cellsV ∧ KP x (Fr.all W).res := by
  obtain ⟨xs, m, _, _, hl, hxl, hf⟩ := DataW.trod_struct Tryz.underlying39 h
  rw [cells_actP] at hl
  match cs, hl with
  | [c0, c1, c2, c3, c4, c5, c6], _ =>
    obtain ⟨y0, f0⟩ := fld_open hxl hf 0 3 c0 rfl rfl rfl cells_int rfl
    obtain ⟨y1, f1⟩ := fld_open hxl hf 1 3 c1 rfl rfl rfl cells_int rfl
    obtain ⟨y2, f2⟩ := fld_open hxl hf 2 3 c2 rfl rfl rfl cells_int rfl
    obtain ⟨y3, f3⟩ := fld_open hxl hf 3 3 c3 rfl rfl rfl cells_int rfl
    obtain ⟨y4, f4⟩ := fld_open hxl hf 4 3 c4 rfl rfl rfl cells_int rfl
    obtain ⟨y5, f5⟩ := fld_open hxl hf 5 3 c5 rfl rfl rfl cells_int rfl
    obtain ⟨y6, f6⟩ := fld_open hxl hf 6 37 c6 rfl rfl rfl cells_strings rfl
    obtain ⟨a0, e0, _, _⟩ := DataW.trod_int Tryz.underlying3 f0
    obtain ⟨a1, e1, _, _⟩ := DataW.trod_int Tryz.underlying3 f1
    obtain ⟨a2, e2, _, _⟩ := DataW.trod_int Tryz.underlying3 f2
    obtain ⟨a3, e3, _, _⟩ := DataW.trod_int Tryz.underlying3 f3
    obtain ⟨a4, e4, _, _⟩ := DataW.trod_int Tryz.underlying3 f4
    obtain ⟨a5, e5, _, _⟩ := DataW.trod_int Tryz.underlying3 f5
    obtain ⟨ka, kc, ks, e6, hrow, _, _, _, _⟩ := row_open strC (fun _ => True) (by decide) Tryz.underlying37 cells_string str_open f6
    injection e0 with e0
    injection e1 with e1
    injection e2 with e2
    injection e3 with e3
    injection e4 with e4
    injection e5 with e5
    injection e6 with e6
    refine ⟨⟨a0, a1, a2, a3, a4, a5, ka, kc, ks⟩, ?_, hrow⟩
    simp only [AP.cellsV]
    rw [e0, e1, e2, e3, e4, e5, e6]
end
end Go.Lun

/- Texts joined: PL2, PL3, PL4, FnK, PL5, PL6, PNum, PNu2, Fin, Arg, ArgP. -/
import Derived.ProofKit
import Derived.Carry
import Derived.Deep.Slices
import Derived.Test.YtjdkdmojlnooiaaGreatRows
import Derived.Test.YtjdkdmojlnooiaaGreatPn1
import Derived.Test.YtjdkdmojlnooiaaGreatPn2
import Derived.Test.YtjdkdmojlnooiaaGreatPn5
/- The statements of layer 8: what an act does; lists that are the same. -/
namespace Go.Lun
open Go.Proofs

instance : IntS Tryz.prog 29 4 := IntS.of (fs := [{ name := "Epoch", type := 3, offset := 0, embedded := false, tag := "", pkgPath := "", byteOffset := 0 }, { name := "Root", type := 3, offset := 1, embedded := false, tag := "", pkgPath := "", byteOffset := 8 }, { name := "Free", type := 3, offset := 2, embedded := false, tag := "", pkgPath := "", byteOffset := 16 }, { name := "Pages", type := 3, offset := 3, embedded := false, tag := "", pkgPath := "", byteOffset := 24 }]) (by kernel_rfl) (by kernel_rfl) (by kernel_rfl) (by kernel_rfl) ⟨⟨by decide, rfl, _, _, inferInstance⟩, ⟨by decide, rfl, _, _, inferInstance⟩, ⟨by decide, rfl, _, _, inferInstance⟩, ⟨by decide, rfl, _, _, inferInstance⟩, trivial⟩ rfl
instance : IntS Tryz.prog 62 2 := IntS.of (fs := [{ name := "Page", type := 3, offset := 0, embedded := false, tag := "", pkgPath := "", byteOffset := 0 }, { name := "Epoch", type := 3, offset := 1, embedded := false, tag := "", pkgPath := "", byteOffset := 8 }]) (by kernel_rfl) (by kernel_rfl) (by kernel_rfl) (by kernel_rfl) ⟨⟨by decide, rfl, _, _, inferInstance⟩, ⟨by decide, rfl, _, _, inferInstance⟩, trivial⟩ rfl
def SP.nrs (x : SP) : List Int := [x.e, x.root, x.free, x.pages]
theorem SP.nrs_inj {x y : SP} : x.nrs = y.nrs ↔ x = y := by
  constructor
  · intro h
    obtain ⟨a, b, c, d⟩ := x
    obtain ⟨a', b', c', d'⟩ := y
    simp only [SP.nrs, List.cons.injEq, and_true] at h
    obtain ⟨rfl, rfl, rfl, rfl⟩ := h
    rfl
  · rintro rfl; rfl

variable {p d : Nat}

set_option maxHeartbeats 6400000 in
theorem do8_f (S : PS) (n : Nat) (x : AP) (hx : x.few = true) (h : AFit S n) (hn : n ≤ 1500) :
    Fn Tryz.prog 22 [.pointer (some ⟨p, 0, none⟩), x.val] [PRep p d S, KP x]
    (fun v L => v = .tuple ⟨[.int .i64 (S.act x).2.1, .int .i64 (S.act x).2.2]⟩ ∧ L = [PRep p d (S.act x).1, KP x]) := by
  have hs := AP.small hx
  have hc0 : x.cells.length ≤ 130 := by
    unfold AP.few at hx
    simp only [Bool.and_eq_true, decide_eq_true_eq] at hx
    exact hx.1
  obtain ⟨pf, cf, lf, he, ho⟩ := h
  have hfl := lf.flen pf
  have hcl := lf.len
  refine fn_start Tryz.func22 rfl rfl rfl fun F => ?_
  obtain ⟨kind, of_, link, no, root, epoch, ca, cc, cells⟩ := x
  dsimp only at hs hc0
  simp only [AP.val, AP.cellsV, KP, PS.act]
  clear hx
  refine c_seq ?_
  refine c_region ?_
  refine o_box rfl rfl (fun xb => ?_)
  refine o_y (y_assign rfl) rfl ?_
  refine o_y (y_assign rfl) rfl ?_
  refine o_nil ?_
  refine f_seq ?_
  by_cases k0 : kind = 0
  case pos =>
    simp only [if_pos k0]
    subst k0
    refine c_seq ?_
    refine c_seq ?_
    refine c_region ?_
    refine o_y (y_fieldAddr0 rfl) rfl ?_
    refine o_y (y_load rfl rfl rfl) rfl ?_
    refine o_nil ?_
    refine f_seq ?_
    refine c_block ?_
    refine c_seq ?_
    refine c_region ?_
    refine o_y (y_eql_t rfl rfl (by omega)) rfl ?_
    refine o_y (y_assign rfl) rfl ?_
    refine o_nil ?_
    refine f_seq ?_
    refine c_true rfl ?_
    refine c_seq ?_
    refine c_ent (M := [Blk xb (.cells ⟨[.int .i64 0, .int .i64 of_, .int .i64 link, .int .i64 no, .int .i64 root, .int .i64 epoch, .slice ca cells.length cc]⟩ 39 (0, 0)), RowA false strC 1 ca cells, PRep p d S]) (by repeat (first | with_reducible exact Ent.nil | (apply Ent.one; focus (repeat (first | with_reducible exact Rem.here | apply Rem.there))))) ?_
    refine pl_start [5, 8, 9] Tryz.mixed ?_; intro hd
    refine pl_lock (A := Blk _ _) Rem.here rfl ?_ hd; intro hb0
    refine pl_take (i := 0) rfl (by kernel_rfl) (y_move rfl) ?_ hd; clear hd; intro hd
    refine pl_take (i := 1) rfl (by kernel_rfl) (y_fieldAddr0 rfl) ?_ hd; clear hd; intro hd
    refine pl_take (i := 2) rfl (by kernel_rfl) (y_load rfl rfl rfl) ?_ hd; clear hd; intro hd
    refine pl_take (i := 3) rfl (by kernel_rfl) (y_fieldAddr0 rfl) ?_ hd; clear hd; intro hd
    refine pl_take (i := 4) rfl (by kernel_rfl) (y_load rfl rfl rfl) ?_ hd; clear hd; intro hd
    refine pl_take (i := 6) rfl (by kernel_rfl) (y_fieldAddr0 rfl) ?_ hd; clear hd; intro hd
    refine pl_take (i := 7) rfl (by kernel_rfl) (y_load rfl rfl rfl) ?_ hd; clear hd; intro hd
    refine pl_sole (i := 5) (by kernel_rfl) rfl ?_ hd; clear hd; intro hd
    refine o_buildSlice rfl rfl rfl rfl rfl (fun nb => ?_)
    refine pl_back (by repeat (first | with_reducible exact Owes.nil | with_reducible refine Owes.same ?_ | with_reducible refine Owes.any ?_ | refine Owes.waived 5 (by kernel_rfl) ?_)) ?_ hd; clear hd; intro hd
    refine pl_sole (i := 8) (by kernel_rfl) rfl ?_ hd; clear hd; intro hd
    refine o_ent (Ent.shut (A := Sl 9 1 (some ⟨nb, 0, none⟩) 0 0 []) (P := [Blk nb (.cells ⟨[]⟩ 9 (0, 0))]) (by repeat (first | with_reducible exact Takes.nil | (apply Takes.cons; focus (repeat (first | with_reducible exact Rem.here | apply Rem.there))))) (Sl.shut_zero' nb)) ?_
    refine o_append rfl rfl (Src.row (f := strC) (xs := cells) (a := ca) (cap := cc) (q := false) (fun _ => rfl) (by repeat (first | with_reducible exact Rem.here | apply Rem.there))) (by repeat (first | with_reducible exact Rem.here | apply Rem.there)) (strs_one cells) (by omega) rfl (by omega) rfl (fun a' cap' => ?_)
    simp only [Nat.zero_add, List.nil_append]
    refine pl_back (by repeat (first | with_reducible exact Owes.nil | with_reducible refine Owes.same ?_ | with_reducible refine Owes.any ?_ | refine Owes.waived 8 (by kernel_rfl) ?_ | refine Owes.waived 5 (by kernel_rfl) ?_)) ?_ hd; clear hd; intro hd
    refine pl_sole (i := 9) (by kernel_rfl) rfl ?_ hd; clear hd; intro hd
    refine o_shareSl (a := a') (cap := cap') strC cells (by repeat (first | with_reducible exact Rem.here | apply Rem.there)) rfl rfl ?_
    refine o_call rfl (new_p S false a' cap' (203 * n) of_ link cells hs pf (by omega)) (by repeat (first | with_reducible exact Takes.nil | (apply Takes.cons; focus (repeat (first | with_reducible exact Rem.here | apply Rem.there))))) rfl ?_
    rintro _ _ ⟨rfl, rfl⟩
    simp only [List.append_eq, List.cons_append, List.nil_append, List.append_nil, tup]
    refine pl_back (by repeat (first | with_reducible exact Owes.nil | with_reducible refine Owes.same ?_ | with_reducible refine Owes.any ?_ | refine Owes.waived 9 (by kernel_rfl) ?_ | refine Owes.waived 8 (by kernel_rfl) ?_ | refine Owes.waived 5 (by kernel_rfl) ?_)) ?_ hd; clear hd; intro hd
    refine pl_take (i := 10) rfl (by kernel_rfl) (y_extract rfl rfl) ?_ hd; clear hd; intro hd
    refine pl_take (i := 11) rfl (by kernel_rfl) (y_extract rfl rfl) ?_ hd; clear hd; intro hd
    refine pl_take (i := 12) rfl (by kernel_rfl) (y_assign rfl) ?_ hd; clear hd; intro hd
    refine pl_take (i := 13) rfl (by kernel_rfl) (y_assign rfl) ?_ hd; clear hd; intro hd
    refine pl_done (by kernel_rfl) ?_ hd
    refine f_unlock (A := Blk _ _) ?_
    refine f_seq ?_
    refine c_ret ?_
    refine f_block_ret ?_
    refine f_seq_ret ?_
    exact f_ent (by repeat (first | with_reducible exact Ent.nil | (apply Ent.one; focus (repeat (first | with_reducible exact Rem.here | apply Rem.there))))) (f_ret rfl ⟨rfl, rfl⟩)
  by_cases k1 : kind = 1
  case pos =>
    simp only [if_neg k0, if_pos k1]
    subst k1
    refine c_seq ?_
    refine c_seq ?_
    refine c_region ?_
    refine o_y (y_fieldAddr0 rfl) rfl ?_
    refine o_y (y_load rfl rfl rfl) rfl ?_
    refine o_nil ?_
    refine f_seq ?_
    refine c_block ?_
    refine c_seq ?_
    refine c_region ?_
    refine o_y (y_eql_f rfl rfl (by omega)) rfl ?_
    refine o_y (y_assign rfl) rfl ?_
    refine o_nil ?_
    refine f_seq ?_
    refine c_false rfl ?_
    refine c_seq ?_
    refine c_region ?_
    refine o_y (y_eql_t rfl rfl (by omega)) rfl ?_
    refine o_y (y_assign rfl) rfl ?_
    refine o_nil ?_
    refine f_seq ?_
    refine c_true rfl ?_
    refine c_seq ?_
    refine c_ent (M := [Blk xb (.cells ⟨[.int .i64 1, .int .i64 of_, .int .i64 link, .int .i64 no, .int .i64 root, .int .i64 epoch, .slice ca cells.length cc]⟩ 39 (0, 0)), RowA false strC 1 ca cells, PRep p d S]) (by repeat (first | with_reducible exact Ent.nil | (apply Ent.one; focus (repeat (first | with_reducible exact Rem.here | apply Rem.there))))) ?_
    refine pl_start [7, 10, 11] Tryz.mixed ?_; intro hd
    refine pl_lock (A := Blk _ _) Rem.here rfl ?_ hd; intro hb0
    refine pl_take (i := 0) rfl (by kernel_rfl) (y_move rfl) ?_ hd; clear hd; intro hd
    refine pl_take (i := 1) rfl (by kernel_rfl) (y_fieldAddr0 rfl) ?_ hd; clear hd; intro hd
    refine pl_take (i := 2) rfl (by kernel_rfl) (y_load rfl rfl rfl) ?_ hd; clear hd; intro hd
    refine pl_take (i := 3) rfl (by kernel_rfl) (y_fieldAddr0 rfl) ?_ hd; clear hd; intro hd
    refine pl_take (i := 4) rfl (by kernel_rfl) (y_load rfl rfl rfl) ?_ hd; clear hd; intro hd
    refine pl_take (i := 5) rfl (by kernel_rfl) (y_fieldAddr0 rfl) ?_ hd; clear hd; intro hd
    refine pl_take (i := 6) rfl (by kernel_rfl) (y_load rfl rfl rfl) ?_ hd; clear hd; intro hd
    refine pl_take (i := 8) rfl (by kernel_rfl) (y_fieldAddr0 rfl) ?_ hd; clear hd; intro hd
    refine pl_take (i := 9) rfl (by kernel_rfl) (y_load rfl rfl rfl) ?_ hd; clear hd; intro hd
    refine pl_sole (i := 7) (by kernel_rfl) rfl ?_ hd; clear hd; intro hd
    refine o_buildSlice rfl rfl rfl rfl rfl (fun nb => ?_)
    refine pl_back (by repeat (first | with_reducible exact Owes.nil | with_reducible refine Owes.same ?_ | with_reducible refine Owes.any ?_ | refine Owes.waived 7 (by kernel_rfl) ?_)) ?_ hd; clear hd; intro hd
    refine pl_sole (i := 10) (by kernel_rfl) rfl ?_ hd; clear hd; intro hd
    refine o_ent (Ent.shut (A := Sl 9 1 (some ⟨nb, 0, none⟩) 0 0 []) (P := [Blk nb (.cells ⟨[]⟩ 9 (0, 0))]) (by repeat (first | with_reducible exact Takes.nil | (apply Takes.cons; focus (repeat (first | with_reducible exact Rem.here | apply Rem.there))))) (Sl.shut_zero' nb)) ?_
    refine o_append rfl rfl (Src.row (f := strC) (xs := cells) (a := ca) (cap := cc) (q := false) (fun _ => rfl) (by repeat (first | with_reducible exact Rem.here | apply Rem.there))) (by repeat (first | with_reducible exact Rem.here | apply Rem.there)) (strs_one cells) (by omega) rfl (by omega) rfl (fun a' cap' => ?_)
    simp only [Nat.zero_add, List.nil_append]
    refine pl_back (by repeat (first | with_reducible exact Owes.nil | with_reducible refine Owes.same ?_ | with_reducible refine Owes.any ?_ | refine Owes.waived 10 (by kernel_rfl) ?_ | refine Owes.waived 7 (by kernel_rfl) ?_)) ?_ hd; clear hd; intro hd
    refine pl_sole (i := 11) (by kernel_rfl) rfl ?_ hd; clear hd; intro hd
    refine o_shareSl (a := a') (cap := cap') strC cells (by repeat (first | with_reducible exact Rem.here | apply Rem.there)) rfl rfl ?_
    refine o_call rfl (change_p S false a' cap' (203 * n) no of_ link cells hs pf (by omega)) (by repeat (first | with_reducible exact Takes.nil | (apply Takes.cons; focus (repeat (first | with_reducible exact Rem.here | apply Rem.there))))) rfl ?_
    rintro _ _ ⟨rfl, rfl⟩
    simp only [List.append_eq, List.cons_append, List.nil_append, List.append_nil, tup]
    refine pl_back (by repeat (first | with_reducible exact Owes.nil | with_reducible refine Owes.same ?_ | with_reducible refine Owes.any ?_ | refine Owes.waived 11 (by kernel_rfl) ?_ | refine Owes.waived 10 (by kernel_rfl) ?_ | refine Owes.waived 7 (by kernel_rfl) ?_)) ?_ hd; clear hd; intro hd
    refine pl_take (i := 12) rfl (by kernel_rfl) (y_extract rfl rfl) ?_ hd; clear hd; intro hd
    refine pl_take (i := 13) rfl (by kernel_rfl) (y_extract rfl rfl) ?_ hd; clear hd; intro hd
    refine pl_take (i := 14) rfl (by kernel_rfl) (y_assign rfl) ?_ hd; clear hd; intro hd
    refine pl_take (i := 15) rfl (by kernel_rfl) (y_assign rfl) ?_ hd; clear hd; intro hd
    refine pl_done (by kernel_rfl) ?_ hd
    refine f_unlock (A := Blk _ _) ?_
    refine f_seq ?_
    refine c_ret ?_
    refine f_block_ret ?_
    refine f_seq_ret ?_
    exact f_ent (by repeat (first | with_reducible exact Ent.nil | (apply Ent.one; focus (repeat (first | with_reducible exact Rem.here | apply Rem.there))))) (f_ret rfl ⟨rfl, rfl⟩)
  by_cases k2 : kind = 2
  case pos =>
    simp only [if_neg k0, if_neg k1, if_pos k2]
    refine c_seq ?_
    refine c_seq ?_
    refine c_region ?_
    refine o_y (y_fieldAddr0 rfl) rfl ?_
    refine o_y (y_load rfl rfl rfl) rfl ?_
    refine o_nil ?_
    refine f_seq ?_
    refine c_block ?_
    refine c_seq ?_
    refine c_region ?_
    refine o_y (y_eql_f rfl rfl (by omega)) rfl ?_
    refine o_y (y_assign rfl) rfl ?_
    refine o_nil ?_
    refine f_seq ?_
    refine c_false rfl ?_
    refine c_seq ?_
    refine c_region ?_
    refine o_y (y_eql_f rfl rfl (by omega)) rfl ?_
    refine o_y (y_assign rfl) rfl ?_
    refine o_nil ?_
    refine f_seq ?_
    refine c_false rfl ?_
    refine c_seq ?_
    refine c_region ?_
    refine o_y (y_eql_t rfl rfl (by omega)) rfl ?_
    refine o_y (y_assign rfl) rfl ?_
    refine o_nil ?_
    refine f_seq ?_
    refine c_true rfl ?_
    refine c_seq ?_
    refine c_region ?_
    refine o_y (y_move rfl) rfl ?_
    refine o_y (y_fieldAddr0 rfl) rfl ?_
    refine o_y (y_load rfl rfl rfl) rfl ?_
    refine o_call rfl (drop_p S (203 * n) no pf) (by repeat (first | with_reducible exact Takes.nil | (apply Takes.cons; focus (repeat (first | with_reducible exact Rem.here | apply Rem.there))))) rfl ?_
    rintro _ _ ⟨rfl, rfl⟩
    simp only [List.append_eq, List.cons_append, List.nil_append, List.append_nil, tup]
    refine o_y (y_assign rfl) rfl ?_
    refine o_y (y_assign rfl) rfl ?_
    refine o_nil ?_
    refine f_seq ?_
    refine c_ret ?_
    refine f_block_ret ?_
    refine f_seq_ret ?_
    exact f_ent (by repeat (first | with_reducible exact Ent.nil | (apply Ent.one; focus (repeat (first | with_reducible exact Rem.here | apply Rem.there))))) (f_ret rfl ⟨rfl, rfl⟩)
  by_cases k3 : kind = 3
  case pos =>
    simp only [if_neg k0, if_neg k1, if_neg k2, if_pos k3]
    refine c_seq ?_
    refine c_seq ?_
    refine c_region ?_
    refine o_y (y_fieldAddr0 rfl) rfl ?_
    refine o_y (y_load rfl rfl rfl) rfl ?_
    refine o_nil ?_
    refine f_seq ?_
    refine c_block ?_
    refine c_seq ?_
    refine c_region ?_
    refine o_y (y_eql_f rfl rfl (by omega)) rfl ?_
    refine o_y (y_assign rfl) rfl ?_
    refine o_nil ?_
    refine f_seq ?_
    refine c_false rfl ?_
    refine c_seq ?_
    refine c_region ?_
    refine o_y (y_eql_f rfl rfl (by omega)) rfl ?_
    refine o_y (y_assign rfl) rfl ?_
    refine o_nil ?_
    refine f_seq ?_
    refine c_false rfl ?_
    refine c_seq ?_
    refine c_region ?_
    refine o_y (y_eql_f rfl rfl (by omega)) rfl ?_
    refine o_y (y_assign rfl) rfl ?_
    refine o_nil ?_
    refine f_seq ?_
    refine c_false rfl ?_
    refine c_seq ?_
    refine c_region ?_
    refine o_y (y_eql_t rfl rfl (by omega)) rfl ?_
    refine o_y (y_assign rfl) rfl ?_
    refine o_nil ?_
    refine f_seq ?_
    refine c_true rfl ?_
    refine c_seq ?_
    refine c_region ?_
    refine o_y (y_move rfl) rfl ?_
    refine o_y (y_fieldAddr0 rfl) rfl ?_
    refine o_y (y_load rfl rfl rfl) rfl ?_
    refine o_call rfl (commit_p S (203 * n) root pf cf lf (by omega)) (by repeat (first | with_reducible exact Takes.nil | (apply Takes.cons; focus (repeat (first | with_reducible exact Rem.here | apply Rem.there))))) rfl ?_
    rintro _ _ ⟨rfl, rfl⟩
    simp only [List.append_eq, List.cons_append, List.nil_append, List.append_nil, tup]
    refine o_y (y_assign rfl) rfl ?_
    refine o_y (y_assign rfl) rfl ?_
    refine o_nil ?_
    refine f_seq ?_
    refine c_ret ?_
    refine f_block_ret ?_
    refine f_seq_ret ?_
    exact f_ent (by repeat (first | with_reducible exact Ent.nil | (apply Ent.one; focus (repeat (first | with_reducible exact Rem.here | apply Rem.there))))) (f_ret rfl ⟨rfl, rfl⟩)
  by_cases k4 : kind = 4
  case pos =>
    simp only [if_neg k0, if_neg k1, if_neg k2, if_neg k3, if_pos k4]
    refine c_seq ?_
    refine c_seq ?_
    refine c_region ?_
    refine o_y (y_fieldAddr0 rfl) rfl ?_
    refine o_y (y_load rfl rfl rfl) rfl ?_
    refine o_nil ?_
    refine f_seq ?_
    refine c_block ?_
    refine c_seq ?_
    refine c_region ?_
    refine o_y (y_eql_f rfl rfl (by omega)) rfl ?_
    refine o_y (y_assign rfl) rfl ?_
    refine o_nil ?_
    refine f_seq ?_
    refine c_false rfl ?_
    refine c_seq ?_
    refine c_region ?_
    refine o_y (y_eql_f rfl rfl (by omega)) rfl ?_
    refine o_y (y_assign rfl) rfl ?_
    refine o_nil ?_
    refine f_seq ?_
    refine c_false rfl ?_
    refine c_seq ?_
    refine c_region ?_
    refine o_y (y_eql_f rfl rfl (by omega)) rfl ?_
    refine o_y (y_assign rfl) rfl ?_
    refine o_nil ?_
    refine f_seq ?_
    refine c_false rfl ?_
    refine c_seq ?_
    refine c_region ?_
    refine o_y (y_eql_f rfl rfl (by omega)) rfl ?_
    refine o_y (y_assign rfl) rfl ?_
    refine o_nil ?_
    refine f_seq ?_
    refine c_false rfl ?_
    refine c_seq ?_
    refine c_region ?_
    refine o_y (y_eql_t rfl rfl (by omega)) rfl ?_
    refine o_y (y_assign rfl) rfl ?_
    refine o_nil ?_
    refine f_seq ?_
    refine c_true rfl ?_
    refine c_region ?_
    refine o_y (y_move rfl) rfl ?_
    refine o_call rfl (abort_p S (by omega) (by omega)) (by repeat (first | with_reducible exact Takes.nil | (apply Takes.cons; focus (repeat (first | with_reducible exact Rem.here | apply Rem.there))))) rfl ?_
    rintro _ _ ⟨rfl, rfl⟩
    simp only [List.append_eq, List.cons_append, List.nil_append, List.append_nil, tup]
    refine o_nil ?_
    refine f_block ?_
    refine f_seq ?_
    refine c_seq ?_
    refine c_region ?_
    refine o_y (y_assign rfl) rfl ?_
    refine o_y (y_assign rfl) rfl ?_
    refine o_nil ?_
    refine f_seq ?_
    refine c_ret ?_
    exact f_ent (by repeat (first | with_reducible exact Ent.nil | (apply Ent.one; focus (repeat (first | with_reducible exact Rem.here | apply Rem.there))))) (f_ret rfl ⟨rfl, rfl⟩)
  by_cases k5 : kind = 5
  case pos =>
    simp only [if_neg k0, if_neg k1, if_neg k2, if_neg k3, if_neg k4, if_pos k5]
    refine c_seq ?_
    refine c_seq ?_
    refine c_region ?_
    refine o_y (y_fieldAddr0 rfl) rfl ?_
    refine o_y (y_load rfl rfl rfl) rfl ?_
    refine o_nil ?_
    refine f_seq ?_
    refine c_block ?_
    refine c_seq ?_
    refine c_region ?_
    refine o_y (y_eql_f rfl rfl (by omega)) rfl ?_
    refine o_y (y_assign rfl) rfl ?_
    refine o_nil ?_
    refine f_seq ?_
    refine c_false rfl ?_
    refine c_seq ?_
    refine c_region ?_
    refine o_y (y_eql_f rfl rfl (by omega)) rfl ?_
    refine o_y (y_assign rfl) rfl ?_
    refine o_nil ?_
    refine f_seq ?_
    refine c_false rfl ?_
    refine c_seq ?_
    refine c_region ?_
    refine o_y (y_eql_f rfl rfl (by omega)) rfl ?_
    refine o_y (y_assign rfl) rfl ?_
    refine o_nil ?_
    refine f_seq ?_
    refine c_false rfl ?_
    refine c_seq ?_
    refine c_region ?_
    refine o_y (y_eql_f rfl rfl (by omega)) rfl ?_
    refine o_y (y_assign rfl) rfl ?_
    refine o_nil ?_
    refine f_seq ?_
    refine c_false rfl ?_
    refine c_seq ?_
    refine c_region ?_
    refine o_y (y_eql_f rfl rfl (by omega)) rfl ?_
    refine o_y (y_assign rfl) rfl ?_
    refine o_nil ?_
    refine f_seq ?_
    refine c_false rfl ?_
    refine c_seq ?_
    refine c_region ?_
    refine o_y (y_eql_t rfl rfl (by omega)) rfl ?_
    refine o_y (y_assign rfl) rfl ?_
    refine o_nil ?_
    refine f_seq ?_
    refine c_true rfl ?_
    refine c_region ?_
    refine o_y (y_move rfl) rfl ?_
    refine o_y (y_fieldAddr0 rfl) rfl ?_
    refine o_y (y_load rfl rfl rfl) rfl ?_
    refine o_call rfl (oldest_p S epoch) (by repeat (first | with_reducible exact Takes.nil | (apply Takes.cons; focus (repeat (first | with_reducible exact Rem.here | apply Rem.there))))) rfl ?_
    rintro _ _ ⟨rfl, rfl⟩
    simp only [List.append_eq, List.cons_append, List.nil_append, List.append_nil, tup]
    refine o_nil ?_
    refine f_block ?_
    refine f_seq ?_
    refine c_seq ?_
    refine c_region ?_
    refine o_y (y_assign rfl) rfl ?_
    refine o_y (y_assign rfl) rfl ?_
    refine o_nil ?_
    refine f_seq ?_
    refine c_ret ?_
    exact f_ent (by repeat (first | with_reducible exact Ent.nil | (apply Ent.one; focus (repeat (first | with_reducible exact Rem.here | apply Rem.there))))) (f_ret rfl ⟨rfl, rfl⟩)
  simp only [if_neg k0, if_neg k1, if_neg k2, if_neg k3, if_neg k4, if_neg k5]
  refine c_seq ?_
  refine c_seq ?_
  refine c_region ?_
  refine o_y (y_fieldAddr0 rfl) rfl ?_
  refine o_y (y_load rfl rfl rfl) rfl ?_
  refine o_nil ?_
  refine f_seq ?_
  refine c_block ?_
  refine c_seq ?_
  refine c_region ?_
  refine o_y (y_eql_f rfl rfl (by omega)) rfl ?_
  refine o_y (y_assign rfl) rfl ?_
  refine o_nil ?_
  refine f_seq ?_
  refine c_false rfl ?_
  refine c_seq ?_
  refine c_region ?_
  refine o_y (y_eql_f rfl rfl (by omega)) rfl ?_
  refine o_y (y_assign rfl) rfl ?_
  refine o_nil ?_
  refine f_seq ?_
  refine c_false rfl ?_
  refine c_seq ?_
  refine c_region ?_
  refine o_y (y_eql_f rfl rfl (by omega)) rfl ?_
  refine o_y (y_assign rfl) rfl ?_
  refine o_nil ?_
  refine f_seq ?_
  refine c_false rfl ?_
  refine c_seq ?_
  refine c_region ?_
  refine o_y (y_eql_f rfl rfl (by omega)) rfl ?_
  refine o_y (y_assign rfl) rfl ?_
  refine o_nil ?_
  refine f_seq ?_
  refine c_false rfl ?_
  refine c_seq ?_
  refine c_region ?_
  refine o_y (y_eql_f rfl rfl (by omega)) rfl ?_
  refine o_y (y_assign rfl) rfl ?_
  refine o_nil ?_
  refine f_seq ?_
  refine c_false rfl ?_
  refine c_seq ?_
  refine c_region ?_
  refine o_y (y_eql_f rfl rfl (by omega)) rfl ?_
  refine o_y (y_assign rfl) rfl ?_
  refine o_nil ?_
  refine f_seq ?_
  refine c_false rfl ?_
  refine c_skip ?_
  refine f_block ?_
  refine f_seq ?_
  refine c_seq ?_
  refine c_region ?_
  refine o_y (y_assign rfl) rfl ?_
  refine o_y (y_assign rfl) rfl ?_
  refine o_nil ?_
  refine f_seq ?_
  refine c_ret ?_
  exact f_ent (by repeat (first | with_reducible exact Ent.nil | (apply Ent.one; focus (repeat (first | with_reducible exact Rem.here | apply Rem.there))))) (f_ret rfl ⟨rfl, rfl⟩)

theorem pages_r (rb s : Nat) (n : Int) : Fn Tryz.prog 30 [.pointer (some ⟨rb, 0, none⟩)] [Blk rb (robj d s n)] (fun v L => v = .int .i64 n ∧ L = [Blk rb (robj d s n)]) := by
  refine fn_start Tryz.func30 rfl rfl rfl fun F => ?_
  refine c_seq ?_
  refine c_region ?_
  refine o_y (y_assign rfl) rfl ?_
  refine o_nil ?_
  refine f_seq ?_
  refine c_seq ?_
  refine c_region ?_
  refine o_y (y_move rfl) rfl ?_
  refine o_y (y_nilCheck rfl) rfl ?_
  refine o_y (y_fieldAddr0 rfl) rfl ?_
  refine o_y (y_load rfl rfl rfl) rfl ?_
  refine o_y (y_assign rfl) rfl ?_
  refine o_nil ?_
  refine f_seq ?_
  refine c_ret ?_
  exact f_ret rfl ⟨rfl, rfl⟩

set_option maxHeartbeats 3200000 in
theorem same6_f {a b : Option Addr} {ac bc : Nat} (l m : List FR) (hl : l.length ≤ 1000000) (hm : m.length ≤ 1000000) : Fn Tryz.prog 26 [.slice a l.length ac, .slice b m.length bc] [RowA false freeC 2 a l, RowA false freeC 2 b m]
    (fun v L => ∃ r : Bool, (r = true ↔ l = m) ∧ v = .bool r ∧ L = [RowA false freeC 2 a l, RowA false freeC 2 b m]) := by
  refine fn_start Tryz.func26 rfl rfl rfl fun F => ?_
  by_cases hlen : l.length = m.length
  case neg =>
    refine c_seq ?_
    refine c_region ?_
    refine o_y (y_assign rfl) rfl ?_
    refine o_nil ?_
    refine f_seq ?_
    refine c_seq ?_
    refine c_seq ?_
    refine c_region ?_
    refine o_y (y_move rfl) rfl ?_
    refine o_y (y_len_slice rfl) rfl ?_
    refine o_y (y_move rfl) rfl ?_
    refine o_y (y_len_slice rfl) rfl ?_
    refine o_y (y_neq_t rfl rfl (by omega)) rfl ?_
    refine o_nil ?_
    refine f_seq ?_
    refine c_true rfl ?_
    refine c_seq ?_
    refine c_region ?_
    refine o_y (y_assign rfl) rfl ?_
    refine o_nil ?_
    refine f_seq ?_
    refine c_ret ?_
    refine f_seq_ret ?_
    exact f_ent (by repeat (first | with_reducible exact Ent.nil | (apply Ent.one; focus (repeat (first | with_reducible exact Rem.here | apply Rem.there))))) (f_ret rfl ⟨false, ⟨fun h => (by cases h), fun h => absurd (by rw [h]) hlen⟩, rfl, rfl⟩)
  refine c_seq ?_
  refine c_region ?_
  refine o_y (y_assign rfl) rfl ?_
  refine o_nil ?_
  refine f_seq ?_
  refine c_seq ?_
  refine c_seq ?_
  refine c_region ?_
  refine o_y (y_move rfl) rfl ?_
  refine o_y (y_len_slice rfl) rfl ?_
  refine o_y (y_move rfl) rfl ?_
  refine o_y (y_len_slice rfl) rfl ?_
  refine o_y (y_neq_f rfl rfl (by omega)) rfl ?_
  refine o_nil ?_
  refine f_seq ?_
  refine c_false rfl ?_
  refine c_skip ?_
  refine f_seq ?_
  refine c_seq ?_
  refine c_seq ?_
  refine c_region ?_
  refine o_y (y_assign rfl) rfl ?_
  refine o_nil ?_
  refine f_seq ?_
  refine c_block ?_
  refine c_loop_inv (X := Nat) (fun i => i ≤ l.length ∧ l.take i = m.take i) (fun i => l.length - i) (fun _ => [RowA false freeC 2 a l, RowA false freeC 2 b m])
    (fun i => [(0, .slice a l.length ac), (1, .slice b m.length bc), (5, .int .i64 (i : Int))]) 0 ⟨Nat.zero_le _, rfl⟩ (by repeat (first | with_reducible exact Ent.nil | (apply Ent.one; focus (repeat (first | with_reducible exact Rem.here | apply Rem.there))))) (by repeat (first | exact trivial | refine ⟨rfl, ?_⟩)) ?_
  rintro i ⟨hi, ht⟩ ih
  by_cases hlt : i < l.length
  case neg =>
    clear ih
    have heq : l = m := by rwa [List.take_of_length_le (by omega), List.take_of_length_le (by omega)] at ht
    refine c_seq ?_
    refine c_seq ?_
    refine c_region ?_
    refine o_y (y_move rfl) rfl ?_
    refine o_y (y_move rfl) rfl ?_
    refine o_y (y_len_slice rfl) rfl ?_
    refine o_y (y_lss_f rfl rfl (by omega)) rfl ?_
    refine o_nil ?_
    refine f_seq ?_
    refine c_false rfl ?_
    refine c_exit ?_
    refine f_seq_exit ?_
    refine f_seq_exit ?_
    refine f_block_here ?_
    refine f_seq ?_
    refine c_seq ?_
    refine c_region ?_
    refine o_y (y_assign rfl) rfl ?_
    refine o_nil ?_
    refine f_seq ?_
    refine c_ret ?_
    exact f_ent (by repeat (first | with_reducible exact Ent.nil | (apply Ent.one; focus (repeat (first | with_reducible exact Rem.here | apply Rem.there))))) (f_ret rfl ⟨true, ⟨fun _ => heq, fun _ => rfl⟩, rfl, rfl⟩)
  obtain ⟨f, hf⟩ : ∃ c, l[i]? = some c := ⟨_, List.getElem?_eq_getElem hlt⟩
  obtain ⟨g, hg⟩ : ∃ c, m[i]? = some c := ⟨_, List.getElem?_eq_getElem (by omega)⟩
  have hne : l ≠ [] := by intro h; rw [h] at hlt; exact absurd hlt (by simp)
  have hne2 : m ≠ [] := by intro h; rw [h] at hg; cases hg
  refine c_open (A := RowA false freeC 2 a l) (h := RowA.opens (f := freeC) hne) Rem.here (fun y hy2 => ?_)
  obtain ⟨kb, ko, cs, T, fz⟩ := y
  obtain ⟨e1, e2⟩ := hy2
  refine c_open (A := RowA false freeC 2 b m) (h := RowA.opens (f := freeC) hne2) (Rem.there Rem.here) (fun y hy2 => ?_)
  obtain ⟨kb2, ko2, cs2, T2, fz2⟩ := y
  obtain ⟨e3, e4⟩ := hy2
  dsimp only at e1 e2 e3 e4
  subst e1; subst e3
  have hg1 := free_get e2 hf
  have hg2 := free_get e4 hg
  simp only [List.append_eq, List.cons_append, List.nil_append, List.append_nil, tup]
  refine c_seq ?_
  refine c_seq ?_
  refine c_region ?_
  refine o_y (y_move rfl) rfl ?_
  refine o_y (y_move rfl) rfl ?_
  refine o_y (y_len_slice rfl) rfl ?_
  refine o_y (y_lss_t rfl rfl (by omega)) rfl ?_
  refine o_nil ?_
  refine f_seq ?_
  refine c_true rfl ?_
  refine c_skip ?_
  refine f_seq ?_
  refine c_seq ?_
  refine c_block ?_
  refine c_seq ?_
  refine c_cut (X := Unit) (fun _ => [RowA false freeC 2 (some ⟨kb, ko, none⟩) l, RowA false freeC 2 (some ⟨kb2, ko2, none⟩) m]) (fun _ => [(0, .slice (some ⟨kb, ko, none⟩) l.length ac), (1, .slice (some ⟨kb2, ko2, none⟩) m.length bc), (5, .int .i64 (i : Int)), (25, .bool (!decide ([f.p, f.e] = [g.p, g.e])))]) ?_ ?_
  ·
    refine pl_start [] Tryz.mixed ?_; intro hd
    refine pl_lock (A := Bkp _ _ _) Rem.here rfl ?_ hd; intro hb0
    refine pl_lock (A := Bkp _ _ _) Rem.here rfl ?_ hd; intro hb1
    refine pl_take (i := 0) rfl (by kernel_rfl) (y_move rfl) ?_ hd; clear hd; intro hd
    refine pl_take (i := 1) rfl (by kernel_rfl) (y_move rfl) ?_ hd; clear hd; intro hd
    refine pl_take (i := 2) rfl (by kernel_rfl) (y_indexAddr i rfl rfl rfl hlt) ?_ hd; clear hd; intro hd
    refine pl_take (i := 3) rfl (by kernel_rfl) (y_loadN rfl rfl hg1) ?_ hd; clear hd; intro hd
    refine pl_take (i := 4) rfl (by kernel_rfl) (y_move rfl) ?_ hd; clear hd; intro hd
    refine pl_take (i := 5) rfl (by kernel_rfl) (y_move rfl) ?_ hd; clear hd; intro hd
    refine pl_take (i := 6) rfl (by kernel_rfl) (y_indexAddr i rfl rfl rfl (by omega)) ?_ hd; clear hd; intro hd
    refine pl_take (i := 7) rfl (by kernel_rfl) (y_loadN rfl rfl hg2) ?_ hd; clear hd; intro hd
    refine pl_take (i := 8) rfl (by kernel_rfl) (y_neq_ints [f.p, f.e] [g.p, g.e] rfl rfl rfl rfl rfl rfl) ?_ hd; clear hd; intro hd
    refine pl_done (by kernel_rfl) ?_ hd
    refine f_unlock (A := Bkp _ _ _) ?_
    refine f_unlock (A := Bkp _ _ _) ?_
    refine f_cut () ?_ (by repeat (first | exact trivial | refine ⟨rfl, ?_⟩))
    exact Ent.put (P := [Bkp false kb (.cells ⟨cs⟩ T fz)]) (by repeat (first | with_reducible exact Takes.nil | (apply Takes.cons; focus (repeat (first | with_reducible exact Rem.here | apply Rem.there))))) (RowA.shut rfl e2) (Ent.put (P := [Bkp false kb2 (.cells ⟨cs2⟩ T2 fz2)]) (by repeat (first | with_reducible exact Takes.nil | (apply Takes.cons; focus (repeat (first | with_reducible exact Rem.here | apply Rem.there))))) (RowA.shut rfl e4) Ent.nil)
  intro _
  by_cases hfg : f = g
  · subst hfg
    rw [decide_eq_true rfl]
    refine c_false rfl ?_
    refine c_skip ?_
    refine f_block ?_
    refine f_seq ?_
    refine c_region ?_
    refine o_y (y_move rfl) rfl ?_
    refine o_y (y_arith64 rfl rfl rfl (by omega)) rfl ?_
    refine o_y (y_assign rfl) rfl ?_
    refine o_nil ?_
    refine f_next (by repeat (first | with_reducible exact Ent.nil | (apply Ent.one; focus (repeat (first | with_reducible exact Rem.here | apply Rem.there))))) (by repeat (first | exact trivial | refine ⟨rfl, ?_⟩)) (ih (i + 1) ⟨hlt, ?_⟩ (by omega))
    rw [take_snoc' hf, take_snoc' hg, ht]
  · rw [decide_eq_false (fun h => hfg (by obtain ⟨p, e⟩ := f; obtain ⟨p', e'⟩ := g; simp only [List.cons.injEq, and_true] at h; obtain ⟨rfl, rfl⟩ := h; rfl))]
    clear ih
    refine c_true rfl ?_
    refine c_seq ?_
    refine c_region ?_
    refine o_y (y_assign rfl) rfl ?_
    refine o_nil ?_
    refine f_seq ?_
    refine c_ret ?_
    refine f_block_ret ?_
    refine f_seq_ret ?_
    refine f_seq_ret ?_
    refine f_block_ret ?_
    refine f_seq_ret ?_
    refine f_ent (by repeat (first | with_reducible exact Ent.nil | (apply Ent.one; focus (repeat (first | with_reducible exact Rem.here | apply Rem.there))))) (f_ret rfl ⟨false, ⟨fun h => (by cases h), fun h => ?_⟩, rfl, rfl⟩)
    subst h
    rw [hf] at hg; injection hg with hg; exact absurd hg hfg

set_option maxHeartbeats 3200000 in
theorem same8_f {a b : Option Addr} {ac bc : Nat} (l m : List Int) (hl : l.length ≤ 1000000) (hm : m.length ≤ 1000000) : Fn Tryz.prog 28 [.slice a l.length ac, .slice b m.length bc] [RowA false intC 1 a l, RowA false intC 1 b m]
    (fun v L => ∃ r : Bool, (r = true ↔ l = m) ∧ v = .bool r ∧ L = [RowA false intC 1 a l, RowA false intC 1 b m]) := by
  refine fn_start Tryz.func28 rfl rfl rfl fun F => ?_
  by_cases hlen : l.length = m.length
  case neg =>
    refine c_seq ?_
    refine c_region ?_
    refine o_y (y_assign rfl) rfl ?_
    refine o_nil ?_
    refine f_seq ?_
    refine c_seq ?_
    refine c_seq ?_
    refine c_region ?_
    refine o_y (y_move rfl) rfl ?_
    refine o_y (y_len_slice rfl) rfl ?_
    refine o_y (y_move rfl) rfl ?_
    refine o_y (y_len_slice rfl) rfl ?_
    refine o_y (y_neq_t rfl rfl (by omega)) rfl ?_
    refine o_nil ?_
    refine f_seq ?_
    refine c_true rfl ?_
    refine c_seq ?_
    refine c_region ?_
    refine o_y (y_assign rfl) rfl ?_
    refine o_nil ?_
    refine f_seq ?_
    refine c_ret ?_
    refine f_seq_ret ?_
    exact f_ent (by repeat (first | with_reducible exact Ent.nil | (apply Ent.one; focus (repeat (first | with_reducible exact Rem.here | apply Rem.there))))) (f_ret rfl ⟨false, ⟨fun h => (by cases h), fun h => absurd (by rw [h]) hlen⟩, rfl, rfl⟩)
  refine c_seq ?_
  refine c_region ?_
  refine o_y (y_assign rfl) rfl ?_
  refine o_nil ?_
  refine f_seq ?_
  refine c_seq ?_
  refine c_seq ?_
  refine c_region ?_
  refine o_y (y_move rfl) rfl ?_
  refine o_y (y_len_slice rfl) rfl ?_
  refine o_y (y_move rfl) rfl ?_
  refine o_y (y_len_slice rfl) rfl ?_
  refine o_y (y_neq_f rfl rfl (by omega)) rfl ?_
  refine o_nil ?_
  refine f_seq ?_
  refine c_false rfl ?_
  refine c_skip ?_
  refine f_seq ?_
  refine c_seq ?_
  refine c_seq ?_
  refine c_region ?_
  refine o_y (y_assign rfl) rfl ?_
  refine o_nil ?_
  refine f_seq ?_
  refine c_block ?_
  refine c_loop_inv (X := Nat) (fun i => i ≤ l.length ∧ l.take i = m.take i) (fun i => l.length - i) (fun _ => [RowA false intC 1 a l, RowA false intC 1 b m])
    (fun i => [(0, .slice a l.length ac), (1, .slice b m.length bc), (5, .int .i64 (i : Int))]) 0 ⟨Nat.zero_le _, rfl⟩ (by repeat (first | with_reducible exact Ent.nil | (apply Ent.one; focus (repeat (first | with_reducible exact Rem.here | apply Rem.there))))) (by repeat (first | exact trivial | refine ⟨rfl, ?_⟩)) ?_
  rintro i ⟨hi, ht⟩ ih
  by_cases hlt : i < l.length
  case neg =>
    clear ih
    have heq : l = m := by rwa [List.take_of_length_le (by omega), List.take_of_length_le (by omega)] at ht
    refine c_seq ?_
    refine c_seq ?_
    refine c_region ?_
    refine o_y (y_move rfl) rfl ?_
    refine o_y (y_move rfl) rfl ?_
    refine o_y (y_len_slice rfl) rfl ?_
    refine o_y (y_lss_f rfl rfl (by omega)) rfl ?_
    refine o_nil ?_
    refine f_seq ?_
    refine c_false rfl ?_
    refine c_exit ?_
    refine f_seq_exit ?_
    refine f_seq_exit ?_
    refine f_block_here ?_
    refine f_seq ?_
    refine c_seq ?_
    refine c_region ?_
    refine o_y (y_assign rfl) rfl ?_
    refine o_nil ?_
    refine f_seq ?_
    refine c_ret ?_
    exact f_ent (by repeat (first | with_reducible exact Ent.nil | (apply Ent.one; focus (repeat (first | with_reducible exact Rem.here | apply Rem.there))))) (f_ret rfl ⟨true, ⟨fun _ => heq, fun _ => rfl⟩, rfl, rfl⟩)
  obtain ⟨f, hf⟩ : ∃ c, l[i]? = some c := ⟨_, List.getElem?_eq_getElem hlt⟩
  obtain ⟨g, hg⟩ : ∃ c, m[i]? = some c := ⟨_, List.getElem?_eq_getElem (by omega)⟩
  have hne : l ≠ [] := by intro h; rw [h] at hlt; exact absurd hlt (by simp)
  have hne2 : m ≠ [] := by intro h; rw [h] at hg; cases hg
  refine c_open (A := RowA false intC 1 a l) (h := RowA.opens (f := intC) hne) Rem.here (fun y hy2 => ?_)
  obtain ⟨kb, ko, cs, T, fz⟩ := y
  obtain ⟨e1, e2⟩ := hy2
  refine c_open (A := RowA false intC 1 b m) (h := RowA.opens (f := intC) hne2) (Rem.there Rem.here) (fun y hy2 => ?_)
  obtain ⟨kb2, ko2, cs2, T2, fz2⟩ := y
  obtain ⟨e3, e4⟩ := hy2
  dsimp only at e1 e2 e3 e4
  subst e1; subst e3
  have hg1 := int_get e2 hf
  have hg2 := int_get e4 hg
  simp only [List.append_eq, List.cons_append, List.nil_append, List.append_nil, tup]
  refine c_seq ?_
  refine c_seq ?_
  refine c_region ?_
  refine o_y (y_move rfl) rfl ?_
  refine o_y (y_move rfl) rfl ?_
  refine o_y (y_len_slice rfl) rfl ?_
  refine o_y (y_lss_t rfl rfl (by omega)) rfl ?_
  refine o_nil ?_
  refine f_seq ?_
  refine c_true rfl ?_
  refine c_skip ?_
  refine f_seq ?_
  refine c_seq ?_
  refine c_block ?_
  refine c_seq ?_
  refine c_cut (X := Unit) (fun _ => [RowA false intC 1 (some ⟨kb, ko, none⟩) l, RowA false intC 1 (some ⟨kb2, ko2, none⟩) m]) (fun _ => [(0, .slice (some ⟨kb, ko, none⟩) l.length ac), (1, .slice (some ⟨kb2, ko2, none⟩) m.length bc), (5, .int .i64 (i : Int)), (25, .bool (!decide (f = g)))]) ?_ ?_
  ·
    refine pl_start [] Tryz.mixed ?_; intro hd
    refine pl_lock (A := Bkp _ _ _) Rem.here rfl ?_ hd; intro hb0
    refine pl_lock (A := Bkp _ _ _) Rem.here rfl ?_ hd; intro hb1
    refine pl_take (i := 0) rfl (by kernel_rfl) (y_move rfl) ?_ hd; clear hd; intro hd
    refine pl_take (i := 1) rfl (by kernel_rfl) (y_move rfl) ?_ hd; clear hd; intro hd
    refine pl_take (i := 2) rfl (by kernel_rfl) (y_indexAddr i rfl rfl rfl hlt) ?_ hd; clear hd; intro hd
    refine pl_take (i := 3) rfl (by kernel_rfl) (y_load rfl rfl hg1) ?_ hd; clear hd; intro hd
    refine pl_take (i := 4) rfl (by kernel_rfl) (y_move rfl) ?_ hd; clear hd; intro hd
    refine pl_take (i := 5) rfl (by kernel_rfl) (y_move rfl) ?_ hd; clear hd; intro hd
    refine pl_take (i := 6) rfl (by kernel_rfl) (y_indexAddr i rfl rfl rfl (by omega)) ?_ hd; clear hd; intro hd
    refine pl_take (i := 7) rfl (by kernel_rfl) (y_load rfl rfl hg2) ?_ hd; clear hd; intro hd
    refine pl_take (i := 8) rfl (by kernel_rfl) (y_cmp rfl rfl rfl) ?_ hd; clear hd; intro hd
    refine pl_done (by kernel_rfl) ?_ hd
    refine f_unlock (A := Bkp _ _ _) ?_
    refine f_unlock (A := Bkp _ _ _) ?_
    refine f_cut () ?_ (by repeat (first | exact trivial | refine ⟨rfl, ?_⟩))
    exact Ent.put (P := [Bkp false kb (.cells ⟨cs⟩ T fz)]) (by repeat (first | with_reducible exact Takes.nil | (apply Takes.cons; focus (repeat (first | with_reducible exact Rem.here | apply Rem.there))))) (RowA.shut rfl e2) (Ent.put (P := [Bkp false kb2 (.cells ⟨cs2⟩ T2 fz2)]) (by repeat (first | with_reducible exact Takes.nil | (apply Takes.cons; focus (repeat (first | with_reducible exact Rem.here | apply Rem.there))))) (RowA.shut rfl e4) Ent.nil)
  intro _
  by_cases hfg : f = g
  · subst hfg
    rw [decide_eq_true rfl]
    refine c_false rfl ?_
    refine c_skip ?_
    refine f_block ?_
    refine f_seq ?_
    refine c_region ?_
    refine o_y (y_move rfl) rfl ?_
    refine o_y (y_arith64 rfl rfl rfl (by omega)) rfl ?_
    refine o_y (y_assign rfl) rfl ?_
    refine o_nil ?_
    refine f_next (by repeat (first | with_reducible exact Ent.nil | (apply Ent.one; focus (repeat (first | with_reducible exact Rem.here | apply Rem.there))))) (by repeat (first | exact trivial | refine ⟨rfl, ?_⟩)) (ih (i + 1) ⟨hlt, ?_⟩ (by omega))
    rw [take_snoc' hf, take_snoc' hg, ht]
  · rw [decide_eq_false hfg]
    clear ih
    refine c_true rfl ?_
    refine c_seq ?_
    refine c_region ?_
    refine o_y (y_assign rfl) rfl ?_
    refine o_nil ?_
    refine f_seq ?_
    refine c_ret ?_
    refine f_block_ret ?_
    refine f_seq_ret ?_
    refine f_seq_ret ?_
    refine f_block_ret ?_
    refine f_seq_ret ?_
    refine f_ent (by repeat (first | with_reducible exact Ent.nil | (apply Ent.one; focus (repeat (first | with_reducible exact Rem.here | apply Rem.there))))) (f_ret rfl ⟨false, ⟨fun h => (by cases h), fun h => ?_⟩, rfl, rfl⟩)
    subst h
    rw [hf] at hg; injection hg with hg; exact absurd hg hfg
end Go.Lun

/- The statements of layer 8: the chapter's example, reckoned. -/
namespace Go.Lun
open Go.Proofs

def A0 : PS := PS.begin 20
def A1 : PS := (A0.new 1 0 [[120]]).1
def A2 : PS := (A1.commit 2).1
def A3 : PS := (A2.change 2 1 0 [[121]]).1
def A4 : PS := (A3.commit 3).1
theorem aw1 : (A0.new 1 0 [[120]]).2 = (2, 0) := by kernel_rfl
theorem aw2 : (A1.commit 2).2 = 0 := by kernel_rfl
theorem aw2x : A2.x = ⟨2, 2, 0, 3⟩ := by kernel_rfl
theorem aw3 : (A2.change 2 1 0 [[121]]).2 = (3, 0) := by kernel_rfl
theorem aw4 : (A3.commit 3).2 = 0 := by kernel_rfl
theorem aw4x : A4.x = ⟨3, 3, 4, 5⟩ := by kernel_rfl
theorem aw4f : A4.free = [⟨2, 3⟩] := by kernel_rfl
theorem aw4c : A4.chain = [4] := by kernel_rfl
theorem aw4p : A4.pages = 5 := by kernel_rfl
theorem aw4r : A4.D.pg 5 3 = (0, some ⟨1, 3, 3, 0, [[121]]⟩) := by kernel_rfl
end Go.Lun

/- The statements of layer 8: awake. -/
namespace Go.Lun
open Go.Proofs

section
variable {P : Program} {n : Nat} {ds : List Deferred} {F : Fr} {L : List Asrt} {env : Env} {Q : Post} {ops : Array Oper} {rest : List Oper}
variable {dt : Option Tmp} {ty : TypeId} {pos : String} {af : Array Edge} {g : Option (Nat × Bool)}
theorem IntFs.at {P : Program} : ∀ {fs : List Field} {k i : Nat}, IntFs P fs k → i < fs.length → ∃ f, fs[i]? = some f ∧ f.offset = k + i ∧ ∃ z b, Ty P f.type (.int .i64) z 1 b
  | f :: fs, k, 0, h, _ => ⟨f, rfl, h.1.2.1, h.1.2.2⟩
  | f :: fs, k, i + 1, h, hi => by
    obtain ⟨g, h1, h2, h3⟩ := IntFs.at (i := i) h.2 (by simpa using hi)
    exact ⟨g, by simpa using h1, by omega, h3⟩
theorem y_fieldI {s : TypeId} {x : Operand} {i k : Nat} {v : Value} {vs : List Value} [hI : IntS P s k] (hx : ev env x = some (.agg ⟨vs⟩)) (hi : Nat.blt i k = true) (hv : vs[i]? = some v) : Yld P n ds F L env ⟨dt, .field s x i, ty, pos, af, g⟩ v := .mk fun w a _ kk => by
  have e1 := kk.ev hx
  have hi' : i < (P.fieldsOf s).toList.length := by rw [hI.fields.2]; simpa [Nat.blt_eq] using hi
  obtain ⟨f, h1, h2, z, b, hT⟩ := IntFs.at hI.fields.1 hi'
  have h1' : (P.fieldsOf s)[i]? = some f := by rw [← h1]; exact (Array.getElem?_toList ..).symm
  have hu : (underlying s).run P w = .ok (.struct (P.fieldsOf s)) w := by simp [underlying, hI.und]
  rw [Nat.zero_add] at h2
  simp only [execOp, e1, Instr.field, Sem.run_bind, hu, Result.andThen_ok, h1', asAgg, Sem.run_pure, part, run_isAgg, aggD, Bool.false_eq_true, if_false, List.getElem?_toArray, h2, hv]
end

variable {p d : Nat}

theorem pages_p (S : PS) : ∀ (z : PZ), z.fit S → True := fun _ _ => trivial

set_option maxHeartbeats 12800000 in
theorem awake8_f : Fn Tryz.prog 18 [] [] (fun v L => v = .bool true ∧ L = []) := by
  refine fn_start Tryz.func18 rfl rfl rfl fun F => ?_
  have f0 := fresh_fit 20 (by decide)
  have f1 : AFit A1 6 := by have := f0.act (by decide) ⟨0, 1, 0, 0, 0, 0, none, 0, [[120]]⟩; exact this
  have f2 : AFit A2 7 := by have := f1.act (by decide) ⟨3, 0, 0, 0, 2, 0, none, 0, []⟩; exact this
  have f3 : AFit A3 8 := by have := f2.act (by decide) ⟨1, 1, 0, 2, 0, 0, none, 0, [[121]]⟩; exact this
  have f4 : AFit A4 9 := by have := f3.act (by decide) ⟨3, 0, 0, 0, 3, 0, none, 0, []⟩; exact this
  have w1 := aw1; have w2 := aw2; have w2x := aw2x; have w3 := aw3; have w4 := aw4; have w4x := aw4x; have w4f := aw4f; have w4c := aw4c; have w4p := aw4p; have w4r := aw4r
  have s1 : Small [([120] : Bytes)] := ⟨by decide, by decide⟩
  have s2 : Small [([121] : Bytes)] := ⟨by decide, by decide⟩
  have hx0 : (PS.begin 20).x.e = 1 := rfl
  have e1 : (PS.begin 20).new 1 0 [[120]] = (A1, 2, 0) := Prod.ext rfl w1
  have e2 : A1.commit 2 = (A2, 0) := Prod.ext rfl w2
  have e3 : A2.change 2 1 0 [[121]] = (A3, 3, 0) := Prod.ext rfl w3
  have e4 : A3.commit 3 = (A4, 0) := Prod.ext rfl w4
  clear w1 w2 w3 w4
  generalize A1 = T1 at *
  generalize A2 = T2 at *
  generalize A3 = T3 at *
  generalize A4 = T4 at *
  refine c_seq ?_
  refine c_region ?_
  refine o_y (y_assign rfl) rfl ?_
  refine o_nil ?_
  refine f_seq ?_
  refine c_seq ?_
  refine c_region ?_
  refine o_call rfl (fresh8_f 20 (by decide)) (by repeat (first | with_reducible exact Takes.nil | (apply Takes.cons; focus (repeat (first | with_reducible exact Rem.here | apply Rem.there))))) rfl ?_
  generalize PS.begin 20 = T0 at *
  rintro _ _ ⟨p, d, rfl, rfl⟩
  simp only [List.append_eq, List.cons_append, List.nil_append, List.append_nil, tup]
  refine o_y (y_move rfl) rfl ?_
  refine o_y (y_extract rfl rfl) rfl ?_
  refine o_y (y_extract rfl rfl) rfl ?_
  refine o_y (y_assign rfl) rfl ?_
  refine o_y (y_assign rfl) rfl ?_
  refine o_nil ?_
  refine f_seq ?_
  refine c_seq ?_
  refine c_seq ?_
  refine c_region ?_
  refine o_y (y_move rfl) rfl ?_
  refine o_y (y_eql_nil rfl rfl) rfl ?_
  refine o_y (y_move rfl) rfl ?_
  refine o_want rfl ?_
  refine o_y (y_move rfl) rfl ?_
  refine o_want rfl ?_
  refine o_y (y_eql_nil rfl rfl) rfl ?_
  refine o_y (y_pick_f rfl rfl) rfl ?_
  refine o_y (y_move rfl) rfl ?_
  refine o_want rfl ?_
  refine o_y (y_move rfl) rfl ?_
  refine o_want rfl ?_
  refine o_call rfl (super_p T0) (by repeat (first | with_reducible exact Takes.nil | (apply Takes.cons; focus (repeat (first | with_reducible exact Rem.here | apply Rem.there))))) rfl ?_
  rintro _ _ ⟨rfl, rfl⟩
  simp only [SP.vals, hx0]
  simp only [List.append_eq, List.cons_append, List.nil_append, List.append_nil, tup]
  refine o_want rfl ?_
  refine o_y (y_fieldI rfl rfl rfl) rfl ?_
  refine o_want rfl ?_
  refine o_y (y_neq_f rfl rfl (by omega)) rfl ?_
  refine o_y (y_pick_f rfl rfl) rfl ?_
  refine o_nil ?_
  refine f_seq ?_
  refine c_false rfl ?_
  refine c_skip ?_
  refine f_seq ?_
  refine c_seq ?_
  refine c_region ?_
  refine o_y (y_move rfl) rfl ?_
  refine o_buildSlice rfl rfl rfl rfl rfl (fun nb => ?_)
  rename Nat => nb
  refine o_share (b := nb) (by repeat (first | with_reducible exact Rem.here | apply Rem.there)) ?_
  refine o_ent (M := [PRep p d T0, RowA false strC 1 (some ⟨nb, 0, none⟩) [[120]]]) (Ent.one (by repeat (first | with_reducible exact Rem.here | apply Rem.there)) (Ent.put (P := [Sh nb (.cells ⟨[str [120]]⟩ 9 (0, 0))]) (Takes.cons Rem.here Takes.nil) (RowA.shut rfl rfl) Ent.nil)) ?_
  refine o_call rfl (new_p T0 false (some ⟨nb, 0, none⟩) 1 (203 * 5) 1 0 [[120]] s1 f0.pf (by decide)) (by repeat (first | with_reducible exact Takes.nil | (apply Takes.cons; focus (repeat (first | with_reducible exact Rem.here | apply Rem.there))))) rfl ?_
  rw [e1]
  rintro _ _ ⟨rfl, rfl⟩
  simp only [List.append_eq, List.cons_append, List.nil_append, List.append_nil, tup]
  refine o_y (y_move rfl) rfl ?_
  refine o_y (y_extract rfl rfl) rfl ?_
  refine o_y (y_extract rfl rfl) rfl ?_
  refine o_y (y_assign rfl) rfl ?_
  refine o_y (y_assign rfl) rfl ?_
  refine o_nil ?_
  refine f_seq ?_
  refine c_seq ?_
  refine c_region ?_
  refine o_y (y_move rfl) rfl ?_
  refine o_y (y_move rfl) rfl ?_
  refine o_call rfl (commit_p T1 (203 * 6) 2 f1.pf f1.cf f1.lf (by decide)) (by repeat (first | with_reducible exact Takes.nil | (apply Takes.cons; focus (repeat (first | with_reducible exact Rem.here | apply Rem.there))))) rfl ?_
  rw [e2]
  rintro _ _ ⟨rfl, rfl⟩
  simp only [List.append_eq, List.cons_append, List.nil_append, List.append_nil, tup]
  refine o_y (y_assign rfl) rfl ?_
  refine o_nil ?_
  refine f_seq ?_
  refine c_seq ?_
  refine c_region ?_
  refine o_y (y_move rfl) rfl ?_
  refine o_call rfl (super_p T2) (by repeat (first | with_reducible exact Takes.nil | (apply Takes.cons; focus (repeat (first | with_reducible exact Rem.here | apply Rem.there))))) rfl ?_
  rw [w2x]
  rintro _ _ ⟨rfl, rfl⟩
  simp only [List.append_eq, List.cons_append, List.nil_append, List.append_nil, tup]
  refine o_alloc rfl (fun xb => ?_)
  refine o_store rfl rfl rfl frz0 ?_
  refine o_nil ?_
  refine f_seq ?_
  refine c_seq ?_
  refine c_region ?_
  refine o_y (y_move rfl) rfl ?_
  refine o_y (y_move rfl) rfl ?_
  refine o_buildSlice rfl rfl rfl rfl rfl (fun nb => ?_)
  rename Nat => nb2
  refine o_share (b := nb2) (by repeat (first | with_reducible exact Rem.here | apply Rem.there)) ?_
  refine o_ent (M := [PRep p d T2, RowA false strC 1 (some ⟨nb2, 0, none⟩) [[121]], Blk xb (.cells ⟨[.int .i64 2, .int .i64 2, .int .i64 0, .int .i64 3]⟩ 29 (0, 0))]) (Ent.one (by repeat (first | with_reducible exact Rem.here | apply Rem.there)) (Ent.put (P := [Sh nb2 (.cells ⟨[str [121]]⟩ 9 (0, 0))]) (Takes.cons Rem.here Takes.nil) (RowA.shut rfl rfl) (by repeat (first | with_reducible exact Ent.nil | (apply Ent.one; focus (repeat (first | with_reducible exact Rem.here | apply Rem.there))))))) ?_
  refine o_call rfl (change_p T2 false (some ⟨nb2, 0, none⟩) 1 (203 * 7) 2 1 0 [[121]] s2 f2.pf (by decide)) (by repeat (first | with_reducible exact Takes.nil | (apply Takes.cons; focus (repeat (first | with_reducible exact Rem.here | apply Rem.there))))) rfl ?_
  rw [e3]
  rintro _ _ ⟨rfl, rfl⟩
  simp only [List.append_eq, List.cons_append, List.nil_append, List.append_nil, tup]
  refine o_y (y_move rfl) rfl ?_
  refine o_y (y_extract rfl rfl) rfl ?_
  refine o_y (y_extract rfl rfl) rfl ?_
  refine o_y (y_assign rfl) rfl ?_
  refine o_y (y_assign rfl) rfl ?_
  refine o_nil ?_
  refine f_seq ?_
  refine c_seq ?_
  refine c_region ?_
  refine o_y (y_move rfl) rfl ?_
  refine o_y (y_move rfl) rfl ?_
  refine o_call rfl (commit_p T3 (203 * 8) 3 f3.pf f3.cf f3.lf (by decide)) (by repeat (first | with_reducible exact Takes.nil | (apply Takes.cons; focus (repeat (first | with_reducible exact Rem.here | apply Rem.there))))) rfl ?_
  rw [e4]
  rintro _ _ ⟨rfl, rfl⟩
  simp only [List.append_eq, List.cons_append, List.nil_append, List.append_nil, tup]
  refine o_y (y_assign rfl) rfl ?_
  refine o_nil ?_
  refine f_seq ?_
  refine c_seq ?_
  refine c_region ?_
  refine o_y (y_move rfl) rfl ?_
  refine o_call rfl (free_p T4 (by rw [w4f]; decide)) (by repeat (first | with_reducible exact Takes.nil | (apply Takes.cons; focus (repeat (first | with_reducible exact Rem.here | apply Rem.there))))) rfl ?_
  rw [w4f]
  rintro _ _ ⟨fa, fc, hwf, rfl, rfl⟩
  simp only [List.append_eq, List.cons_append, List.nil_append, List.append_nil, tup]
  refine o_y (y_assign rfl) rfl ?_
  refine o_nil ?_
  refine f_seq ?_
  refine c_seq ?_
  refine c_region ?_
  refine o_y (y_move rfl) rfl ?_
  refine o_y (y_nilCheck rfl) rfl ?_
  refine o_y (y_fieldAddr0 rfl) rfl ?_
  have hpg := f4.pf.pg
  refine o_open (A := PRep p d T4) (by repeat (first | with_reducible exact Rem.here | apply Rem.there)) (fun z hz => ?_)
  obtain ⟨h1, h2, h3⟩ := hz
  obtain ⟨ca, cc, lfa, lfc, la, lc⟩ := z
  dsimp only at h1 h2 h3
  try dsimp only [PZ.frs]
  simp only [List.append_eq, List.cons_append, List.nil_append, List.append_nil, tup]
  refine o_open (A := PCo p d _ _ _ T4) (by repeat (first | with_reducible exact Rem.here | apply Rem.there)) (fun y hy => ?_)
  obtain ⟨rb, s, ga, gc, m, es, ck⟩ := y
  obtain ⟨hwg, him⟩ := hy
  dsimp only at hwg him
  try dsimp only [PY.frs]
  simp only [List.append_eq, List.cons_append, List.nil_append, List.append_nil, tup]
  refine o_y (y_load rfl rfl rfl) rfl ?_
  refine o_y (y_move rfl) rfl ?_
  refine o_call rfl (rread_f rb d s T4.D T4.pages 3 hpg.2.1) (by repeat (first | with_reducible exact Takes.nil | (apply Takes.cons; focus (repeat (first | with_reducible exact Rem.here | apply Rem.there))))) rfl ?_
  rw [w4p, w4r]
  rintro _ _ (⟨hn, _⟩ | ⟨q, qa, qc, hq, herr, hw, rfl, rfl⟩)
  · cases hn
  injection hq with _ hq
  injection hq with hq
  subst hq
  simp only [List.append_eq, List.cons_append, List.nil_append, List.append_nil, tup]
  rw [← w4p]
  refine o_ent (M := [RowA false freeC 2 fa [⟨2, 3⟩], PRep p d T4, RowA false strC 1 qa [[121]], Blk xb (.cells ⟨[.int .i64 2, .int .i64 2, .int .i64 0, .int .i64 3]⟩ 29 (0, 0))]) ?_ ?_
  · refine Ent.one (by repeat (first | with_reducible exact Rem.here | apply Rem.there)) ?_
    refine (Ent.put (by repeat (first | with_reducible exact Takes.nil | (apply Takes.cons; focus (repeat (first | with_reducible exact Rem.here | apply Rem.there))))) (PCo.mk T4 (by exact ⟨rfl, rfl, rfl, rfl, rfl, rfl, rfl⟩) hwg him) (Ent.refl _)).trans ?_
    exact Ent.put (by repeat (first | with_reducible exact Takes.nil | (apply Takes.cons; focus (repeat (first | with_reducible exact Rem.here | apply Rem.there))))) (PRep.mk T4 (by exact ⟨rfl, rfl, rfl, rfl, rfl, rfl, rfl⟩) h1 h2 h3) (by repeat (first | with_reducible exact Ent.nil | (apply Ent.one; focus (repeat (first | with_reducible exact Rem.here | apply Rem.there)))))
  refine o_y (y_move rfl) rfl ?_
  refine o_y (y_extract rfl rfl) rfl ?_
  refine o_y (y_extract rfl rfl) rfl ?_
  refine o_alloc rfl (fun nb => ?_)
  refine o_store rfl rfl rfl frz0 ?_
  refine o_y (y_assign rfl) rfl ?_
  refine o_nil ?_
  refine f_seq ?_
  refine c_seq ?_
  refine c_region ?_
  refine o_y (y_move rfl) rfl ?_
  refine o_y (y_eql_t rfl rfl (by omega)) rfl ?_
  refine o_y (y_move rfl) rfl ?_
  refine o_want rfl ?_
  refine o_y (y_move rfl) rfl ?_
  refine o_want rfl ?_
  refine o_y (y_eql_t rfl rfl (by omega)) rfl ?_
  refine o_y (y_pick_t rfl rfl) rfl ?_
  refine o_y (y_move rfl) rfl ?_
  refine o_want rfl ?_
  refine o_y (y_move rfl) rfl ?_
  refine o_want rfl ?_
  refine o_y (y_eql_t rfl rfl (by omega)) rfl ?_
  refine o_y (y_pick_t rfl rfl) rfl ?_
  refine o_y (y_move rfl) rfl ?_
  refine o_want rfl ?_
  refine o_y (y_fieldAddr0 rfl) rfl ?_
  refine o_want rfl ?_
  refine o_y (y_load rfl rfl rfl) rfl ?_
  refine o_want rfl ?_
  refine o_y (y_eql_t rfl rfl (by omega)) rfl ?_
  refine o_y (y_pick_t rfl rfl) rfl ?_
  refine o_y (y_move rfl) rfl ?_
  refine o_want rfl ?_
  refine o_y (y_fieldAddr0 rfl) rfl ?_
  refine o_want rfl ?_
  refine o_y (y_load rfl rfl rfl) rfl ?_
  refine o_want rfl ?_
  refine o_y (y_eql_t rfl rfl (by omega)) rfl ?_
  refine o_y (y_pick_t rfl rfl) rfl ?_
  refine o_y (y_move rfl) rfl ?_
  refine o_want rfl ?_
  refine o_y (y_move rfl) rfl ?_
  refine o_want rfl ?_
  refine o_y (y_eql_t rfl rfl (by omega)) rfl ?_
  refine o_y (y_pick_t rfl rfl) rfl ?_
  refine o_y (y_move rfl) rfl ?_
  refine o_want rfl ?_
  refine o_y (y_move rfl) rfl ?_
  refine o_want rfl ?_
  refine o_y (y_eql_t rfl rfl (by omega)) rfl ?_
  refine o_y (y_pick_t rfl rfl) rfl ?_
  refine o_y (y_move rfl) rfl ?_
  refine o_want rfl ?_
  refine o_y (y_move rfl) rfl ?_
  refine o_want rfl ?_
  refine o_y (y_eql_t rfl rfl (by omega)) rfl ?_
  refine o_y (y_pick_t rfl rfl) rfl ?_
  refine o_y (y_move rfl) rfl ?_
  refine o_want rfl ?_
  refine o_y (y_move rfl) rfl ?_
  refine o_want rfl ?_
  refine o_call rfl (super_p T4) (by repeat (first | with_reducible exact Takes.nil | (apply Takes.cons; focus (repeat (first | with_reducible exact Rem.here | apply Rem.there))))) rfl ?_
  rw [w4x]
  rintro _ _ ⟨rfl, rfl⟩
  simp only [List.append_eq, List.cons_append, List.nil_append, List.append_nil, tup]
  refine o_want rfl ?_
  refine o_y (y_fieldI rfl rfl rfl) rfl ?_
  refine o_want rfl ?_
  refine o_y (y_cmp rfl rfl rfl) rfl ?_
  refine o_y (y_pick_t rfl rfl) rfl ?_
  refine o_y (y_move rfl) rfl ?_
  refine o_want rfl ?_
  refine o_y (y_move rfl) rfl ?_
  refine o_want rfl ?_
  refine o_y (y_len_slice rfl) rfl ?_
  refine o_want rfl ?_
  refine o_y (y_cmp rfl rfl rfl) rfl ?_
  refine o_y (y_pick_t rfl rfl) rfl ?_
  refine o_y (y_move rfl) rfl ?_
  refine o_want rfl ?_
  refine o_y (y_move rfl) rfl ?_
  refine o_want rfl ?_
  refine o_open (A := RowA false freeC 2 fa [⟨2, 3⟩]) (h := RowA.opens (f := freeC) (by simp)) (by repeat (first | with_reducible exact Rem.here | apply Rem.there)) (fun y2 hy2 => ?_)
  obtain ⟨kb, ko, cs, T, fz⟩ := y2
  obtain ⟨e5, e6⟩ := hy2
  dsimp only at e5 e6
  subst e5
  have hg1 := free_get (i := 0) e6 rfl
  simp only [List.append_eq, List.cons_append, List.nil_append, List.append_nil, tup]
  try refine o_want rfl ?_
  refine o_y (y_indexAddr 0 rfl rfl rfl (by decide)) rfl ?_
  refine o_want rfl ?_
  refine o_y (y_loadN rfl rfl hg1) rfl ?_
  refine o_want rfl ?_
  refine o_y (y_build rfl) rfl ?_
  refine o_want rfl ?_
  refine o_y (y_eql_ints [2, 3] [2, 3] rfl rfl rfl rfl rfl rfl) rfl ?_
  refine o_y (y_pick_t rfl rfl) rfl ?_
  refine o_y (y_move rfl) rfl ?_
  refine o_want rfl ?_
  refine o_y (y_move rfl) rfl ?_
  refine o_want rfl ?_
  refine o_y (y_eql_t rfl rfl (by omega)) rfl ?_
  refine o_y (y_pick_t rfl rfl) rfl ?_
  refine o_y (y_move rfl) rfl ?_
  refine o_want rfl ?_
  refine o_y (y_fieldAddr0 rfl) rfl ?_
  refine o_want rfl ?_
  refine o_y (y_load rfl rfl rfl) rfl ?_
  refine o_want rfl ?_
  refine o_y (y_len_slice rfl) rfl ?_
  refine o_want rfl ?_
  refine o_y (y_cmp rfl rfl rfl) rfl ?_
  refine o_y (y_pick_t rfl rfl) rfl ?_
  refine o_y (y_move rfl) rfl ?_
  refine o_want rfl ?_
  refine o_y (y_fieldAddr0 rfl) rfl ?_
  refine o_want rfl ?_
  refine o_y (y_load rfl rfl rfl) rfl ?_
  refine o_want rfl ?_
  refine o_open (A := RowA false strC 1 qa [[121]]) (h := RowA.opens (f := strC) (by simp)) (by repeat (first | with_reducible exact Rem.here | apply Rem.there)) (fun y2 hy2 => ?_)
  obtain ⟨kb2, ko2, cs2, T2, fz2⟩ := y2
  obtain ⟨e7, e8⟩ := hy2
  dsimp only at e7 e8
  subst e7
  have hg2 := str_get (i := 0) e8 rfl
  simp only [List.append_eq, List.cons_append, List.nil_append, List.append_nil, tup]
  try refine o_want rfl ?_
  refine o_y (y_indexAddr 0 rfl rfl rfl (by decide)) rfl ?_
  refine o_want rfl ?_
  refine o_y (y_load rfl rfl hg2) rfl ?_
  refine o_want rfl ?_
  refine o_y (y_eq_str (op := .eql) (l := [121]) (m := [121]) (c := true) rfl rfl rfl) rfl ?_
  refine o_y (y_pick_t rfl rfl) rfl ?_
  refine o_y (y_move rfl) rfl ?_
  refine o_want rfl ?_
  refine o_y (y_move rfl) rfl ?_
  refine o_want rfl ?_
  refine o_call rfl (chain_p T4 (by rw [w4c]; decide)) (by repeat (first | with_reducible exact Takes.nil | (apply Takes.cons; focus (repeat (first | with_reducible exact Rem.here | apply Rem.there))))) rfl ?_
  rw [w4c]
  rintro _ _ ⟨ca2, cc2, hwc, rfl, rfl⟩
  simp only [List.append_eq, List.cons_append, List.nil_append, List.append_nil, tup]
  refine o_want rfl ?_
  refine o_y (y_len_slice rfl) rfl ?_
  refine o_want rfl ?_
  refine o_y (y_cmp rfl rfl rfl) rfl ?_
  refine o_y (y_pick_t rfl rfl) rfl ?_
  refine o_y (y_move rfl) rfl ?_
  refine o_want rfl ?_
  refine o_y (y_move rfl) rfl ?_
  refine o_want rfl ?_
  refine o_y (y_nilCheck rfl) rfl ?_
  refine o_want rfl ?_
  refine o_y (y_fieldAddr0 rfl) rfl ?_
  refine o_want rfl ?_
  refine o_open (A := PRep p d T4) (by repeat (first | with_reducible exact Rem.here | apply Rem.there)) (fun z hz => ?_)
  obtain ⟨h1, h2, h3⟩ := hz
  obtain ⟨ca, cc, lfa, lfc, la, lc⟩ := z
  dsimp only at h1 h2 h3
  try dsimp only [PZ.frs]
  simp only [List.append_eq, List.cons_append, List.nil_append, List.append_nil, tup]
  refine o_open (A := PCo p d _ _ _ T4) (by repeat (first | with_reducible exact Rem.here | apply Rem.there)) (fun y hy => ?_)
  obtain ⟨rb, s, ga, gc, m, es, ck⟩ := y
  obtain ⟨hwg, him⟩ := hy
  dsimp only at hwg him
  try dsimp only [PY.frs]
  simp only [List.append_eq, List.cons_append, List.nil_append, List.append_nil, tup]
  refine o_y (y_load rfl rfl rfl) rfl ?_
  refine o_want rfl ?_
  refine o_call rfl (pages_r (d := d) rb s T4.pages) (by repeat (first | with_reducible exact Takes.nil | (apply Takes.cons; focus (repeat (first | with_reducible exact Rem.here | apply Rem.there))))) rfl ?_
  rw [w4p]
  rintro _ _ ⟨rfl, rfl⟩
  simp only [List.append_eq, List.cons_append, List.nil_append, List.append_nil, tup]
  refine o_want rfl ?_
  refine o_y (y_eql_t rfl rfl (by omega)) rfl ?_
  refine o_y (y_pick_t rfl rfl) rfl ?_
  refine o_y (y_assign rfl) rfl ?_
  refine o_nil ?_
  refine f_seq ?_
  refine c_ret ?_
  exact f_ent (by repeat (first | with_reducible exact Ent.nil | (apply Ent.one; focus (repeat (first | with_reducible exact Rem.here | apply Rem.there))))) (f_ret rfl ⟨rfl, rfl⟩)
end Go.Lun

/- What a function does where a block that it reads is held by the frame. -/
namespace Go.Lun

theorem St.frameK {F : Fr} {L P R : List Asrt} {w : World} (s : St F L w) (h : Takes L P R) :
    ∃ F', (∀ b x, F.res b = some x → F'.res b = some x) ∧ St F' P w ∧ ∀ L' w', St F' L' w' → St F (L' ++ R) w' := by
  obtain ⟨h1, h2, h3, r, hc, hf, hr, hs⟩ := s
  obtain ⟨a, b, hab, rfl, ha, hb⟩ := sep_split (h.ent r hs)
  have hFb : Compat F.res b := (hab.join_r hc.symm).symm
  have hFa : Compat F.res a := hc.symm.join_l.symm
  refine ⟨{ F with res := join F.res b }, fun _ _ h => join_some h, ⟨h1, h2, h3, a, .of_join hFa hab.symm, hf.join (hr.right hab), hr.left, ha⟩, ?_⟩
  rintro L' w' ⟨k1, k2, k3, r', kc, kf, kr, ks⟩
  have hbr : Compat b r' := hFb.join_r kc
  exact ⟨k1, k2, k3, join r' b, (Compat.of_join kc.join_l.symm hFb.symm).symm, kf.left, kr.join (kf.right hFb), sep_append hbr.symm ks hb⟩

structure FnK (P : Program) (f : FuncId) (args : List Value) (b : Nat) (o : Obj) (pre : List Asrt) (R : Value → List Asrt → Prop) : Prop where
  out : ∀ F w, FFind F b o → St F pre w → Calls P f ⟨args⟩ w fun e w' => ∃ v L', e = .returned v ∧ R v L' ∧ St F L' w'

section
variable {P : Program} {n : Nat} {ds : List Deferred} {F : Fr} {L : List Asrt} {env : Env} {Q : Post} {ops : Array Oper} {rest : List Oper}
variable {dt : Option Tmp} {ty : TypeId} {pos : String} {af : Array Edge} {g : Option (Nat × Bool)}
theorem fnK_start {f : FuncId} {fn : Func} {c : Code} {args : List Value} {b : Nat} {o : Obj} {pre : List Asrt} {R : Value → List Asrt → Prop} (hf : P.funcs[f]? = some fn) (hb : fn.body = some c) (hn : fn.ntmps = n)
    (hl : Nat.ble args.length n = true) (h : ∀ F, FFind F b o → CodeJ P n [] F pre (argEnv 0 args) c (FnPost P fn F R)) : FnK P f args b o pre R := .mk fun F w hF s => by
  refine (callsIn_wide (n := 0)).1 (callsIn_of_wp_marks (F := fe none) hf hb trivial (wpIn_mono ((h { F with ro := none } ⟨hF.out⟩).out w _ s ⟨?_, rfl, ?_⟩) ?_))
  · have := Nat.le_of_ble_eq_true hl
    simp [hn]; omega
  · intro t v ht
    obtain ⟨_, h2⟩ := look_argEnv ht
    have hlt : t < args.length := by
      rcases Nat.lt_or_ge t args.length with h | h
      · exact h
      · simp [List.getElem?_eq_none h] at h2
    simp [Array.getElem?_append, hlt]
    simpa [hlt] using h2
  · intro e a w hq
    cases e with
    | normal => exact hq
    | ret => exact hq
    | _ => exact hq.elim
theorem o_callK {f : FuncId} {args : Array Operand} {ats : Array TypeId} {vs : List Value} {b : Nat} {o : Obj} {pre M : List Asrt} {R : Value → List Asrt → Prop} [hc : Callee P f] [hb : FFind F b o] (hargs : evs env args.toList = some vs)
    (hf : FnK P f vs b o pre R) (ht : Takes L pre M) (hd : fits n dt = true) (h : ∀ v L', R v L' → OpsJ P n ds F (L' ++ M) (putE env dt v) ops rest Q) :
    OpsJ P n ds F L env ops (⟨dt, .call ⟨.value (.func f), args, ats⟩, ty, pos, af, none⟩ :: rest) Q := .mk fun w a s k => by
  refine wpList_plain rfl fun K hK => ?_
  obtain ⟨F', hsub, s', hback⟩ := s.frameK ht
  have hF' : FFind F' b o := by
    obtain ⟨q, hq⟩ := hb.out
    exact ⟨q, hsub _ _ hq⟩
  have he : (execOp a.eval ⟨dt, .call ⟨.value (.func f), args, ats⟩, ty, pos, af, none⟩).run P w = .ok (.enter f ⟨vs⟩) w := by
    simp [execOp, resolve, k.evsA hargs, Act.eval, Deferred.ofValue, invoke, hc.run]
  unfold Oper.wp
  rw [he, Oper.upon_enter]
  refine (hf.out F' w hF' s').mono fun e w' => ?_
  rintro ⟨v, L', rfl, hR, s''⟩
  exact hK _ _ ((h v L' hR).out w' _ (hback _ _ s'') (k.put hd v))
end
end Go.Lun

/- The pager's own, where its block is held; acts in a row. -/
namespace Go.Lun
open Go.Proofs

section
variable {p d rb m : Nat} {x : SP} {fv cv lf lc : Value} {old lp : Int}

theorem super_k : FnK Tryz.prog 25 [.pointer (some ⟨p, 0, none⟩)] p (pobj rb x fv cv m old lp lf lc) [] (fun v L => v = .agg ⟨x.vals⟩ ∧ L = []) := by
  refine fnK_start Tryz.func25 rfl rfl rfl fun F hF => ?_
  refine c_seq ?_
  refine c_region ?_
  refine o_alloc rfl (fun zb => ?_)
  refine o_nil ?_
  refine f_seq ?_
  refine c_seq ?_
  refine c_region ?_
  refine o_y (y_move rfl) rfl ?_
  refine o_y (y_nilCheck rfl) rfl ?_
  refine o_y (y_fieldAddr0 rfl) rfl ?_
  refine o_y (y_loadN rfl rfl rfl) rfl ?_
  refine o_store rfl rfl rfl frz0 ?_
  refine o_nil ?_
  refine f_seq ?_
  refine c_ret ?_
  exact f_retc rfl rfl rfl rfl rfl (by repeat (first | with_reducible exact Ent.nil | (apply Ent.one; focus (repeat (first | with_reducible exact Rem.here | apply Rem.there))))) ⟨rfl, rfl⟩
theorem free_k {a : Option Addr} {cap : Nat} {l : List FR} (hn : l.length ≤ 1000000) (hw : Wf a l.length cap) : FnK Tryz.prog 27 [.pointer (some ⟨p, 0, none⟩)] p (pobj rb x (.slice a l.length cap) cv m old lp lf lc) [RowA false freeC 2 a l]
    (fun v L => ∃ a' cap', Wf a' l.length cap' ∧ v = .slice a' l.length cap' ∧ L = [RowA false freeC 2 a' l, RowA false freeC 2 a l]) := by
  refine fnK_start Tryz.func27 rfl rfl rfl fun F hF => ?_
  refine c_seq ?_
  refine c_region ?_
  refine o_y (y_assign rfl) rfl ?_
  refine o_nil ?_
  refine f_seq ?_
  refine c_seq ?_
  refine c_region ?_
  refine o_y (y_move rfl) rfl ?_
  refine o_y (y_nilCheck rfl) rfl ?_
  refine o_y (y_fieldAddr0 rfl) rfl ?_
  refine o_y (y_load rfl rfl rfl) rfl ?_
  refine o_call rfl (clonef_f hn hw) (by repeat (first | with_reducible exact Takes.nil | (apply Takes.cons; focus (repeat (first | with_reducible exact Rem.here | apply Rem.there))))) rfl ?_
  rintro _ _ ⟨a', cap', hw', rfl, rfl⟩
  simp only [List.append_eq, List.cons_append, List.nil_append, List.append_nil, tup]
  refine o_y (y_assign rfl) rfl ?_
  refine o_nil ?_
  refine f_seq ?_
  refine c_ret ?_
  exact f_ret rfl ⟨a', cap', hw', rfl, rfl⟩
theorem chain_k {a : Option Addr} {cap : Nat} {l : List Int} (hn : l.length ≤ 1000000) (hw : Wf a l.length cap) : FnK Tryz.prog 29 [.pointer (some ⟨p, 0, none⟩)] p (pobj rb x fv (.slice a l.length cap) m old lp lf lc) [RowA false intC 1 a l]
    (fun v L => ∃ a' cap', Wf a' l.length cap' ∧ v = .slice a' l.length cap' ∧ L = [RowA false intC 1 a' l, RowA false intC 1 a l]) := by
  refine fnK_start Tryz.func29 rfl rfl rfl fun F hF => ?_
  refine c_seq ?_
  refine c_region ?_
  refine o_y (y_assign rfl) rfl ?_
  refine o_nil ?_
  refine f_seq ?_
  refine c_seq ?_
  refine c_region ?_
  refine o_y (y_move rfl) rfl ?_
  refine o_y (y_nilCheck rfl) rfl ?_
  refine o_y (y_fieldAddr0 rfl) rfl ?_
  refine o_y (y_load rfl rfl rfl) rfl ?_
  refine o_call rfl (clonei_f hn hw) (by repeat (first | with_reducible exact Takes.nil | (apply Takes.cons; focus (repeat (first | with_reducible exact Rem.here | apply Rem.there))))) rfl ?_
  rintro _ _ ⟨a', cap', hw', rfl, rfl⟩
  simp only [List.append_eq, List.cons_append, List.nil_append, List.append_nil, tup]
  refine o_y (y_assign rfl) rfl ?_
  refine o_nil ?_
  refine f_seq ?_
  refine c_ret ?_
  exact f_ret rfl ⟨a', cap', hw', rfl, rfl⟩
theorem pages_k {s : Nat} {n : Int} : FnK Tryz.prog 30 [.pointer (some ⟨rb, 0, none⟩)] rb (robj d s n) [] (fun v L => v = .int .i64 n ∧ L = []) := by
  refine fnK_start Tryz.func30 rfl rfl rfl fun F hF => ?_
  refine c_seq ?_
  refine c_region ?_
  refine o_y (y_assign rfl) rfl ?_
  refine o_nil ?_
  refine f_seq ?_
  refine c_seq ?_
  refine c_region ?_
  refine o_y (y_move rfl) rfl ?_
  refine o_y (y_nilCheck rfl) rfl ?_
  refine o_y (y_fieldAddr0 rfl) rfl ?_
  refine o_y (y_load rfl rfl rfl) rfl ?_
  refine o_y (y_assign rfl) rfl ?_
  refine o_nil ?_
  refine f_seq ?_
  refine c_ret ?_
  exact f_ret rfl ⟨rfl, rfl⟩
end

theorem star_dupP {i : Nat} {x : AP} {L : List Asrt} : ∀ {xs : List AP}, xs[i]? = some x → Ent (Star (xs.map fun x => KP x) :: L) (KP x :: Star (xs.map fun x => KP x) :: L) := by
  induction i with
  | zero =>
    intro ps h
    cases ps with
    | nil => cases h
    | cons q ps =>
      simp only [List.getElem?_cons_zero, Option.some.injEq] at h
      subst h
      rw [List.map_cons]
      exact ((Ent.star_cons.app (N := L)).trans RowA.dup).trans (Ent.cons (Ent.cons_star.app (N := L)))
  | succ i ih =>
    intro ps h
    cases ps with
    | nil => cases h
    | cons q ps =>
      rw [List.getElem?_cons_succ] at h
      rw [List.map_cons]
      refine ((Ent.star_cons.app (N := L)).trans (Ent.cons (ih h))).trans ?_
      refine (Ent.perm (List.Perm.swap _ _ _)).trans (Ent.cons ?_)
      exact Ent.cons_star.app (N := L)
/-- Acts that are arguments. -/
abbrev Acts (a : Option Addr) (xs : List AP) : List Asrt := [RowA false AP.cellsV 7 a xs, Star (xs.map fun x => KP x)]
theorem act_get {l : List AP} {cs : List Value} {off i : Nat} {s : AP} (h : getN cs off (l.length * 7) = some (l.flatMap AP.cellsV)) (hs : l[i]? = some s) : getN cs (off + i * 7) 7 = some s.cellsV :=
  getN_sub h (flat_get AP.cellsV 7 (fun _ => rfl) hs)
/-- The acts done that aren't too great. -/
def PS.acts (S : PS) (xs : List AP) : PS := xs.foldl (fun S x => if x.few = true then (S.act x).1 else S) S
theorem acts_snoc {S : PS} {xs : List AP} {i : Nat} {x : AP} (h : xs[i]? = some x) : S.acts (xs.take (i + 1)) = if x.few = true then ((S.acts (xs.take i)).act x).1 else S.acts (xs.take i) := by
  unfold PS.acts; rw [take_snoc' h, List.foldl_append]; rfl
theorem AFit.up {S : PS} {n m : Nat} (h : AFit S n) (hm : n ≤ m) : AFit S m := ⟨h.pf.up (by omega), h.cf, h.lf, by have := h.e; omega, h.old⟩
theorem acts_fit {S : PS} {n : Nat} (h : AFit S n) : ∀ (xs : List AP), n + xs.length ≤ 900000 → AFit (S.acts xs) (n + xs.length) := by
  have key : ∀ (xs : List AP) (S : PS) (n : Nat), AFit S n → n + xs.length ≤ 900000 → AFit (S.acts xs) (n + xs.length) := fun xs => by
    induction xs with
    | nil => intro S n h _; exact h
    | cons x xs ih =>
      intro S n h hl
      rw [List.length_cons] at hl ⊢
      have := ih (if x.few = true then (S.act x).1 else S) (n + 1) (by split; exact h.act (by omega) x; exact h.up (by omega)) (by omega)
      rw [show n + (xs.length + 1) = n + 1 + xs.length by omega]
      exact this
  exact fun xs hl => key xs S n h hl
end Go.Lun

/- The statements of layer 8: pages that are the same; a page made and read. -/
namespace Go.Lun
open Go.Proofs

set_option maxHeartbeats 6400000 in
theorem same4_f (p : PG) (a b : Option Addr) (ac bc : Nat) (q1 q2 : Bool) (hs : p.cells.length ≤ 1000000) : Fn Tryz.prog 33 [.agg ⟨p.vals a ac⟩, .agg ⟨p.vals b bc⟩] [RowA q1 strC 1 a p.cells, RowA q2 strC 1 b p.cells]
    (fun v L => v = .bool true ∧ L = [RowA q1 strC 1 a p.cells, RowA q2 strC 1 b p.cells]) := by
  refine fn_start Tryz.func33 rfl rfl rfl fun F => ?_
  obtain ⟨kind, no, epoch, link, cells⟩ := p
  dsimp only [PG.vals] at hs ⊢
  refine c_seq ?_
  refine c_region ?_
  refine o_box rfl rfl (fun xb => ?_)
  refine o_box rfl rfl (fun yb => ?_)
  refine o_y (y_assign rfl) rfl ?_
  refine o_nil ?_
  refine f_seq ?_
  refine c_seq ?_
  refine c_seq ?_
  refine c_region ?_
  refine o_y (y_fieldAddr0 rfl) rfl ?_
  refine o_y (y_load rfl rfl rfl) rfl ?_
  refine o_y (y_fieldAddr0 rfl) rfl ?_
  refine o_y (y_load rfl rfl rfl) rfl ?_
  refine o_y (y_neq_f rfl rfl (by omega)) rfl ?_
  refine o_y (y_move rfl) rfl ?_
  refine o_want rfl ?_
  refine o_y (y_fieldAddr0 rfl) rfl ?_
  refine o_want rfl ?_
  refine o_y (y_load rfl rfl rfl) rfl ?_
  refine o_want rfl ?_
  refine o_y (y_fieldAddr0 rfl) rfl ?_
  refine o_want rfl ?_
  refine o_y (y_load rfl rfl rfl) rfl ?_
  refine o_want rfl ?_
  refine o_y (y_neq_f rfl rfl (by omega)) rfl ?_
  refine o_y (y_pick_f rfl rfl) rfl ?_
  refine o_y (y_move rfl) rfl ?_
  refine o_want rfl ?_
  refine o_y (y_fieldAddr0 rfl) rfl ?_
  refine o_want rfl ?_
  refine o_y (y_load rfl rfl rfl) rfl ?_
  refine o_want rfl ?_
  refine o_y (y_fieldAddr0 rfl) rfl ?_
  refine o_want rfl ?_
  refine o_y (y_load rfl rfl rfl) rfl ?_
  refine o_want rfl ?_
  refine o_y (y_neq_f rfl rfl (by omega)) rfl ?_
  refine o_y (y_pick_f rfl rfl) rfl ?_
  refine o_y (y_move rfl) rfl ?_
  refine o_want rfl ?_
  refine o_y (y_fieldAddr0 rfl) rfl ?_
  refine o_want rfl ?_
  refine o_y (y_load rfl rfl rfl) rfl ?_
  refine o_want rfl ?_
  refine o_y (y_fieldAddr0 rfl) rfl ?_
  refine o_want rfl ?_
  refine o_y (y_load rfl rfl rfl) rfl ?_
  refine o_want rfl ?_
  refine o_y (y_neq_f rfl rfl (by omega)) rfl ?_
  refine o_y (y_pick_f rfl rfl) rfl ?_
  refine o_y (y_move rfl) rfl ?_
  refine o_want rfl ?_
  refine o_y (y_fieldAddr0 rfl) rfl ?_
  refine o_want rfl ?_
  refine o_y (y_load rfl rfl rfl) rfl ?_
  refine o_want rfl ?_
  refine o_y (y_len_slice rfl) rfl ?_
  refine o_want rfl ?_
  refine o_y (y_fieldAddr0 rfl) rfl ?_
  refine o_want rfl ?_
  refine o_y (y_load rfl rfl rfl) rfl ?_
  refine o_want rfl ?_
  refine o_y (y_len_slice rfl) rfl ?_
  refine o_want rfl ?_
  refine o_y (y_neq_f rfl rfl (by omega)) rfl ?_
  refine o_y (y_pick_f rfl rfl) rfl ?_
  refine o_nil ?_
  refine f_seq ?_
  refine c_false rfl ?_
  refine c_skip ?_
  refine f_seq ?_
  refine c_seq ?_
  refine c_seq ?_
  refine c_region ?_
  refine o_y (y_assign rfl) rfl ?_
  refine o_nil ?_
  refine f_seq ?_
  refine c_block ?_
  refine c_loop_inv (X := Nat) (fun i => i ≤ cells.length) (fun i => cells.length - i)
    (fun i => [Blk xb (.cells ⟨[.int .i64 kind, .int .i64 no, .int .i64 epoch, .int .i64 link, .slice a cells.length ac]⟩ 65 (0, 0)), Blk yb (.cells ⟨[.int .i64 kind, .int .i64 no, .int .i64 epoch, .int .i64 link, .slice b cells.length bc]⟩ 65 (0, 0)), RowA q1 strC 1 a cells, RowA q2 strC 1 b cells])
    (fun i => [(2, .pointer (some ⟨xb, 0, none⟩)), (3, .pointer (some ⟨yb, 0, none⟩)), (5, .int .i64 (i : Int))]) 0 (Nat.zero_le _) (by repeat (first | with_reducible exact Ent.nil | (apply Ent.one; focus (repeat (first | with_reducible exact Rem.here | apply Rem.there))))) (by repeat (first | exact trivial | refine ⟨rfl, ?_⟩)) ?_
  intro i hi ih
  by_cases hlt : i < cells.length
  case neg =>
    clear ih
    refine c_seq ?_
    refine c_seq ?_
    refine c_region ?_
    refine o_y (y_move rfl) rfl ?_
    refine o_y (y_fieldAddr0 rfl) rfl ?_
    refine o_y (y_load rfl rfl rfl) rfl ?_
    refine o_y (y_len_slice rfl) rfl ?_
    refine o_y (y_lss_f rfl rfl (by omega)) rfl ?_
    refine o_nil ?_
    refine f_seq ?_
    refine c_false rfl ?_
    refine c_exit ?_
    refine f_seq_exit ?_
    refine f_seq_exit ?_
    refine f_block_here ?_
    refine f_seq ?_
    refine c_seq ?_
    refine c_region ?_
    refine o_y (y_assign rfl) rfl ?_
    refine o_nil ?_
    refine f_seq ?_
    refine c_ret ?_
    exact f_ent (by repeat (first | with_reducible exact Ent.nil | (apply Ent.one; focus (repeat (first | with_reducible exact Rem.here | apply Rem.there))))) (f_ret rfl ⟨rfl, rfl⟩)
  obtain ⟨c, hc⟩ : ∃ c, cells[i]? = some c := ⟨_, List.getElem?_eq_getElem hlt⟩
  have hne : cells ≠ [] := by intro h; rw [h] at hlt; exact absurd hlt (by simp)
  refine c_open (A := RowA q1 strC 1 a cells) (h := RowA.opens (f := strC) hne) (by apply Rem.there; apply Rem.there; exact Rem.here) (fun y hy2 => ?_)
  obtain ⟨kb, ko, cs, T, fz⟩ := y
  obtain ⟨e1, e2⟩ := hy2
  dsimp only at e1 e2
  subst e1
  have hg1 := str_get e2 hc
  simp only [List.append_eq, List.cons_append, List.nil_append, List.append_nil, tup]
  refine c_open (A := RowA q2 strC 1 b cells) (h := RowA.opens (f := strC) hne) (by repeat (first | with_reducible exact Rem.here | apply Rem.there)) (fun y hy2 => ?_)
  obtain ⟨kb2, ko2, cs2, T2, fz2⟩ := y
  obtain ⟨e3, e4⟩ := hy2
  dsimp only at e3 e4
  subst e3
  have hg2 := str_get e4 hc
  simp only [List.append_eq, List.cons_append, List.nil_append, List.append_nil, tup]
  refine c_seq ?_
  refine c_seq ?_
  refine c_region ?_
  refine o_y (y_move rfl) rfl ?_
  refine o_y (y_fieldAddr0 rfl) rfl ?_
  refine o_y (y_load rfl rfl rfl) rfl ?_
  refine o_y (y_len_slice rfl) rfl ?_
  refine o_y (y_lss_t rfl rfl (by omega)) rfl ?_
  refine o_nil ?_
  refine f_seq ?_
  refine c_true rfl ?_
  refine c_skip ?_
  refine f_seq ?_
  refine c_seq ?_
  refine c_block ?_
  refine c_seq ?_
  refine c_ent (M := [Blk xb (.cells ⟨[.int .i64 kind, .int .i64 no, .int .i64 epoch, .int .i64 link, .slice (some ⟨kb, ko, none⟩) cells.length ac]⟩ 65 (0, 0)), Blk yb (.cells ⟨[.int .i64 kind, .int .i64 no, .int .i64 epoch, .int .i64 link, .slice (some ⟨kb2, ko2, none⟩) cells.length bc]⟩ 65 (0, 0)), Bkp q1 kb (.cells ⟨cs⟩ T fz), Bkp q2 kb2 (.cells ⟨cs2⟩ T2 fz2)]) (by repeat (first | with_reducible exact Ent.nil | (apply Ent.one; focus (repeat (first | with_reducible exact Rem.here | apply Rem.there))))) ?_
  refine pl_start [] Tryz.mixed ?_; intro hd
  refine pl_lock (A := Bkp _ _ _) Rem.here rfl ?_ hd; intro hb0
  refine pl_lock (A := Bkp _ _ _) Rem.here rfl ?_ hd; intro hb1
  refine pl_lock (A := Bkp _ _ _) Rem.here rfl ?_ hd; intro hb2
  refine pl_lock (A := Bkp _ _ _) Rem.here rfl ?_ hd; intro hb3
  refine pl_take (i := 0) rfl (by kernel_rfl) (y_fieldAddr0 rfl) ?_ hd; clear hd; intro hd
  refine pl_take (i := 1) rfl (by kernel_rfl) (y_load rfl rfl rfl) ?_ hd; clear hd; intro hd
  refine pl_take (i := 2) rfl (by kernel_rfl) (y_move rfl) ?_ hd; clear hd; intro hd
  refine pl_take (i := 3) rfl (by kernel_rfl) (y_indexAddr i rfl rfl rfl hlt) ?_ hd; clear hd; intro hd
  refine pl_take (i := 4) rfl (by kernel_rfl) (y_load rfl rfl hg1) ?_ hd; clear hd; intro hd
  refine pl_take (i := 5) rfl (by kernel_rfl) (y_fieldAddr0 rfl) ?_ hd; clear hd; intro hd
  refine pl_take (i := 6) rfl (by kernel_rfl) (y_load rfl rfl rfl) ?_ hd; clear hd; intro hd
  refine pl_take (i := 7) rfl (by kernel_rfl) (y_move rfl) ?_ hd; clear hd; intro hd
  refine pl_take (i := 8) rfl (by kernel_rfl) (y_indexAddr i rfl rfl rfl hlt) ?_ hd; clear hd; intro hd
  refine pl_take (i := 9) rfl (by kernel_rfl) (y_load rfl rfl hg2) ?_ hd; clear hd; intro hd
  refine pl_take (i := 10) rfl (by kernel_rfl) (y_eq_str (op := .neq) (l := c) (m := c) (c := false) rfl rfl (by simp)) ?_ hd; clear hd; intro hd
  refine pl_done (by kernel_rfl) ?_ hd
  refine f_unlock (A := Bkp _ _ _) ?_
  refine f_unlock (A := Bkp _ _ _) ?_
  refine f_unlock (A := Bkp _ _ _) ?_
  refine f_unlock (A := Bkp _ _ _) ?_
  refine f_seq ?_
  refine c_false rfl ?_
  refine c_skip ?_
  refine f_block ?_
  refine f_seq ?_
  refine c_region ?_
  refine o_y (y_move rfl) rfl ?_
  refine o_y (y_arith64 rfl rfl rfl (by omega)) rfl ?_
  refine o_y (y_assign rfl) rfl ?_
  refine o_nil ?_
  refine f_next ?_ (by repeat (first | exact trivial | refine ⟨rfl, ?_⟩)) (ih (i + 1) hlt (by omega))
  refine Ent.one (by repeat (first | with_reducible exact Rem.here | apply Rem.there)) (Ent.one (by repeat (first | with_reducible exact Rem.here | apply Rem.there)) ?_)
  exact Ent.put (P := [Bkp q1 kb (.cells ⟨cs⟩ T fz)]) (by repeat (first | with_reducible exact Takes.nil | (apply Takes.cons; focus (repeat (first | with_reducible exact Rem.here | apply Rem.there))))) (RowA.shut rfl e2) (Ent.put (P := [Bkp q2 kb2 (.cells ⟨cs2⟩ T2 fz2)]) (by repeat (first | with_reducible exact Takes.nil | (apply Takes.cons; focus (repeat (first | with_reducible exact Rem.here | apply Rem.there))))) (RowA.shut rfl e4) Ent.nil)

/-! ### How many pages there are -/

/-- What a telling takes. -/
theorem take_le (S : PS) : S.take.1.pages ≤ S.pages + 1 := by
  unfold PS.take
  split
  · show S.pages ≤ _; omega
  · split
    · show S.pages ≤ _; omega
    · exact Int.le_refl _
theorem take_none (S : PS) (h : S.take.2.2 ≠ 0) : S.take.1 = S := by
  unfold PS.take at h ⊢
  split
  · rename_i h1; rw [h1] at h; exact absurd rfl h
  · rename_i h1
    rw [h1] at h
    dsimp only at h ⊢
    split
    · rfl
    · rename_i h2; rw [if_neg h2] at h; exact absurd rfl h
theorem lay_pages {k : Nat} (S : PS) (h : PFit S k) (hc : CFit S) : S.lay.1.pages - S.lay.1.chain.length ≤ S.pages - S.chain.length ∧ (S.lay.1.chain.length = S.chain.length ∨ 22 * (S.lay.1.chain.length : Int) < S.pages - S.chain.length + 20) := by
  have hfl := h.sf.len2 h.lt h.pg.1
  have htl := take_le S
  rw [PS.lay]
  split
  · rename_i hm
    split
    · rename_i he
      rw [take_none S he]
      exact ⟨Int.le_refl _, .inl rfl⟩
    · rename_i he
      have he : S.take.2.2 = 0 := by simpa using he
      obtain ⟨h1, h2⟩ := h.link hc he hm
      have h3 := (take_len S)
      have hll : S.link.chain.length = S.chain.length + 1 := by show (S.take.1.chain ++ [S.take.2.1]).length = _; rw [h3.2, List.length_append]; rfl
      have hlp : S.link.pages = S.take.1.pages := rfl
      obtain ⟨i1, i2⟩ := lay_pages S.link h1 h2
      rw [hll, hlp] at i1 i2
      refine ⟨by omega, ?_⟩
      rcases i2 with i2 | i2
      · right; rw [i2]; omega
      · right; omega
  · exact ⟨Int.le_refl _, .inl rfl⟩
termination_by S.free.length - S.chain.length * 23
decreasing_by
  have := take_len S
  simp only [PS.link, List.length_append, List.length_cons, List.length_nil, this.2]
  omega
theorem relay_pages {S : PS} {k : Nat} (h : PFit S k) (hc : CFit S) : S.relay.1.pages ≤ S.pages ∨ ∃ c : Nat, S.relay.1.pages ≤ S.pages + c ∧ 22 * (c : Int) < S.pages + 20 := by
  obtain ⟨h1, h2⟩ := h.freed hc
  obtain ⟨i1, i2⟩ := lay_pages S.freed h1 h2
  have e1 : S.freed.pages = S.pages := rfl
  have e2 : S.freed.chain.length = 0 := rfl
  rw [e1, e2] at i1 i2
  have key : S.freed.lay.1.pages ≤ S.pages ∨ ∃ c : Nat, S.freed.lay.1.pages ≤ S.pages + c ∧ 22 * (c : Int) < S.pages + 20 := by
    rcases i2 with i2 | i2
    · left; omega
    · right; exact ⟨S.freed.lay.1.chain.length, by omega, by omega⟩
  unfold PS.relay
  split
  · exact key
  · dsimp only
    rw [(wr_up S.freed.lay.1 _).1]
    exact key
theorem new_le (S : PS) (kind link : Int) (cells : List Bytes) : (S.new kind link cells).1.pages ≤ S.pages + 1 := by
  have := take_le S
  unfold PS.new
  split
  · show S.pages ≤ _; omega
  · split
    · exact this
    · split
      · dsimp only; rw [(write_up _ _ _ _ _).1]; exact this
      · dsimp only; rw [(write_up _ _ _ _ _).1]; exact this
theorem change_le (S : PS) (no kind link : Int) (cells : List Bytes) : (S.change no kind link cells).1.pages ≤ S.pages + 1 := by
  have := new_le S kind link cells
  unfold PS.change
  split
  · split
    · split
      · dsimp only; rw [(write_up _ _ _ _ _).1]; omega
      · dsimp only; rw [(write_up _ _ _ _ _).1]; omega
    · split
      · exact this
      · dsimp only; rw [(drop_up _ _).1]; exact this
  · dsimp only; omega
/-- So many pages at most, so many on the disk. -/
structure PB (S : PS) (b most : Int) : Prop where
  pages : S.pages ≤ b
  lpages : S.lpages ≤ b
  most : S.D.most = most
theorem PB.mono {S : PS} {b c most : Int} (h : PB S b most) (hc : b ≤ c) : PB S c most := ⟨by have := h.pages; omega, by have := h.lpages; omega, h.most⟩
theorem PB.act {S : PS} {n : Nat} {b most : Int} (h : PB S b most) (hf : AFit S n) (hb : b ≤ 67) (x : AP) : PB (S.act x).1 (b + 3) most := by
  have hp := h.pages
  have hl := h.lpages
  unfold PS.act
  split
  · have := new_le S x.of_ x.link x.cells
    obtain ⟨u1, u2, u3, u4⟩ := new_up S x.of_ x.link x.cells
    exact ⟨by omega, by rw [(same_new ..).lpages]; omega, u3.trans h.most⟩
  · split
    · have := change_le S x.no x.of_ x.link x.cells
      obtain ⟨u1, u2, u3, u4⟩ := change_up S x.no x.of_ x.link x.cells
      exact ⟨by omega, by rw [(same_change ..).lpages]; omega, u3.trans h.most⟩
    · split
      · obtain ⟨u1, u2, u3⟩ := drop_up S x.no
        exact ⟨by dsimp only; omega, by dsimp only; rw [(same_drop ..).lpages]; omega, by dsimp only; rw [u2]; exact h.most⟩
      · split
        · obtain ⟨r1, r2, r3, r4, r5, r6⟩ := relay_fit hf.pf hf.cf
          have hr : S.relay.1.pages ≤ b + 3 := by
            rcases relay_pages hf.pf hf.cf with h1 | ⟨c, h1, h2⟩ <;> omega
          unfold PS.commit
          split
          · exact ⟨by dsimp only; omega, by dsimp only; omega, h.most⟩
          · split
            · exact ⟨by show S.relay.1.lpages ≤ _; rw [r6.lpages]; omega, by show S.relay.1.lpages ≤ _; rw [r6.lpages]; omega, r5.trans h.most⟩
            · exact ⟨hr, hr, r5.trans h.most⟩
        · split
          · exact ⟨by show S.lpages ≤ _; omega, by show S.lpages ≤ _; omega, h.most⟩
          · split
            · exact ⟨by show S.pages ≤ _; omega, by show S.lpages ≤ _; omega, h.most⟩
            · exact ⟨by dsimp only; omega, by dsimp only; omega, h.most⟩
theorem begin_pb (most : Int) : PB (PS.begin most) 2 most := ⟨Int.le_refl _, Int.le_refl _, rfl⟩
theorem acts_pb {S : PS} {n : Nat} {b most : Int} (h : PB S b most) (hf : AFit S n) : ∀ (xs : List AP), n + xs.length ≤ 900000 → b + 3 * xs.length ≤ 70 → PB (S.acts xs) (b + 3 * xs.length) most := by
  have key : ∀ (xs : List AP) (S : PS) (n : Nat) (b : Int), PB S b most → AFit S n → n + xs.length ≤ 900000 → b + 3 * xs.length ≤ 70 → PB (S.acts xs) (b + 3 * xs.length) most := fun xs => by
    induction xs with
    | nil => intro S n b h _ _ _; rw [show b + 3 * (([] : List AP).length : Int) = b by simp]; exact h
    | cons x xs ih =>
      intro S n b h hf hl hb
      rw [List.length_cons] at hl hb ⊢
      have := ih (if x.few = true then (S.act x).1 else S) (n + 1) (b + 3) (by split; exact h.act hf (by omega) x; exact h.mono (by omega)) (by split; exact hf.act (by omega) x; exact hf.up (by omega)) (by omega) (by omega)
      rw [show b + 3 * ((xs.length + 1 : Nat) : Int) = b + 3 + 3 * (xs.length : Int) by omega]
      exact this
  exact fun xs hl hb => key xs S n b h hf hl hb

/-! ### Pages made one behind another -/

theorem read_write (D : DS) (no x : Int) (l : Bytes) : (D.write no l).read x = if x = no then l else D.read x := by
  unfold DS.read DS.write upd
  dsimp only
  split
  · rename_i h1; split at h1
    · rename_i h2; injection h1 with h1; rw [if_pos h2, h1]
    · rename_i h2; rw [if_neg h2, h1]
  · rename_i h1; split at h1
    · cases h1
    · rename_i h2; rw [if_neg h2, h1]
theorem take_read (S : PS) (x : Int) : S.take.1.D.read x = S.D.read x := by
  unfold PS.take
  split
  · rfl
  · split <;> rfl
theorem take_free {S : PS} {k : Nat} (h : PFit S k) (he : S.take.2.2 = 0) : (∀ f ∈ S.take.1.free, f ∈ S.free ∧ f.p ≠ S.take.2.1) ∧ ((∃ f ∈ S.free, f.p = S.take.2.1) ∨ S.take.2.1 = S.pages) := by
  unfold PS.take at he ⊢
  cases ht : takeF S.free S.oldest with
  | some qm =>
    obtain ⟨q, m⟩ := qm
    obtain ⟨h1, ⟨f, hf, h2, _⟩, h3, _⟩ := takeF_mem h.sf ht
    exact ⟨fun g hg => (h3 g).1 hg, .inl ⟨f, hf, h2⟩⟩
  | none =>
    rw [ht] at he
    dsimp only at he ⊢
    split
    · rename_i h1; rw [if_pos h1] at he; exact absurd (show (82 : Int) = 0 from he) (by decide)
    · exact ⟨fun g hg => ⟨hg, by have := h.lt g hg; dsimp only; omega⟩, .inr rfl⟩
theorem take_ok {S : PS} (h : S.pages + 1 ≤ S.D.most) : S.take.2.2 = 0 := by
  unfold PS.take
  split
  · rfl
  · rw [if_neg (by omega)]
theorem new_ok {S : PS} {k : Nat} (h : PFit S k) {kind link : Int} {cells : List Bytes} (he : (S.page 0 kind link cells).err = 0) (ht : S.take.2.2 = 0) :
    S.new kind link cells = ({ S.take.1 with D := S.take.1.D.write S.take.2.1 (S.page S.take.2.1 kind link cells).bytes }, S.take.2.1, 0) ∧ (S.page S.take.2.1 kind link cells).err = 0 := by
  obtain ⟨t1, t2, t3⟩ := h.take
  obtain ⟨n1, n2⟩ := t2 ht
  have hp := t1.pg
  have hm := t1.most
  obtain ⟨e1, e2, e3⟩ := err_zero he
  have herr : (S.page S.take.2.1 kind link cells).err = 0 := by
    unfold PG.err fitsP
    obtain ⟨a1, a2, a3, a4, a5, a6, a7, a8⟩ := e3
    rw [if_pos, if_pos ⟨a1, a2, by show 0 ≤ S.take.2.1; omega, by show S.take.2.1 ≤ _; omega, a5, a6, a7, a8⟩]
    simp only [Bool.and_eq_true, decide_eq_true_eq, List.all_eq_true]
    exact ⟨e1, e2⟩
  have hw : S.take.1.write S.take.2.1 kind link cells = ({ S.take.1 with D := S.take.1.D.write S.take.2.1 (S.page S.take.2.1 kind link cells).bytes }, 0) := by
    have hpg : S.take.1.page S.take.2.1 kind link cells = S.page S.take.2.1 kind link cells := by unfold PS.page; rw [t3]
    unfold PS.write
    rw [hpg, if_pos herr]
  refine ⟨?_, herr⟩
  unfold PS.new
  rw [if_neg (fun h => h he), if_neg (fun h => h ht), hw, if_neg (fun h => h rfl)]
end Go.Lun

/- PagerNumbers: pages made one behind another, in plain words. -/
namespace Go.Lun
open Go.Proofs

/-- Pages made one behind another. -/
def PS.mks (S : PS) (ls : List Bytes) : PS × List Int := ls.foldl (fun r c => ((r.1.new 1 0 [c]).1, r.2 ++ [(r.1.new 1 0 [c]).2.1])) (S, [])
theorem mks_snoc {S : PS} {ls : List Bytes} {i : Nat} {c : Bytes} (h : ls[i]? = some c) :
    S.mks (ls.take (i + 1)) = (((S.mks (ls.take i)).1.new 1 0 [c]).1, (S.mks (ls.take i)).2 ++ [((S.mks (ls.take i)).1.new 1 0 [c]).2.1]) := by
  unfold PS.mks; rw [take_snoc' h, List.foldl_append]; rfl

/-- What holds of pages made. -/
structure Made (S T : PS) (ls : List Bytes) (ns : List Int) (k : Nat) : Prop where
  pf : PFit T k
  x : T.x = S.x
  pages : T.pages ≤ S.pages + ls.length
  most : T.D.most = S.D.most
  len : ns.length = ls.length
  rng : ∀ n ∈ ns, 2 ≤ n ∧ n < T.pages
  free : ∀ n ∈ ns, ∀ f ∈ T.free, f.p ≠ n
  read : ∀ (i : Nat) (n : Int) (c : Bytes), ns[i]? = some n → ls[i]? = some c → T.D.read n = (S.page n 1 0 [c]).bytes
theorem one_fits {S : PS} {k : Nat} (h : PFit S k) {n : Int} {c : Bytes} (hc : c.length ≤ 200) (hn : 0 ≤ n ∧ n ≤ 5000) : (S.page n 1 0 [c]).err = 0 := by
  have he := h.e
  unfold PG.err
  rw [if_pos, if_pos]
  · exact ⟨by show (1 : Int) ≤ 1; decide, by show (1 : Int) ≤ 255; decide, hn.1, by show n ≤ _; omega, by show 0 ≤ S.x.e + 1; omega, by show S.x.e + 1 ≤ _; omega, by show (0 : Int) ≤ 0; decide, by show (0 : Int) ≤ _; decide⟩
  · unfold fitsP
    simp only [Bool.and_eq_true, decide_eq_true_eq, List.all_eq_true]
    refine ⟨by show room [c] ≤ 236; unfold room; simp only [List.map_cons, List.map_nil, List.sum_cons, List.sum_nil]; omega, fun s hs => ?_⟩
    have : s = c := by simpa using hs
    subst this; omega
theorem Made.start {S : PS} {k : Nat} (h : PFit S k) : Made S S [] [] k where
  pf := h
  x := rfl
  pages := by simp
  most := rfl
  len := rfl
  rng := by simp
  free := by simp
  read := fun i n c h => by simp at h
theorem Made.step {S T : PS} {ls : List Bytes} {ns : List Int} {k : Nat} (h : Made S T ls ns k) {c : Bytes} (hc : c.length ≤ 200) (hr : S.pages + ls.length + 1 ≤ S.D.most) :
    (T.new 1 0 [c]).2.2 = 0 ∧ (T.new 1 0 [c]).2.1 ∉ ns ∧ 2 ≤ (T.new 1 0 [c]).2.1 ∧ (T.new 1 0 [c]).2.1 < (T.new 1 0 [c]).1.pages ∧ Made S (T.new 1 0 [c]).1 (ls ++ [c]) (ns ++ [(T.new 1 0 [c]).2.1]) (k + 1) := by
  have hpg := h.pages
  have ht : T.take.2.2 = 0 := take_ok (by rw [h.most]; omega)
  have he : (T.page 0 1 0 [c]).err = 0 := one_fits h.pf hc ⟨by omega, by omega⟩
  obtain ⟨e1, e2⟩ := new_ok h.pf he ht
  have hnew := h.pf.new 1 0 [c]
  obtain ⟨t1, t2, t3⟩ := h.pf.take
  obtain ⟨n1, n2⟩ := t2 ht
  obtain ⟨f1, f2⟩ := take_free h.pf ht
  have hle := take_le T
  have hup := take_up T
  rw [e1] at hnew ⊢
  have hno : T.take.2.1 ∉ ns := fun hn => by
    rcases f2 with ⟨f, hf, hp⟩ | hp
    · exact h.free _ hn f hf hp
    · have := (h.rng _ hn).2; omega
  refine ⟨rfl, hno, n1, n2, ?_⟩
  exact {
    pf := hnew
    x := t3.trans h.x
    pages := by show T.take.1.pages ≤ _; rw [List.length_append]; simp only [List.length_cons, List.length_nil]; omega
    most := by show T.take.1.D.most = _; rw [hup.2.2, h.most]
    len := by rw [List.length_append, List.length_append, h.len]; rfl
    rng := fun n hn => by
      rcases List.mem_append.1 hn with hn | hn
      · have := h.rng n hn
        exact ⟨this.1, by show n < T.take.1.pages; have := hup.1; omega⟩
      · rw [List.mem_singleton] at hn; subst hn; exact ⟨n1, n2⟩
    free := fun n hn f hf => by
      have := f1 f hf
      rcases List.mem_append.1 hn with hn | hn
      · exact h.free n hn f this.1
      · rw [List.mem_singleton] at hn; subst hn; exact this.2
    read := fun i n c' h1 h2 => by
      show (T.take.1.D.write T.take.2.1 _).read n = _
      rw [read_write]
      by_cases hi : i < ns.length
      · rw [List.getElem?_append_left hi] at h1
        rw [List.getElem?_append_left (by rw [← h.len]; exact hi)] at h2
        rw [if_neg (fun hn => hno (by rw [← hn]; exact List.mem_of_getElem? h1)), take_read]
        exact h.read i n c' h1 h2
      · have hi2 : i = ns.length := by
          have := (List.getElem?_eq_some_iff.1 h1).1
          rw [List.length_append] at this
          simp only [List.length_cons, List.length_nil] at this
          omega
        subst hi2
        rw [List.getElem?_append_right (Nat.le_refl _), Nat.sub_self] at h1
        rw [h.len, List.getElem?_append_right (Nat.le_refl _), Nat.sub_self] at h2
        injection h1 with h1
        injection h2 with h2
        subst h1; subst h2
        rw [if_pos rfl]
        unfold PS.page
        rw [h.x] }
theorem Made.pg {S T : PS} {ls : List Bytes} {ns : List Int} {k i : Nat} (h : Made S T ls ns k) (hS : PFit S k) {n : Int} {c : Bytes} (h1 : ns[i]? = some n) (h2 : ls[i]? = some c) (hc : c.length ≤ 200) : T.D.pg T.pages n = (0, some (T.page n 1 0 [c])) := by
  have hx : T.page n 1 0 [c] = S.page n 1 0 [c] := by unfold PS.page; rw [h.x]
  rw [hx]
  have hr := h.rng n (List.mem_of_getElem? h1)
  have hpf := h.pf.pg
  have hm := h.pf.most
  obtain ⟨p1, p2⟩ := parse_bytes (one_fits hS hc (n := n) ⟨by omega, by omega⟩)
  unfold DS.pg
  rw [if_pos hr, h.read i n c h1 h2, if_pos p2, p1]
  dsimp only
  rw [if_pos rfl]
/-- The numbers seen. -/
def seenF (ns : List Int) (k : Int) : Option Int := if k ∈ ns then some 1 else none
theorem seen_snoc (ns : List Int) (n : Int) : updI (seenF ns) n (some 1) = seenF (ns ++ [n]) := by
  funext x
  unfold updI seenF
  by_cases h : x = n
  · subst h; simp
  · simp [h]
end Go.Lun

/- PagerNumbers, walked. -/
namespace Go.Lun
open Go.Proofs

set_option maxHeartbeats 25600000 in
theorem numbers_f (a0 a1 : Option Addr) (c0 c1 : Nat) (xs : List AP) (ls : List Bytes) :
    Fn Tryz.prog 6 [.slice a0 xs.length c0, .slice a1 ls.length c1] (Acts a0 xs ++ [RowA false strC 1 a1 ls]) (fun v L => v = .bool true ∧ L = []) := by
  refine fn_start Tryz.func6 rfl rfl rfl fun F => ?_
  have f0 := fresh_fit 300 (by decide)
  have b0 := begin_pb 300
  simp only [List.append_eq, List.cons_append, List.nil_append, List.append_nil, tup]
  refine c_seq ?_
  refine c_region ?_
  refine o_y (y_assign rfl) rfl ?_
  refine o_nil ?_
  refine f_seq ?_
  refine c_seq ?_
  refine c_region ?_
  refine o_call rfl (fresh8_f 300 (by decide)) (by repeat (first | with_reducible exact Takes.nil | (apply Takes.cons; focus (repeat (first | with_reducible exact Rem.here | apply Rem.there))))) rfl ?_
  generalize PS.begin 300 = S0 at *
  rintro _ _ ⟨p, d, rfl, rfl⟩
  simp only [List.append_eq, List.cons_append, List.nil_append, List.append_nil, tup]
  refine o_y (y_move rfl) rfl ?_
  refine o_y (y_extract rfl rfl) rfl ?_
  refine o_y (y_extract rfl rfl) rfl ?_
  refine o_y (y_assign rfl) rfl ?_
  refine o_y (y_assign rfl) rfl ?_
  refine o_nil ?_
  refine f_seq ?_
  refine c_seq ?_
  refine c_seq ?_
  refine c_region ?_
  refine o_call rfl awake8_f (by repeat (first | with_reducible exact Takes.nil | (apply Takes.cons; focus (repeat (first | with_reducible exact Rem.here | apply Rem.there))))) rfl ?_
  rintro _ _ ⟨rfl, rfl⟩
  simp only [List.append_eq, List.cons_append, List.nil_append, List.append_nil, tup]
  by_cases h30 : ls.length ≤ 30
  case neg =>
    refine o_y (y_not rfl) rfl ?_
    refine o_y (y_move rfl) rfl ?_
    refine o_want rfl ?_
    refine o_y (y_move rfl) rfl ?_
    refine o_want rfl ?_
    refine o_y (y_eql_nil rfl rfl) rfl ?_
    refine o_y (y_pick_f rfl rfl) rfl ?_
    refine o_y (y_move rfl) rfl ?_
    refine o_want rfl ?_
    refine o_y (y_move rfl) rfl ?_
    refine o_want rfl ?_
    refine o_y (y_eql_nil rfl rfl) rfl ?_
    refine o_y (y_pick_f rfl rfl) rfl ?_
    refine o_y (y_move rfl) rfl ?_
    refine o_want rfl ?_
    refine o_y (y_move rfl) rfl ?_
    refine o_want rfl ?_
    refine o_y (y_len_slice rfl) rfl ?_
    refine o_want rfl ?_
    refine o_y (y_gtr_t rfl rfl (by omega)) rfl ?_
    refine o_y (y_pick_f rfl rfl) rfl ?_
    refine o_nil ?_
    refine f_seq ?_
    refine c_true rfl ?_
    refine c_seq ?_
    refine c_region ?_
    refine o_call rfl awake8_f (by repeat (first | with_reducible exact Takes.nil | (apply Takes.cons; focus (repeat (first | with_reducible exact Rem.here | apply Rem.there))))) rfl ?_
    rintro _ _ ⟨rfl, rfl⟩
    simp only [List.append_eq, List.cons_append, List.nil_append, List.append_nil, tup]
    refine o_y (y_assign rfl) rfl ?_
    refine o_nil ?_
    refine f_seq ?_
    refine c_ret ?_
    refine f_seq_ret ?_
    exact f_ent Ent.nil (f_ret rfl ⟨rfl, rfl⟩)
  refine o_y (y_not rfl) rfl ?_
  refine o_y (y_move rfl) rfl ?_
  refine o_want rfl ?_
  refine o_y (y_move rfl) rfl ?_
  refine o_want rfl ?_
  refine o_y (y_eql_nil rfl rfl) rfl ?_
  refine o_y (y_pick_f rfl rfl) rfl ?_
  refine o_y (y_move rfl) rfl ?_
  refine o_want rfl ?_
  refine o_y (y_move rfl) rfl ?_
  refine o_want rfl ?_
  refine o_y (y_eql_nil rfl rfl) rfl ?_
  refine o_y (y_pick_f rfl rfl) rfl ?_
  refine o_y (y_move rfl) rfl ?_
  refine o_want rfl ?_
  refine o_y (y_move rfl) rfl ?_
  refine o_want rfl ?_
  refine o_y (y_len_slice rfl) rfl ?_
  refine o_want rfl ?_
  refine o_y (y_gtr_f rfl rfl (by omega)) rfl ?_
  refine o_y (y_pick_f rfl rfl) rfl ?_
  refine o_nil ?_
  refine f_seq ?_
  refine c_false rfl ?_
  refine c_skip ?_
  refine f_seq ?_
  refine c_seq ?_
  refine c_seq ?_
  refine c_region ?_
  refine o_y (y_assign rfl) rfl ?_
  refine o_nil ?_
  refine f_seq ?_
  refine c_block ?_
  refine c_loop_inv (X := Nat) (fun i => i ≤ xs.length ∧ i ≤ 20) (fun i => 20 - i)
    (fun i => [PRep p d (S0.acts (xs.take i)), RowA false AP.cellsV 7 a0 xs, Star (xs.map fun x => KP x), RowA false strC 1 a1 ls])
    (fun i => [(0, .slice a0 xs.length c0), (1, .slice a1 ls.length c1), (5, .pointer (some ⟨p, 0, none⟩)), (7, .int .i64 (i : Int))]) 0 ⟨Nat.zero_le _, by decide⟩ (by rw [List.take_zero, show S0.acts [] = S0 from rfl]; repeat (first | with_reducible exact Ent.nil | (apply Ent.one; focus (repeat (first | with_reducible exact Rem.here | apply Rem.there))))) (by repeat (first | exact trivial | refine ⟨rfl, ?_⟩)) ?_
  rintro i ⟨hi, hi2⟩ ih
  have hS : AFit (S0.acts (xs.take i)) (5 + i) ∧ PB (S0.acts (xs.take i)) 62 300 := by
    have h1 := acts_fit f0 (xs.take i) (by rw [List.length_take]; omega)
    have h2 := acts_pb b0 f0 (xs.take i) (by rw [List.length_take]; omega) (by rw [List.length_take]; omega)
    rw [List.length_take, Nat.min_eq_left hi] at h1 h2
    exact ⟨h1, h2.mono (by omega)⟩
  refine c_seq ?_
  refine c_seq ?_
  refine c_cut (X := Unit) (fun _ => [PRep p d (S0.acts (xs.take i)), RowA false AP.cellsV 7 a0 xs, Star (xs.map fun x => KP x), RowA false strC 1 a1 ls])
    (fun _ => [(0, .slice a0 xs.length c0), (1, .slice a1 ls.length c1), (5, .pointer (some ⟨p, 0, none⟩)), (7, .int .i64 (i : Int)), (43, .bool (decide (i < xs.length ∧ i < 20)))]) ?_ ?_
  · by_cases g1 : i < xs.length
    · by_cases g2 : i < 20
      · rw [decide_eq_true ⟨g1, g2⟩]
        refine c_region ?_
        refine o_y (y_move rfl) rfl ?_
        refine o_y (y_move rfl) rfl ?_
        refine o_y (y_len_slice rfl) rfl ?_
        refine o_y (y_lss_t rfl rfl (by omega)) rfl ?_
        refine o_y (y_move rfl) rfl ?_
        refine o_want rfl ?_
        refine o_y (y_move rfl) rfl ?_
        refine o_want rfl ?_
        refine o_y (y_lss_t rfl rfl (by omega)) rfl ?_
        refine o_y (y_pick_t rfl rfl) rfl ?_
        refine o_nil ?_
        exact f_cut () (by repeat (first | with_reducible exact Ent.nil | (apply Ent.one; focus (repeat (first | with_reducible exact Rem.here | apply Rem.there))))) (by repeat (first | exact trivial | refine ⟨rfl, ?_⟩))
      · rw [decide_eq_false (fun h => g2 h.2)]
        refine c_region ?_
        refine o_y (y_move rfl) rfl ?_
        refine o_y (y_move rfl) rfl ?_
        refine o_y (y_len_slice rfl) rfl ?_
        refine o_y (y_lss_t rfl rfl (by omega)) rfl ?_
        refine o_y (y_move rfl) rfl ?_
        refine o_want rfl ?_
        refine o_y (y_move rfl) rfl ?_
        refine o_want rfl ?_
        refine o_y (y_lss_f rfl rfl (by omega)) rfl ?_
        refine o_y (y_pick_t rfl rfl) rfl ?_
        refine o_nil ?_
        exact f_cut () (by repeat (first | with_reducible exact Ent.nil | (apply Ent.one; focus (repeat (first | with_reducible exact Rem.here | apply Rem.there))))) (by repeat (first | exact trivial | refine ⟨rfl, ?_⟩))
    · rw [decide_eq_false (fun h => g1 h.1)]
      refine c_region ?_
      refine o_y (y_move rfl) rfl ?_
      refine o_y (y_move rfl) rfl ?_
      refine o_y (y_len_slice rfl) rfl ?_
      refine o_y (y_lss_f rfl rfl (by omega)) rfl ?_
      refine o_y (y_move rfl) rfl ?_
      refine o_skip rfl rfl ?_
      refine o_skip rfl rfl ?_
      refine o_y (y_pick_f rfl rfl) rfl ?_
      refine o_nil ?_
      exact f_cut () (by repeat (first | with_reducible exact Ent.nil | (apply Ent.one; focus (repeat (first | with_reducible exact Rem.here | apply Rem.there))))) (by repeat (first | exact trivial | refine ⟨rfl, ?_⟩))
  intro _
  by_cases hgo : i < xs.length ∧ i < 20
  case pos =>
    rw [decide_eq_true hgo]
    obtain ⟨hlt, hlt2⟩ := hgo
    obtain ⟨x, hx⟩ : ∃ c, xs[i]? = some c := ⟨_, List.getElem?_eq_getElem hlt⟩
    have hne : xs ≠ [] := by intro h; rw [h] at hlt; exact absurd hlt (by simp)
    have hsn := acts_snoc (S := S0) hx
    generalize S0.acts (xs.take i) = S at *
    refine c_open (A := RowA false AP.cellsV 7 a0 xs) (h := RowA.opens (f := AP.cellsV) hne) (by repeat (first | with_reducible exact Rem.here | apply Rem.there)) (fun y hy2 => ?_)
    obtain ⟨kb, ko, cs, T, fz⟩ := y
    obtain ⟨e1, e2⟩ := hy2
    dsimp only at e1 e2
    subst e1
    have hgt := act_get e2 hx
    simp only [List.append_eq, List.cons_append, List.nil_append, List.append_nil, tup]
    have hback : ∀ {T2 : PS} {M : List Asrt}, Ent (KP x :: Star (xs.map fun x => KP x) :: PRep p d T2 :: Bkp false kb (.cells ⟨cs⟩ T fz) :: RowA false strC 1 a1 ls :: M) [PRep p d T2, RowA false AP.cellsV 7 (some ⟨kb, ko, none⟩) xs, Star (xs.map fun x => KP x), RowA false strC 1 a1 ls] := fun {T2 M} =>
      Ent.one (.there (.there .here)) (Ent.put (P := [Bkp false kb (.cells ⟨cs⟩ T fz)]) (Takes.cons (.there (.there .here)) Takes.nil) (RowA.shut rfl e2) (Ent.one (.there .here) (Ent.one (.there .here) Ent.nil)))
    refine c_ent (Ent.trans (M := Star (xs.map fun x => KP x) :: PRep p d S :: Bkp false kb (.cells ⟨cs⟩ T fz) :: [RowA false strC 1 a1 ls]) (by repeat (first | with_reducible exact Ent.nil | (apply Ent.one; focus (repeat (first | with_reducible exact Rem.here | apply Rem.there))))) (star_dupP hx)) ?_
    refine c_true rfl ?_
    refine c_skip ?_
    refine f_seq ?_
    refine c_seq ?_
    refine c_block ?_
    refine c_seq ?_
    refine c_region ?_
    refine o_y (y_move rfl) rfl ?_
    refine o_y (y_move rfl) rfl ?_
    refine o_y (y_indexAddr i rfl rfl rfl hlt) rfl ?_
    refine o_y (y_loadN rfl rfl hgt) rfl ?_
    refine o_call rfl (few8_f x) (by repeat (first | with_reducible exact Takes.nil | (apply Takes.cons; focus (repeat (first | with_reducible exact Rem.here | apply Rem.there))))) rfl ?_
    rintro _ _ ⟨rfl, rfl⟩
    simp only [List.append_eq, List.cons_append, List.nil_append, List.append_nil, tup]
    cases hfew : x.few with
    | false =>
      rw [if_neg (by rw [hfew]; decide)] at hsn
      refine o_nil ?_
      refine f_seq ?_
      refine c_false rfl ?_
      refine c_skip ?_
      refine f_block ?_
      refine f_seq ?_
      refine c_region ?_
      refine o_y (y_move rfl) rfl ?_
      refine o_y (y_arith64 rfl rfl rfl (by omega)) rfl ?_
      refine o_y (y_assign rfl) rfl ?_
      refine o_nil ?_
      refine f_next (Ent.trans (M := KP x :: Star (xs.map fun x => KP x) :: PRep p d S :: Bkp false kb (.cells ⟨cs⟩ T fz) :: [RowA false strC 1 a1 ls]) (by repeat (first | with_reducible exact Ent.nil | (apply Ent.one; focus (repeat (first | with_reducible exact Rem.here | apply Rem.there))))) ?_) (by repeat (first | exact trivial | refine ⟨rfl, ?_⟩)) (ih (i + 1) ⟨hlt, hlt2⟩ (by omega))
      rw [hsn]; exact hback
    | true =>
      rw [if_pos hfew] at hsn
      refine o_nil ?_
      refine f_seq ?_
      refine c_true rfl ?_
      refine c_region ?_
      refine o_y (y_move rfl) rfl ?_
      refine o_y (y_move rfl) rfl ?_
      refine o_y (y_move rfl) rfl ?_
      refine o_y (y_indexAddr i rfl rfl rfl hlt) rfl ?_
      refine o_y (y_loadN rfl rfl hgt) rfl ?_
      refine o_call rfl (do8_f S (5 + i) x hfew hS.1 (by omega)) (by repeat (first | with_reducible exact Takes.nil | (apply Takes.cons; focus (repeat (first | with_reducible exact Rem.here | apply Rem.there))))) rfl ?_
      rintro _ _ ⟨rfl, rfl⟩
      simp only [List.append_eq, List.cons_append, List.nil_append, List.append_nil, tup]
      refine o_nil ?_
      refine f_block ?_
      refine f_seq ?_
      refine c_region ?_
      refine o_y (y_move rfl) rfl ?_
      refine o_y (y_arith64 rfl rfl rfl (by omega)) rfl ?_
      refine o_y (y_assign rfl) rfl ?_
      refine o_nil ?_
      refine f_next (Ent.trans (M := KP x :: Star (xs.map fun x => KP x) :: PRep p d (S.act x).1 :: Bkp false kb (.cells ⟨cs⟩ T fz) :: [RowA false strC 1 a1 ls]) (by repeat (first | with_reducible exact Ent.nil | (apply Ent.one; focus (repeat (first | with_reducible exact Rem.here | apply Rem.there))))) ?_) (by repeat (first | exact trivial | refine ⟨rfl, ?_⟩)) (ih (i + 1) ⟨hlt, hlt2⟩ (by omega))
      rw [hsn]; exact hback
  case neg =>
  clear ih
  rw [decide_eq_false hgo]
  generalize S0.acts (xs.take i) = S at *
  obtain ⟨hS, hB⟩ := hS
  have hfl := hS.lf.flen hS.pf
  have hcl := hS.lf.len
  refine c_ent (M := [PRep p d S, RowA false strC 1 a1 ls]) (by repeat (first | with_reducible exact Ent.nil | (apply Ent.one; focus (repeat (first | with_reducible exact Rem.here | apply Rem.there))))) ?_
  refine c_false rfl ?_
  refine c_exit ?_
  refine f_seq_exit ?_
  refine f_seq_exit ?_
  refine f_block_here ?_
  refine f_seq ?_
  refine c_seq ?_
  refine c_region ?_
  refine o_y (y_move rfl) rfl ?_
  refine o_call rfl (abort_p S (by omega) (by omega)) (by repeat (first | with_reducible exact Takes.nil | (apply Takes.cons; focus (repeat (first | with_reducible exact Rem.here | apply Rem.there))))) rfl ?_
  rintro _ _ ⟨rfl, rfl⟩
  simp only [List.append_eq, List.cons_append, List.nil_append, List.append_nil, tup]
  have hT : PFit S.abort 10000 := ((hS.pf.abort hS.lf).1).up (by omega)
  have hTp : S.abort.pages ≤ 62 := hB.lpages
  have hTm : S.abort.D.most = 300 := hB.most
  clear hfl hcl hS hB
  generalize S.abort = T at *
  refine o_nil ?_
  refine f_seq ?_
  refine c_seq ?_
  refine c_region ?_
  refine o_makeMap rfl (fun mb => ?_)
  refine o_y (y_assign rfl) rfl ?_
  refine o_nil ?_
  refine f_seq ?_
  refine c_seq ?_
  refine c_region ?_
  refine o_buildSlice rfl rfl rfl rfl rfl (fun nb => ?_)
  refine o_y (y_assign rfl) rfl ?_
  refine o_nil ?_
  refine f_seq ?_
  refine c_ent (Ent.put (A := Sl 3 1 (some ⟨nb, 0, none⟩) 0 0 []) (P := [Blk nb (.cells ⟨[]⟩ 3 (0, 0))]) (by repeat (first | with_reducible exact Takes.nil | (apply Takes.cons; focus (repeat (first | with_reducible exact Rem.here | apply Rem.there))))) (Sl.shut_zero' nb) (Ent.refl _)) ?_
  refine c_seq ?_
  refine c_seq ?_
  refine c_region ?_
  refine o_y (y_assign rfl) rfl ?_
  refine o_nil ?_
  refine f_seq ?_
  refine c_block ?_
  refine c_loop_inv (X := Nat × (List ME × Nat) × (Option Addr × Nat)) (fun x => x.1 ≤ ls.length ∧ (∀ j c, j < x.1 → ls[j]? = some c → c.length ≤ 200) ∧ Made T (T.mks (ls.take x.1)).1 (ls.take x.1) (T.mks (ls.take x.1)).2 (10000 + x.1) ∧ IMok x.2.1.1 x.2.1.2 (seenF (T.mks (ls.take x.1)).2)) (fun x => ls.length - x.1)
    (fun x => [PRep p d (T.mks (ls.take x.1)).1, RowA false strC 1 a1 ls, Blk mb (.map (ents x.2.1.1) x.2.1.2), Sl 3 1 x.2.2.1 x.1 x.2.2.2 ((T.mks (ls.take x.1)).2.flatMap intC)])
    (fun x => [(1, .slice a1 ls.length c1), (5, .pointer (some ⟨p, 0, none⟩)), (8, .map (some mb)), (9, .slice x.2.2.1 x.1 x.2.2.2), (10, .int .i64 (x.1 : Int))])
    (0, ([], 0), (some ⟨nb, 0, none⟩, 0)) ⟨Nat.zero_le _, fun j c h => absurd h (Nat.not_lt_zero j), by rw [List.take_zero]; exact Made.start hT, by rw [List.take_zero]; exact IMok.nil⟩
    (by dsimp only; rw [List.take_zero, show T.mks [] = (T, []) from rfl, show ents [] = #[] from rfl]; dsimp only; rw [List.flatMap_nil]; repeat (first | with_reducible exact Ent.nil | (apply Ent.one; focus (repeat (first | with_reducible exact Rem.here | apply Rem.there))))) (by repeat (first | exact trivial | refine ⟨rfl, ?_⟩)) ?_
  clear hgo hi hi2
  rintro ⟨j, ⟨es, ck⟩, ⟨na, nc⟩⟩ ⟨hj, hlens, hmd, him⟩ ih
  dsimp only at hj hlens hmd him ih ⊢
  by_cases hlt : j < ls.length
  case pos =>
    obtain ⟨c, hc⟩ : ∃ c, ls[j]? = some c := ⟨_, List.getElem?_eq_getElem hlt⟩
    have hne : ls ≠ [] := by intro h; rw [h] at hlt; exact absurd hlt (by simp)
    have hsn := mks_snoc (S := T) hc
    have htk : ls.take (j + 1) = ls.take j ++ [c] := take_snoc' hc
    have hnl : (T.mks (ls.take j)).2.length = j := by rw [hmd.len, List.length_take]; omega
    have hlk : (ls.take j).length = j := by rw [List.length_take]; omega
    generalize hU : T.mks (ls.take j) = U at *
    obtain ⟨U, ns⟩ := U
    dsimp only at hmd him hsn hnl ⊢
    refine c_open (A := RowA false strC 1 a1 ls) (h := RowA.opens (f := strC) hne) (by repeat (first | with_reducible exact Rem.here | apply Rem.there)) (fun y hy2 => ?_)
    obtain ⟨kb, ko, cs, T2, fz⟩ := y
    obtain ⟨e1, e2⟩ := hy2
    dsimp only at e1 e2
    subst e1
    have hg1 := str_get e2 hc
    simp only [List.append_eq, List.cons_append, List.nil_append, List.append_nil, tup]
    refine c_seq ?_
    refine c_seq ?_
    refine c_region ?_
    refine o_y (y_move rfl) rfl ?_
    refine o_y (y_move rfl) rfl ?_
    refine o_y (y_len_slice rfl) rfl ?_
    refine o_y (y_lss_t rfl rfl (by omega)) rfl ?_
    refine o_nil ?_
    refine f_seq ?_
    refine c_true rfl ?_
    refine c_skip ?_
    refine f_seq ?_
    refine c_seq ?_
    refine c_block ?_
    refine c_seq ?_
    refine c_seq ?_
    refine c_region ?_
    refine o_y (y_move rfl) rfl ?_
    refine o_y (y_move rfl) rfl ?_
    refine o_y (y_indexAddr j rfl rfl rfl hlt) rfl ?_
    refine o_y (y_load rfl rfl hg1) rfl ?_
    by_cases hc2 : c.length ≤ 200
    case neg =>
      clear ih
      refine o_y (y_len_str rfl) rfl ?_
      refine o_y (y_gtr_t rfl rfl (by omega)) rfl ?_
      refine o_nil ?_
      refine f_seq ?_
      refine c_true rfl ?_
      refine c_seq ?_
      refine c_region ?_
      refine o_y (y_assign rfl) rfl ?_
      refine o_nil ?_
      refine f_seq ?_
      refine c_ret ?_
      refine f_seq_ret ?_
      refine f_block_ret ?_
      refine f_seq_ret ?_
      refine f_seq_ret ?_
      refine f_block_ret ?_
      refine f_seq_ret ?_
      exact f_ent Ent.nil (f_ret rfl ⟨rfl, rfl⟩)
    obtain ⟨g1, g2, g3, g4, g5⟩ := hmd.step hc2 (by rw [hlk]; omega)
    have hpf := hmd.pf
    have hnew := new_p (p := p) (d := d) U true
    have hsm : Small [c] := ⟨by simp, fun s hs => by rw [List.mem_singleton.1 hs]; omega⟩
    refine o_y (y_len_str rfl) rfl ?_
    refine o_y (y_gtr_f rfl rfl (by omega)) rfl ?_
    refine o_nil ?_
    refine f_seq ?_
    refine c_false rfl ?_
    refine c_skip ?_
    refine f_seq ?_
    refine c_seq ?_
    refine c_region ?_
    refine o_y (y_move rfl) rfl ?_
    refine o_y (y_move rfl) rfl ?_
    refine o_y (y_move rfl) rfl ?_
    refine o_y (y_indexAddr j rfl rfl rfl hlt) rfl ?_
    refine o_y (y_load rfl rfl hg1) rfl ?_
    refine o_buildSlice rfl rfl rfl rfl rfl (fun sb => ?_)
    refine o_ent (Ent.put (A := RowA true strC 1 (some ⟨sb, 0, none⟩) [c]) (P := [Blk sb (.cells ⟨[str c]⟩ 9 (0, 0))]) (by repeat (first | with_reducible exact Takes.nil | (apply Takes.cons; focus (repeat (first | with_reducible exact Rem.here | apply Rem.there))))) (RowA.shut rfl rfl) (Ent.refl _)) ?_
    refine o_call rfl (hnew (some ⟨sb, 0, none⟩) 1 (10000 + j) 1 0 [c] hsm hpf (by omega)) (by repeat (first | with_reducible exact Takes.nil | (apply Takes.cons; focus (repeat (first | with_reducible exact Rem.here | apply Rem.there))))) rfl ?_
    rintro _ _ ⟨rfl, rfl⟩
    rw [g1]
    rw [← htk] at g5
    generalize hV : U.new 1 0 [c] = V at *
    obtain ⟨V, no, er⟩ := V
    dsimp only at g1 g2 g3 g4 g5 hsn ⊢
    obtain ⟨es', ck', hpe, hpo⟩ := him.put no 1
    rw [seen_snoc] at hpo
    have hget : mget es no = none := by
      rw [him.get]; unfold seenF; rw [if_neg g2]; rfl
    simp only [List.append_eq, List.cons_append, List.nil_append, List.append_nil, tup]
    refine o_y (y_move rfl) rfl ?_
    refine o_y (y_extract rfl rfl) rfl ?_
    refine o_y (y_extract rfl rfl) rfl ?_
    refine o_y (y_assign rfl) rfl ?_
    refine o_y (y_assign rfl) rfl ?_
    refine o_nil ?_
    refine f_seq ?_
    refine c_seq ?_
    refine c_seq ?_
    refine c_region ?_
    refine o_y (y_move rfl) rfl ?_
    refine o_y (y_neq_f rfl rfl (by omega)) rfl ?_
    refine o_y (y_move rfl) rfl ?_
    refine o_want rfl ?_
    refine o_y (y_move rfl) rfl ?_
    refine o_want rfl ?_
    refine o_y (y_move rfl) rfl ?_
    refine o_want rfl ?_
    refine o_y (y_lookup_z rfl rfl (by assumption)) rfl ?_
    refine o_want rfl ?_
    refine o_y (y_gtr_f rfl rfl (by omega)) rfl ?_
    refine o_y (y_pick_f rfl rfl) rfl ?_
    refine o_y (y_move rfl) rfl ?_
    refine o_want rfl ?_
    refine o_y (y_move rfl) rfl ?_
    refine o_want rfl ?_
    refine o_y (y_lss_f rfl rfl (by omega)) rfl ?_
    refine o_y (y_pick_f rfl rfl) rfl ?_
    refine o_y (y_move rfl) rfl ?_
    refine o_want rfl ?_
    refine o_y (y_move rfl) rfl ?_
    refine o_want rfl ?_
    refine o_y (y_move rfl) rfl ?_
    refine o_want rfl ?_
    refine o_y (y_nilCheck rfl) rfl ?_
    refine o_want rfl ?_
    refine o_y (y_fieldAddr0 rfl) rfl ?_
    refine o_want rfl ?_
    refine o_open (A := PRep p d V) (by repeat (first | with_reducible exact Rem.here | apply Rem.there)) (fun z hz => ?_)
    obtain ⟨h1, h2, h3⟩ := hz
    obtain ⟨ca, cc, lfa, lfc, la, lc⟩ := z
    dsimp only at h1 h2 h3
    try dsimp only [PZ.frs]
    simp only [List.append_eq, List.cons_append, List.nil_append, List.append_nil, tup]
    refine o_open (A := PCo p d _ _ _ V) (by repeat (first | with_reducible exact Rem.here | apply Rem.there)) (fun y hy => ?_)
    obtain ⟨rb, s, fa, fc, m, es2, ck2⟩ := y
    obtain ⟨hwf, him2⟩ := hy
    dsimp only at hwf him2
    try dsimp only [PY.frs]
    simp only [List.append_eq, List.cons_append, List.nil_append, List.append_nil, tup]
    refine o_y (y_load rfl rfl rfl) rfl ?_
    refine o_want rfl ?_
    try refine o_want rfl ?_
    refine o_call rfl (pages_r (d := d) rb s V.pages) (by repeat (first | with_reducible exact Takes.nil | (apply Takes.cons; focus (repeat (first | with_reducible exact Rem.here | apply Rem.there))))) rfl ?_
    rintro _ _ ⟨rfl, rfl⟩
    simp only [List.append_eq, List.cons_append, List.nil_append, List.append_nil, tup]
    refine o_want rfl ?_
    refine o_y (y_geq_f rfl rfl (by omega)) rfl ?_
    refine o_y (y_pick_f rfl rfl) rfl ?_
    refine o_nil ?_
    refine f_seq ?_
    refine c_false rfl ?_
    refine c_skip ?_
    refine f_seq ?_
    refine c_seq ?_
    refine c_region ?_
    refine o_y (y_move rfl) rfl ?_
    refine o_y (y_move rfl) rfl ?_
    refine o_mapUpdate rfl rfl rfl ?_
    refine o_nil ?_
    refine f_seq ?_
    refine c_region ?_
    refine o_y (y_move rfl) rfl ?_
    refine o_y (y_move rfl) rfl ?_
    refine o_buildSlice rfl rfl rfl rfl rfl (fun nb => ?_)
    rw [hpe]
    refine o_append (k := 1) (ys := [.int .i64 no]) rfl rfl (Src.slice rfl) (by repeat (first | with_reducible exact Rem.here | apply Rem.there)) (by simp [Value.oneCell']) (by omega) rfl (by omega) rfl (fun na2 nc2 => ?_)
    refine o_y (y_assign rfl) rfl ?_
    refine o_nil ?_
    refine f_block ?_
    refine f_seq ?_
    refine c_region ?_
    refine o_y (y_move rfl) rfl ?_
    refine o_y (y_arith64 rfl rfl rfl (by omega)) rfl ?_
    refine o_y (y_assign rfl) rfl ?_
    refine o_nil ?_
    refine f_next ?_ (by repeat (first | exact trivial | refine ⟨rfl, ?_⟩)) (ih (j + 1, (es', ck'), (na2, nc2)) ⟨hlt, ?_, by rw [hsn]; exact g5, by rw [hsn]; exact hpo⟩ (by dsimp only; omega))
    · dsimp only
      rw [hsn]
      dsimp only
      rw [List.flatMap_append, show List.flatMap intC [no] = [.int .i64 no] from rfl]
      refine (Ent.put (by repeat (first | with_reducible exact Takes.nil | (apply Takes.cons; focus (repeat (first | with_reducible exact Rem.here | apply Rem.there))))) (PCo.mk V (by exact ⟨rfl, rfl, rfl, rfl, rfl, rfl, rfl⟩) hwf him2) (Ent.refl _)).trans ?_
      refine Ent.put (by repeat (first | with_reducible exact Takes.nil | (apply Takes.cons; focus (repeat (first | with_reducible exact Rem.here | apply Rem.there))))) (PRep.mk V (by exact ⟨rfl, rfl, rfl, rfl, rfl, rfl, rfl⟩) h1 h2 h3) ?_
      exact Ent.put (P := [Bkp false kb (.cells ⟨cs⟩ T2 fz)]) (by repeat (first | with_reducible exact Takes.nil | (apply Takes.cons; focus (repeat (first | with_reducible exact Rem.here | apply Rem.there))))) (RowA.shut rfl e2) (by repeat (first | with_reducible exact Ent.nil | (apply Ent.one; focus (repeat (first | with_reducible exact Rem.here | apply Rem.there)))))
    · intro k c' hk hc'
      by_cases hkj : k < j
      · exact hlens k c' hkj hc'
      · have : k = j := by omega
        subst this
        rw [hc] at hc'; injection hc' with hc'; subst hc'; exact hc2
  case neg =>
  clear ih
  have hjl : j = ls.length := by omega
  subst hjl
  rw [List.take_of_length_le (Nat.le_refl _)] at hmd ⊢
  generalize T.mks ls = U at *
  obtain ⟨U, ns⟩ := U
  dsimp only at hmd ⊢
  have hnl := hmd.len
  have hcl : ∀ (k : Nat) (c : Bytes), ls[k]? = some c → c.length ≤ 200 := fun k c h => hlens k c (List.getElem?_eq_some_iff.1 h).1 h
  clear him hlens
  refine c_ent (M := [PRep p d U, RowA false strC 1 a1 ls, Sl 3 1 na ls.length nc (ns.flatMap intC)]) (by repeat (first | with_reducible exact Ent.nil | (apply Ent.one; focus (repeat (first | with_reducible exact Rem.here | apply Rem.there))))) ?_
  refine c_shareSl (a := na) (cap := nc) intC ns (by repeat (first | with_reducible exact Rem.here | apply Rem.there)) hnl.symm rfl ?_
  refine c_seq ?_
  refine c_seq ?_
  refine c_region ?_
  refine o_y (y_move rfl) rfl ?_
  refine o_y (y_move rfl) rfl ?_
  refine o_y (y_len_slice rfl) rfl ?_
  refine o_y (y_lss_f rfl rfl (by omega)) rfl ?_
  refine o_nil ?_
  refine f_seq ?_
  refine c_false rfl ?_
  refine c_exit ?_
  refine f_seq_exit ?_
  refine f_seq_exit ?_
  refine f_block_here ?_
  refine f_seq ?_
  refine c_seq ?_
  refine c_seq ?_
  refine c_region ?_
  refine o_y (y_assign rfl) rfl ?_
  refine o_nil ?_
  refine f_seq ?_
  refine c_block ?_
  refine c_loop_inv (X := Nat) (fun i => i ≤ ls.length) (fun i => ls.length - i)
    (fun _ => [PRep p d U, RowA false strC 1 a1 ls, RowA false intC 1 na ns])
    (fun i => [(1, .slice a1 ls.length c1), (5, .pointer (some ⟨p, 0, none⟩)), (9, .slice na ls.length nc), (13, .int .i64 (i : Int))]) 0 (Nat.zero_le _) (by repeat (first | with_reducible exact Ent.nil | (apply Ent.one; focus (repeat (first | with_reducible exact Rem.here | apply Rem.there))))) (by repeat (first | exact trivial | refine ⟨rfl, ?_⟩)) ?_
  intro i hi ih
  by_cases hlt3 : i < ls.length
  case neg =>
    clear ih
    refine c_seq ?_
    refine c_seq ?_
    refine c_region ?_
    refine o_y (y_move rfl) rfl ?_
    refine o_y (y_move rfl) rfl ?_
    refine o_y (y_len_slice rfl) rfl ?_
    refine o_y (y_lss_f rfl rfl (by omega)) rfl ?_
    refine o_nil ?_
    refine f_seq ?_
    refine c_false rfl ?_
    refine c_exit ?_
    refine f_seq_exit ?_
    refine f_seq_exit ?_
    refine f_block_here ?_
    refine f_seq ?_
    refine c_seq ?_
    refine c_region ?_
    refine o_y (y_assign rfl) rfl ?_
    refine o_nil ?_
    refine f_seq ?_
    refine c_ret ?_
    exact f_ent Ent.nil (f_ret rfl ⟨rfl, rfl⟩)
  obtain ⟨no, hno⟩ : ∃ z, ns[i]? = some z := ⟨_, List.getElem?_eq_getElem (by omega)⟩
  obtain ⟨c, hc⟩ : ∃ c, ls[i]? = some c := ⟨_, List.getElem?_eq_getElem hlt3⟩
  have hne : ls ≠ [] := by intro h; rw [h] at hlt3; exact absurd hlt3 (by simp)
  have hne2 : ns ≠ [] := by intro h; rw [h] at hno; cases hno
  have hpg := hmd.pg (hT.up (by omega)) hno hc (hcl i c hc)
  have hup := hmd.pf.pg
  have hue := hmd.pf.e
  refine c_seq ?_
  refine c_seq ?_
  refine c_region ?_
  refine o_y (y_move rfl) rfl ?_
  refine o_y (y_move rfl) rfl ?_
  refine o_y (y_len_slice rfl) rfl ?_
  refine o_y (y_lss_t rfl rfl (by omega)) rfl ?_
  refine o_nil ?_
  refine f_seq ?_
  refine c_true rfl ?_
  refine c_skip ?_
  refine f_seq ?_
  refine c_seq ?_
  refine c_block ?_
  refine c_seq ?_
  refine c_cut (X := Nat × (Option Addr × Nat)) (fun y => [PRep p d U, Blk y.1 (.cells ⟨[.int .i64 1, .int .i64 no, .int .i64 (U.x.e + 1), .int .i64 0, .slice y.2.1 1 y.2.2]⟩ 65 (0, 0)), RowA false strC 1 y.2.1 [c], RowA false strC 1 a1 ls, RowA false intC 1 na ns])
    (fun y => [(1, .slice a1 ls.length c1), (5, .pointer (some ⟨p, 0, none⟩)), (9, .slice na ls.length nc), (13, .int .i64 (i : Int)), (14, .pointer (some ⟨y.1, 0, none⟩)), (15, .int .i64 0)]) ?_ ?_
  · refine c_open (A := PRep p d U) (by repeat (first | with_reducible exact Rem.here | apply Rem.there)) (fun z hz => ?_)
    obtain ⟨h1, h2, h3⟩ := hz
    obtain ⟨ca, cc, lfa, lfc, la, lc⟩ := z
    dsimp only at h1 h2 h3
    try dsimp only [PZ.frs]
    simp only [List.append_eq, List.cons_append, List.nil_append, List.append_nil, tup]
    refine c_open (A := PCo p d _ _ _ U) (by repeat (first | with_reducible exact Rem.here | apply Rem.there)) (fun y hy => ?_)
    obtain ⟨rb, s, fa, fc, m, es2, ck2⟩ := y
    obtain ⟨hwf, him2⟩ := hy
    dsimp only at hwf him2
    try dsimp only [PY.frs]
    simp only [List.append_eq, List.cons_append, List.nil_append, List.append_nil, tup]
    refine c_open (A := RowA false intC 1 na ns) (h := RowA.opens (f := intC) hne2) (by repeat (first | with_reducible exact Rem.here | apply Rem.there)) (fun y hy2 => ?_)
    obtain ⟨kb, ko, cs, T2, fz⟩ := y
    obtain ⟨e1, e2⟩ := hy2
    dsimp only at e1 e2
    subst e1
    have hg1 := int_get e2 hno
    simp only [List.append_eq, List.cons_append, List.nil_append, List.append_nil, tup]
    clear ih
    refine pl_start [8, 12, 13] Tryz.mixed ?_; intro hd
    refine pl_lock (A := Bkp _ _ _) Rem.here rfl ?_ hd; intro hb0
    refine pl_lock (A := Bkp _ _ _) Rem.here rfl ?_ hd; intro hb1
    refine pl_take (i := 0) rfl (by kernel_rfl) (y_move rfl) ?_ hd; clear hd; intro hd
    refine pl_take (i := 1) rfl (by kernel_rfl) (y_nilCheck rfl) ?_ hd; clear hd; intro hd
    refine pl_take (i := 2) rfl (by kernel_rfl) (y_fieldAddr0 rfl) ?_ hd; clear hd; intro hd
    refine pl_take (i := 3) rfl (by kernel_rfl) (y_load rfl rfl rfl) ?_ hd; clear hd; intro hd
    refine pl_take (i := 4) rfl (by kernel_rfl) (y_move rfl) ?_ hd; clear hd; intro hd
    refine pl_take (i := 5) rfl (by kernel_rfl) (y_move rfl) ?_ hd; clear hd; intro hd
    refine pl_take (i := 6) rfl (by kernel_rfl) (y_indexAddr i rfl rfl rfl hlt3) ?_ hd; clear hd; intro hd
    refine pl_take (i := 7) rfl (by kernel_rfl) (y_load rfl rfl hg1) ?_ hd; clear hd; intro hd
    refine pl_two (i := 8) (j := 12) (by kernel_rfl) rfl rfl ?_ ?_ hd
    · clear hd; intro hd
      refine o_call rfl (rread_f rb d s U.D U.pages no hup.2.1) (by repeat (first | with_reducible exact Takes.nil | (apply Takes.cons; focus (repeat (first | with_reducible exact Rem.here | apply Rem.there))))) rfl ?_
      rw [hpg]
      rintro _ _ (⟨hn0, _⟩ | ⟨q, ra, rc, hq, _, _, rfl, rfl⟩)
      · cases hn0
      injection hq with _ hq
      injection hq with hq
      subst hq
      simp only [PG.vals, PS.page, List.length_cons, List.length_nil, Nat.zero_add]
      simp only [List.append_eq, List.cons_append, List.nil_append, List.append_nil, tup]
      refine pl_back (by repeat (first | with_reducible exact Owes.nil | with_reducible refine Owes.same ?_ | with_reducible refine Owes.any ?_ | refine Owes.waived 8 (by kernel_rfl) ?_)) ?_ hd; clear hd; intro hd
      refine pl_take (i := 9) rfl (by kernel_rfl) (y_move rfl) ?_ hd; clear hd; intro hd
      refine pl_take (i := 10) rfl (by kernel_rfl) (y_extract rfl rfl) ?_ hd; clear hd; intro hd
      refine pl_take (i := 11) rfl (by kernel_rfl) (y_extract rfl rfl) ?_ hd; clear hd; intro hd
      refine pl_sole (i := 12) (by kernel_rfl) rfl ?_ hd; clear hd; intro hd
      refine o_alloc rfl (fun xb => ?_)
      refine pl_back (by repeat (first | with_reducible exact Owes.nil | with_reducible refine Owes.same ?_ | with_reducible refine Owes.any ?_ | refine Owes.waived 12 (by kernel_rfl) ?_ | refine Owes.waived 8 (by kernel_rfl) ?_)) ?_ hd; clear hd; intro hd
      refine pl_sole (i := 13) (by kernel_rfl) rfl ?_ hd; clear hd; intro hd
      refine o_store rfl rfl rfl frz0 ?_
      refine pl_back (by repeat (first | with_reducible exact Owes.nil | with_reducible refine Owes.same ?_ | with_reducible refine Owes.any ?_ | refine Owes.waived 13 (by kernel_rfl) ?_ | refine Owes.waived 12 (by kernel_rfl) ?_ | refine Owes.waived 8 (by kernel_rfl) ?_)) ?_ hd; clear hd; intro hd
      refine pl_take (i := 14) rfl (by kernel_rfl) (y_assign rfl) ?_ hd; clear hd; intro hd
      refine pl_done (by kernel_rfl) ?_ hd
      refine f_unlock (A := Bkp _ _ _) ?_
      refine f_unlock (A := Bkp _ _ _) ?_
      refine f_cut (xb, (ra, rc)) ?_ (by repeat (first | exact trivial | refine ⟨rfl, ?_⟩))
      refine (Ent.put (by repeat (first | with_reducible exact Takes.nil | (apply Takes.cons; focus (repeat (first | with_reducible exact Rem.here | apply Rem.there))))) (PCo.mk U (by exact ⟨rfl, rfl, rfl, rfl, rfl, rfl, rfl⟩) hwf him2) (Ent.refl _)).trans ?_
      refine Ent.put (by repeat (first | with_reducible exact Takes.nil | (apply Takes.cons; focus (repeat (first | with_reducible exact Rem.here | apply Rem.there))))) (PRep.mk U (by exact ⟨rfl, rfl, rfl, rfl, rfl, rfl, rfl⟩) h1 h2 h3) ?_
      refine Ent.one (by repeat (first | with_reducible exact Rem.here | apply Rem.there)) (Ent.one (by repeat (first | with_reducible exact Rem.here | apply Rem.there)) (Ent.one (by repeat (first | with_reducible exact Rem.here | apply Rem.there)) ?_))
      exact Ent.put (P := [Bkp false kb (.cells ⟨cs⟩ T2 fz)]) (by repeat (first | with_reducible exact Takes.nil | (apply Takes.cons; focus (repeat (first | with_reducible exact Rem.here | apply Rem.there))))) (RowA.shut rfl e2) (by repeat (first | with_reducible exact Ent.nil | (apply Ent.one; focus (repeat (first | with_reducible exact Rem.here | apply Rem.there)))))
    · clear hd; intro hd
      refine o_alloc rfl (fun xb => ?_)
      refine pl_back (by repeat (first | with_reducible exact Owes.nil | with_reducible refine Owes.same ?_ | with_reducible refine Owes.any ?_ | refine Owes.waived 12 (by kernel_rfl) ?_)) ?_ hd; clear hd; intro hd
      refine pl_sole (i := 8) (by kernel_rfl) rfl ?_ hd; clear hd; intro hd
      refine o_call rfl (rread_f rb d s U.D U.pages no hup.2.1) (by repeat (first | with_reducible exact Takes.nil | (apply Takes.cons; focus (repeat (first | with_reducible exact Rem.here | apply Rem.there))))) rfl ?_
      rw [hpg]
      rintro _ _ (⟨hn0, _⟩ | ⟨q, ra, rc, hq, _, _, rfl, rfl⟩)
      · cases hn0
      injection hq with _ hq
      injection hq with hq
      subst hq
      simp only [PG.vals, PS.page, List.length_cons, List.length_nil, Nat.zero_add]
      simp only [List.append_eq, List.cons_append, List.nil_append, List.append_nil, tup]
      refine pl_back (by repeat (first | with_reducible exact Owes.nil | with_reducible refine Owes.same ?_ | with_reducible refine Owes.any ?_ | refine Owes.waived 8 (by kernel_rfl) ?_ | refine Owes.waived 12 (by kernel_rfl) ?_)) ?_ hd; clear hd; intro hd
      refine pl_take (i := 9) rfl (by kernel_rfl) (y_move rfl) ?_ hd; clear hd; intro hd
      refine pl_take (i := 10) rfl (by kernel_rfl) (y_extract rfl rfl) ?_ hd; clear hd; intro hd
      refine pl_take (i := 11) rfl (by kernel_rfl) (y_extract rfl rfl) ?_ hd; clear hd; intro hd
      refine pl_sole (i := 13) (by kernel_rfl) rfl ?_ hd; clear hd; intro hd
      refine o_store rfl rfl rfl frz0 ?_
      refine pl_back (by repeat (first | with_reducible exact Owes.nil | with_reducible refine Owes.same ?_ | with_reducible refine Owes.any ?_ | refine Owes.waived 13 (by kernel_rfl) ?_ | refine Owes.waived 8 (by kernel_rfl) ?_ | refine Owes.waived 12 (by kernel_rfl) ?_)) ?_ hd; clear hd; intro hd
      refine pl_take (i := 14) rfl (by kernel_rfl) (y_assign rfl) ?_ hd; clear hd; intro hd
      refine pl_done (by kernel_rfl) ?_ hd
      refine f_unlock (A := Bkp _ _ _) ?_
      refine f_unlock (A := Bkp _ _ _) ?_
      refine f_cut (xb, (ra, rc)) ?_ (by repeat (first | exact trivial | refine ⟨rfl, ?_⟩))
      refine (Ent.put (by repeat (first | with_reducible exact Takes.nil | (apply Takes.cons; focus (repeat (first | with_reducible exact Rem.here | apply Rem.there))))) (PCo.mk U (by exact ⟨rfl, rfl, rfl, rfl, rfl, rfl, rfl⟩) hwf him2) (Ent.refl _)).trans ?_
      refine Ent.put (by repeat (first | with_reducible exact Takes.nil | (apply Takes.cons; focus (repeat (first | with_reducible exact Rem.here | apply Rem.there))))) (PRep.mk U (by exact ⟨rfl, rfl, rfl, rfl, rfl, rfl, rfl⟩) h1 h2 h3) ?_
      refine Ent.one (by repeat (first | with_reducible exact Rem.here | apply Rem.there)) (Ent.one (by repeat (first | with_reducible exact Rem.here | apply Rem.there)) (Ent.one (by repeat (first | with_reducible exact Rem.here | apply Rem.there)) ?_))
      exact Ent.put (P := [Bkp false kb (.cells ⟨cs⟩ T2 fz)]) (by repeat (first | with_reducible exact Takes.nil | (apply Takes.cons; focus (repeat (first | with_reducible exact Rem.here | apply Rem.there))))) (RowA.shut rfl e2) (by repeat (first | with_reducible exact Ent.nil | (apply Ent.one; focus (repeat (first | with_reducible exact Rem.here | apply Rem.there)))))
  rintro ⟨xb, ra, rc⟩
  dsimp only
  repeat refine c_seq ?_
  refine c_cut (X := Unit) (fun _ => [PRep p d U, RowA false strC 1 a1 ls, RowA false intC 1 na ns])
    (fun _ => [(1, .slice a1 ls.length c1), (5, .pointer (some ⟨p, 0, none⟩)), (9, .slice na ls.length nc), (13, .int .i64 (i : Int)), (148, .bool false)]) ?_ ?_
  · clear ih
    refine c_open (A := PRep p d U) (by repeat (first | with_reducible exact Rem.here | apply Rem.there)) (fun z hz => ?_)
    obtain ⟨h1, h2, h3⟩ := hz
    obtain ⟨ca, cc, lfa, lfc, la, lc⟩ := z
    dsimp only at h1 h2 h3
    try dsimp only [PZ.frs]
    simp only [List.append_eq, List.cons_append, List.nil_append, List.append_nil, tup]
    refine c_open (A := PCo p d _ _ _ U) (by repeat (first | with_reducible exact Rem.here | apply Rem.there)) (fun y hy => ?_)
    obtain ⟨rb, s, fa, fc, m, es2, ck2⟩ := y
    obtain ⟨hwf, him2⟩ := hy
    dsimp only at hwf him2
    try dsimp only [PY.frs]
    simp only [List.append_eq, List.cons_append, List.nil_append, List.append_nil, tup]
    refine c_open (A := RowA false intC 1 na ns) (h := RowA.opens (f := intC) hne2) (by repeat (first | with_reducible exact Rem.here | apply Rem.there)) (fun y hy2 => ?_)
    obtain ⟨kb, ko, cs, T2, fz⟩ := y
    obtain ⟨e1, e2⟩ := hy2
    dsimp only at e1 e2
    subst e1
    have hg1 := int_get e2 hno
    refine c_open (A := RowA false strC 1 a1 ls) (h := RowA.opens (f := strC) hne) (by repeat (first | with_reducible exact Rem.here | apply Rem.there)) (fun y hy2 => ?_)
    obtain ⟨kb2, ko2, cs2, T3, fz2⟩ := y
    obtain ⟨e3, e4⟩ := hy2
    dsimp only at e3 e4
    subst e3
    have hg2 := str_get e4 hc
    simp only [List.append_eq, List.cons_append, List.nil_append, List.append_nil, tup]
    refine pl_start [9, 16, 18] Tryz.mixed ?_; intro hd
    refine pl_lock (A := Bkp _ _ _) Rem.here rfl ?_ hd; intro hb0
    refine pl_lock (A := Bkp _ _ _) Rem.here rfl ?_ hd; intro hb1
    refine pl_lock (A := Bkp _ _ _) Rem.here rfl ?_ hd; intro hb2
    refine pl_lock (A := Bkp _ _ _) (Rem.there (Rem.there (Rem.there (Rem.there (Rem.there (Rem.there (Rem.there (Rem.there Rem.here)))))))) rfl ?_ hd; intro hb3
    refine pl_take (i := 0) rfl (by kernel_rfl) (y_move rfl) ?_ hd; clear hd; intro hd
    refine pl_take (i := 1) rfl (by kernel_rfl) (y_neq_f rfl rfl (by omega)) ?_ hd; clear hd; intro hd
    refine pl_take (i := 2) rfl (by kernel_rfl) (y_move rfl) ?_ hd; clear hd; intro hd
    refine pl_want (i := 3) rfl (by kernel_rfl) rfl (y_loadN rfl rfl rfl) ?_ hd; clear hd; intro hd
    refine pl_want (i := 4) rfl (by kernel_rfl) rfl (y_move rfl) ?_ hd; clear hd; intro hd
    refine pl_want (i := 5) rfl (by kernel_rfl) rfl (y_move rfl) ?_ hd; clear hd; intro hd
    refine pl_want (i := 6) rfl (by kernel_rfl) rfl (y_indexAddr i rfl rfl rfl hlt3) ?_ hd; clear hd; intro hd
    refine pl_want (i := 7) rfl (by kernel_rfl) rfl (y_load rfl rfl hg1) ?_ hd; clear hd; intro hd
    refine pl_want (i := 8) rfl (by kernel_rfl) rfl (y_move rfl) ?_ hd; clear hd; intro hd
    refine pl_want (i := 12) rfl (by kernel_rfl) rfl (y_move rfl) ?_ hd; clear hd; intro hd
    refine pl_want (i := 13) rfl (by kernel_rfl) rfl (y_move rfl) ?_ hd; clear hd; intro hd
    refine pl_want (i := 14) rfl (by kernel_rfl) rfl (y_indexAddr i rfl rfl rfl hlt3) ?_ hd; clear hd; intro hd
    refine pl_want (i := 15) rfl (by kernel_rfl) rfl (y_load rfl rfl hg2) ?_ hd; clear hd; intro hd
    refine pl_two (i := 9) (j := 16) (by kernel_rfl) rfl rfl ?_ ?_ hd
    · clear hd; intro hd
      refine o_want rfl ?_
      refine o_callK (b := p) rfl super_k (by repeat (first | with_reducible exact Takes.nil | (apply Takes.cons; focus (repeat (first | with_reducible exact Rem.here | apply Rem.there))))) rfl ?_
      rintro _ _ ⟨rfl, rfl⟩
      simp only [List.append_eq, List.cons_append, List.nil_append, List.append_nil, tup]
      refine pl_back (by repeat (first | with_reducible exact Owes.nil | with_reducible refine Owes.same ?_ | with_reducible refine Owes.any ?_ | refine Owes.waived 9 (by kernel_rfl) ?_)) ?_ hd; clear hd; intro hd
      refine pl_want (i := 10) rfl (by kernel_rfl) rfl (y_fieldI rfl rfl rfl) ?_ hd; clear hd; intro hd
      refine pl_want (i := 11) rfl (by kernel_rfl) rfl (y_arith64 rfl rfl rfl (by omega)) ?_ hd; clear hd; intro hd
      refine pl_sole (i := 16) (by kernel_rfl) rfl ?_ hd; clear hd; intro hd
      refine o_want rfl ?_
      refine o_buildSlice rfl rfl rfl rfl rfl (fun sb => ?_)
      refine pl_back (by repeat (first | with_reducible exact Owes.nil | with_reducible refine Owes.same ?_ | with_reducible refine Owes.any ?_ | refine Owes.waived 16 (by kernel_rfl) ?_ | refine Owes.waived 9 (by kernel_rfl) ?_)) ?_ hd; clear hd; intro hd
      refine pl_want (i := 17) rfl (by kernel_rfl) rfl (y_build rfl) ?_ hd; clear hd; intro hd
      refine pl_sole (i := 18) (by kernel_rfl) rfl ?_ hd; clear hd; intro hd
      refine o_want rfl ?_
      refine o_ent (Ent.put (A := RowA true strC 1 (some ⟨sb, 0, none⟩) [c]) (P := [Blk sb (.cells ⟨[str c]⟩ 9 (0, 0))]) (by repeat (first | with_reducible exact Takes.nil | (apply Takes.cons; focus (repeat (first | with_reducible exact Rem.here | apply Rem.there))))) (RowA.shut rfl rfl) (Ent.refl _)) ?_
      refine o_call rfl (same4_f ⟨1, no, U.x.e + 1, 0, [c]⟩ ra (some ⟨sb, 0, none⟩) rc 1 false true (by simp)) (by repeat (first | with_reducible exact Takes.nil | (apply Takes.cons; focus (repeat (first | with_reducible exact Rem.here | apply Rem.there))))) rfl ?_
      rintro _ _ ⟨rfl, rfl⟩
      simp only [List.append_eq, List.cons_append, List.nil_append, List.append_nil, tup]
      refine pl_back (by repeat (first | with_reducible exact Owes.nil | with_reducible refine Owes.same ?_ | with_reducible refine Owes.any ?_ | refine Owes.waived 18 (by kernel_rfl) ?_ | refine Owes.waived 16 (by kernel_rfl) ?_ | refine Owes.waived 9 (by kernel_rfl) ?_)) ?_ hd; clear hd; intro hd
      refine pl_want (i := 19) rfl (by kernel_rfl) rfl (y_not rfl) ?_ hd; clear hd; intro hd
      refine pl_take (i := 20) rfl (by kernel_rfl) (y_pick_f rfl rfl) ?_ hd; clear hd; intro hd
      refine pl_done (by kernel_rfl) ?_ hd
      refine f_unlock (A := Bkp _ _ _) ?_
      refine f_unlock (A := Bkp _ _ _) ?_
      refine f_unlock (A := Bkp _ _ _) ?_
      refine f_unlock (A := Bkp _ _ _) ?_
      refine f_cut () ?_ (by repeat (first | exact trivial | refine ⟨rfl, ?_⟩))
      refine (Ent.put (by repeat (first | with_reducible exact Takes.nil | (apply Takes.cons; focus (repeat (first | with_reducible exact Rem.here | apply Rem.there))))) (PCo.mk U (by exact ⟨rfl, rfl, rfl, rfl, rfl, rfl, rfl⟩) hwf him2) (Ent.refl _)).trans ?_
      refine Ent.put (by repeat (first | with_reducible exact Takes.nil | (apply Takes.cons; focus (repeat (first | with_reducible exact Rem.here | apply Rem.there))))) (PRep.mk U (by exact ⟨rfl, rfl, rfl, rfl, rfl, rfl, rfl⟩) h1 h2 h3) ?_
      refine Ent.put (P := [Bkp false kb2 (.cells ⟨cs2⟩ T3 fz2)]) (by repeat (first | with_reducible exact Takes.nil | (apply Takes.cons; focus (repeat (first | with_reducible exact Rem.here | apply Rem.there))))) (RowA.shut rfl e4) ?_
      exact Ent.put (P := [Bkp false kb (.cells ⟨cs⟩ T2 fz)]) (by repeat (first | with_reducible exact Takes.nil | (apply Takes.cons; focus (repeat (first | with_reducible exact Rem.here | apply Rem.there))))) (RowA.shut rfl e2) (by repeat (first | with_reducible exact Ent.nil | (apply Ent.one; focus (repeat (first | with_reducible exact Rem.here | apply Rem.there)))))
    · clear hd; intro hd
      refine o_want rfl ?_
      refine o_buildSlice rfl rfl rfl rfl rfl (fun sb => ?_)
      refine pl_back (by repeat (first | with_reducible exact Owes.nil | with_reducible refine Owes.same ?_ | with_reducible refine Owes.any ?_ | refine Owes.waived 16 (by kernel_rfl) ?_)) ?_ hd; clear hd; intro hd
      refine pl_sole (i := 9) (by kernel_rfl) rfl ?_ hd; clear hd; intro hd
      refine o_want rfl ?_
      refine o_callK (b := p) rfl super_k (by repeat (first | with_reducible exact Takes.nil | (apply Takes.cons; focus (repeat (first | with_reducible exact Rem.here | apply Rem.there))))) rfl ?_
      rintro _ _ ⟨rfl, rfl⟩
      simp only [List.append_eq, List.cons_append, List.nil_append, List.append_nil, tup]
      refine pl_back (by repeat (first | with_reducible exact Owes.nil | with_reducible refine Owes.same ?_ | with_reducible refine Owes.any ?_ | refine Owes.waived 9 (by kernel_rfl) ?_ | refine Owes.waived 16 (by kernel_rfl) ?_)) ?_ hd; clear hd; intro hd
      refine pl_want (i := 10) rfl (by kernel_rfl) rfl (y_fieldI rfl rfl rfl) ?_ hd; clear hd; intro hd
      refine pl_want (i := 11) rfl (by kernel_rfl) rfl (y_arith64 rfl rfl rfl (by omega)) ?_ hd; clear hd; intro hd
      refine pl_want (i := 17) rfl (by kernel_rfl) rfl (y_build rfl) ?_ hd; clear hd; intro hd
      refine pl_sole (i := 18) (by kernel_rfl) rfl ?_ hd; clear hd; intro hd
      refine o_want rfl ?_
      refine o_ent (Ent.put (A := RowA true strC 1 (some ⟨sb, 0, none⟩) [c]) (P := [Blk sb (.cells ⟨[str c]⟩ 9 (0, 0))]) (by repeat (first | with_reducible exact Takes.nil | (apply Takes.cons; focus (repeat (first | with_reducible exact Rem.here | apply Rem.there))))) (RowA.shut rfl rfl) (Ent.refl _)) ?_
      refine o_call rfl (same4_f ⟨1, no, U.x.e + 1, 0, [c]⟩ ra (some ⟨sb, 0, none⟩) rc 1 false true (by simp)) (by repeat (first | with_reducible exact Takes.nil | (apply Takes.cons; focus (repeat (first | with_reducible exact Rem.here | apply Rem.there))))) rfl ?_
      rintro _ _ ⟨rfl, rfl⟩
      simp only [List.append_eq, List.cons_append, List.nil_append, List.append_nil, tup]
      refine pl_back (by repeat (first | with_reducible exact Owes.nil | with_reducible refine Owes.same ?_ | with_reducible refine Owes.any ?_ | refine Owes.waived 18 (by kernel_rfl) ?_ | refine Owes.waived 9 (by kernel_rfl) ?_ | refine Owes.waived 16 (by kernel_rfl) ?_)) ?_ hd; clear hd; intro hd
      refine pl_want (i := 19) rfl (by kernel_rfl) rfl (y_not rfl) ?_ hd; clear hd; intro hd
      refine pl_take (i := 20) rfl (by kernel_rfl) (y_pick_f rfl rfl) ?_ hd; clear hd; intro hd
      refine pl_done (by kernel_rfl) ?_ hd
      refine f_unlock (A := Bkp _ _ _) ?_
      refine f_unlock (A := Bkp _ _ _) ?_
      refine f_unlock (A := Bkp _ _ _) ?_
      refine f_unlock (A := Bkp _ _ _) ?_
      refine f_cut () ?_ (by repeat (first | exact trivial | refine ⟨rfl, ?_⟩))
      refine (Ent.put (by repeat (first | with_reducible exact Takes.nil | (apply Takes.cons; focus (repeat (first | with_reducible exact Rem.here | apply Rem.there))))) (PCo.mk U (by exact ⟨rfl, rfl, rfl, rfl, rfl, rfl, rfl⟩) hwf him2) (Ent.refl _)).trans ?_
      refine Ent.put (by repeat (first | with_reducible exact Takes.nil | (apply Takes.cons; focus (repeat (first | with_reducible exact Rem.here | apply Rem.there))))) (PRep.mk U (by exact ⟨rfl, rfl, rfl, rfl, rfl, rfl, rfl⟩) h1 h2 h3) ?_
      refine Ent.put (P := [Bkp false kb2 (.cells ⟨cs2⟩ T3 fz2)]) (by repeat (first | with_reducible exact Takes.nil | (apply Takes.cons; focus (repeat (first | with_reducible exact Rem.here | apply Rem.there))))) (RowA.shut rfl e4) ?_
      exact Ent.put (P := [Bkp false kb (.cells ⟨cs⟩ T2 fz)]) (by repeat (first | with_reducible exact Takes.nil | (apply Takes.cons; focus (repeat (first | with_reducible exact Rem.here | apply Rem.there))))) (RowA.shut rfl e2) (by repeat (first | with_reducible exact Ent.nil | (apply Ent.one; focus (repeat (first | with_reducible exact Rem.here | apply Rem.there)))))
  intro _
  refine c_false rfl ?_
  refine c_skip ?_
  refine f_block ?_
  refine f_seq ?_
  refine c_region ?_
  refine o_y (y_move rfl) rfl ?_
  refine o_y (y_arith64 rfl rfl rfl (by omega)) rfl ?_
  refine o_y (y_assign rfl) rfl ?_
  refine o_nil ?_
  exact f_next (by repeat (first | with_reducible exact Ent.nil | (apply Ent.one; focus (repeat (first | with_reducible exact Rem.here | apply Rem.there))))) (by repeat (first | exact trivial | refine ⟨rfl, ?_⟩)) (ih (i + 1) hlt3 (by omega))
end Go.Lun

/- From a contract to the world of a call: what was there stays as it was. -/
namespace Go.Lun
open Go.Proofs Go.ChangeShapes Go.WideShapes Go.ChangeAt Go.RowKit

/-- All that there is when a call begins, as its frame. -/
def Fr.all (W : World) : Fr := ⟨W.os, W.output, W.heap.size, fun b => W.heap[b]?.map fun o => (false, o), none⟩

structure Kept (W w : World) : Prop where
  os : w.os = W.os
  output : w.output = W.output
  size : W.heap.size ≤ w.heap.size
  block : ∀ k, k < W.heap.size → w.heap[k]? = W.heap[k]?

theorem sat_all (W : World) : Sat (Fr.all W).res W := by
  intro b p o h
  simp only [Fr.all, Option.map_eq_some_iff] at h
  obtain ⟨o', h1, h2⟩ := h
  injection h2 with _ h2
  rw [h1, h2]

theorem st_all (W : World) : St (Fr.all W) [] W := by
  refine ⟨rfl, rfl, Nat.le_refl _, (fun _ => none), ?_, sat_all W, ?_, trivial⟩
  · intro b p o q o' _ h; cases h
  · intro b p o h; cases h

theorem kept_of {W w : World} {L : List Asrt} (s : St (Fr.all W) L w) : Kept W w := by
  obtain ⟨h1, h2, h3, _, _, hf, _, _⟩ := s
  refine ⟨h1, h2, h3, fun k hk => ?_⟩
  have h4 : W.heap[k]? = some W.heap[k] := Array.getElem?_eq_getElem hk
  rw [h4]
  exact hf k false _ (by simp only [Fr.all, h4, Option.map_some])

theorem Kept.frame {W w : World} (h : Kept W w) (may : MemPlace → Prop) : W.keptBut w may := by
  refine ⟨h.os, h.output, fun i hi => ?_⟩
  rw [h.block i hi]
  split <;> simp_all

theorem Kept.same {W w : World} (h : Kept W w) {p : MemPlace} (hp : p.block < W.heap.size) : W.sameAt w p := by
  cases p with
  | cell b o => exact World.cell?_of_block (w := W) (h.block b hp)
  | map b => exact h.block b hp

theorem Kept.trod {H : Type} {enc : TypeId × Value → H} {P : Program} {t : TypeId} (hl : laidOutB P = true) (hr : P.readableRec t = true) (hrow : t < P.types.size) {W w : World} {v : Value} {d : DataW H} {ps : List MemPlace}
    (h : DataW.Trod enc P W 0 (fun _ => true) true t v d ps) (hb : Kept W w) (hlt : ∀ x ∈ ps, x.block < W.heap.size) :
    DataW.Trod enc P w 0 (fun b => decide (b < W.heap.size)) true t v d ps :=
  WideElems.Trod_stays hl hr hrow h (fun x hx => hb.same (hlt x hx)) (fun x hx => by simpa using hlt x hx)

/-- A contract that needs nothing but what there is, in the world of a call. -/
theorem Fn.lift {P : Program} {f : FuncId} {args : List Value} {R : Value → List Asrt → Prop} {W : World} (h : Fn P f args [] R) :
    Calls P f ⟨args⟩ W fun e w => ∃ v L, e = .returned v ∧ R v L ∧ Kept W w := (h.out (Fr.all W) W (st_all W)).mono fun e w => by
  rintro ⟨v, L, rfl, hR, s⟩
  exact ⟨v, L, rfl, hR, kept_of s⟩

theorem Try.own : ownKnob Tryz.prog.godebug = none := by kernel_rfl
theorem Try.laidOut : laidOutB Tryz.prog = true := by kernel_rfl

/-- A byte as an argument. -/
theorem open_u8 {H : Type} {enc : TypeId × Value → H} {P : Program} {W : World} {r : Reach} {b0 base : Nat} {sp : Nat → Bool} {hd : Bool} {t : TypeId} {v : Value} {d : DataW H} {ps : List MemPlace} (ht : P.underlying t = some (.int .u8)) (hval : Value.okWide P W r b0 t v) (h : DataW.Trod enc P W base sp hd t v d ps) :
    ∃ c : UInt8, v = byteV c ∧ d = .lit (.int .u8 (c.toNat : Int)) ∧ ps = [] ∧ (Lit.int .u8 (c.toNat : Int)).wf = true := by
  obtain ⟨n, rfl, rfl, rfl, hw⟩ := open_int ht hval h
  have hw' := hw
  simp only [Lit.wf, Bool.and_eq_true, decide_eq_true_eq] at hw'
  have h1 : IntKind.u8.min = 0 := rfl
  have h2 : IntKind.u8.max = 255 := rfl
  have e : ((UInt8.ofNat n.toNat).toNat : Int) = n := by
    have : (UInt8.ofNat n.toNat).toNat = n.toNat % 256 := by simp
    rw [this]; omega
  exact ⟨UInt8.ofNat n.toNat, by rw [byteV, e], by rw [e], rfl, by rw [e]; exact hw⟩
end Go.Lun

/- Rows that are read alone, out of a call's arguments. -/
namespace Go.Lun
open Go.Proofs Go.ChangeShapes Go.WideShapes Go.ChangeAt Go.RowKit Go.Deep

theorem sep_all {W : World} : ∀ {L : List Asrt}, (∀ A ∈ L, A (Fr.all W).res) → sep L (Fr.all W).res
  | [], _ => trivial
  | A :: L, h => by
    have hc : Compat (Fr.all W).res (Fr.all W).res := by
      intro b p o q o' h1 h2
      have : (p, o) = (q, o') := Option.some.inj (h1.symm.trans h2)
      injection this with e1 e2
      subst e1; subst e2
      simp only [Fr.all, Option.map_eq_some_iff] at h1
      obtain ⟨_, _, h3⟩ := h1
      injection h3 with h3 _
      exact ⟨h3.symm, h3.symm, rfl⟩
    refine ⟨(Fr.all W).res, (Fr.all W).res, hc, ?_, h A (by simp), sep_all fun B hB => h B (by simp [hB])⟩
    funext b
    simp only [join]
    split <;> simp_all

theorem st_args {W : World} {L : List Asrt} (h : ∀ A ∈ L, A (Fr.all W).res) : St (Fr.all W) L W := by
  refine ⟨rfl, rfl, Nat.le_refl _, (Fr.all W).res, ?_, sat_all W, sat_all W, sep_all h⟩
  intro b p o q o' h1 h2
  have : (p, o) = (q, o') := Option.some.inj (h1.symm.trans h2)
  injection this with e1 e2
  subst e1; subst e2
  simp only [Fr.all, Option.map_eq_some_iff] at h1
  obtain ⟨_, _, h3⟩ := h1
  injection h3 with h3 _
  exact ⟨h3.symm, h3.symm, rfl⟩

/-- A contract that only reads what the arguments read, in the world of a call. -/
theorem Fn.lift_args {P : Program} {f : FuncId} {args : List Value} {L0 : List Asrt} {R : Value → List Asrt → Prop} {W : World} (h : Fn P f args L0 R) (hL : ∀ A ∈ L0, A (Fr.all W).res) :
    Calls P f ⟨args⟩ W fun e w => ∃ v L, e = .returned v ∧ R v L ∧ Kept W w := (h.out (Fr.all W) W (st_args hL)).mono fun e w => by
  rintro ⟨v, L, rfl, hR, s⟩
  exact ⟨v, L, rfl, hR, kept_of s⟩

theorem mapM_get {α β : Type} {g : α → Option β} : ∀ {xs : List α} {ys : List β}, xs.mapM g = some ys → ys.length = xs.length ∧ ∀ (j : Nat) (x : α), xs[j]? = some x → g x = ys[j]?
  | [], ys, h => by simp at h; subst h; simp
  | x :: xs, ys, h => by
    rw [List.mapM_cons] at h
    cases hg : g x with
    | none => rw [hg] at h; cases h
    | some y =>
      cases hm : xs.mapM g with
      | none => rw [hg, hm] at h; cases h
      | some zs =>
        rw [hg, hm] at h
        have h' : y :: zs = ys := by injection h
        subst h'
        obtain ⟨h1, h2⟩ := mapM_get hm
        refine ⟨by simp [h1], fun j z hz => ?_⟩
        cases j with
        | zero => simp at hz; subst hz; simpa using hg
        | succ j => simpa using h2 j z (by simpa using hz)

theorem getN_of {cs ys : List Value} {off : Nat} (h : ∀ j, j < ys.length → cs[off + j]? = ys[j]?) : getN cs off ys.length = some ys := by
  have hl : ys.length ≤ (cs.drop off).length := by
    rw [List.length_drop]
    rcases Nat.eq_zero_or_pos ys.length with h0 | h0
    · omega
    · have := h (ys.length - 1) (by omega)
      rw [List.getElem?_eq_getElem (by omega : ys.length - 1 < ys.length)] at this
      have h2 : off + (ys.length - 1) < cs.length := by
        rcases Nat.lt_or_ge (off + (ys.length - 1)) cs.length with h3 | h3
        · exact h3
        · rw [List.getElem?_eq_none h3] at this; cases this
      omega
  unfold getN
  rw [takeN_take hl]
  congr 1
  apply List.ext_getElem?
  intro j
  rcases Nat.lt_or_ge j ys.length with hj | hj
  · rw [List.getElem?_take_of_lt hj, List.getElem?_drop]; exact h j hj
  · rw [List.getElem?_eq_none hj, List.getElem?_eq_none (by rw [List.length_take]; omega)]

theorem getN_app {cs us vs : List Value} {off k m : Nat} (h1 : getN cs off k = some us) (h2 : getN cs (off + k) m = some vs) : getN cs off (k + m) = some (us ++ vs) := by
  have l1 := getN_length h1
  have l2 := getN_length h2
  have g1 := (takeN_get h1).2
  have g2 := (takeN_get h2).2
  have := getN_of (cs := cs) (ys := us ++ vs) (off := off) (fun j hj => by
    rw [List.length_append] at hj
    by_cases hjk : j < us.length
    · rw [List.getElem?_append_left hjk, ← g1 j (by omega), List.getElem?_drop]
    · rw [List.getElem?_append_right (by omega), ← g2 (j - us.length) (by omega), List.getElem?_drop]
      congr 1; omega)
  rw [List.length_append, l1, l2] at this
  exact this

theorem getN_flat {α : Type} {f : α → List Value} {k : Nat} {cs : List Value} : ∀ {xs : List α} {off : Nat}, (∀ i x, xs[i]? = some x → getN cs (off + i * k) k = some (f x)) → getN cs off (xs.length * k) = some (xs.flatMap f)
  | [], off, _ => by simp [getN, takeN]
  | x :: xs, off, h => by
    have h0 := h 0 x rfl
    rw [Nat.zero_mul, Nat.add_zero] at h0
    have ih := getN_flat (xs := xs) (off := off + k) (fun i y hy => by
      have := h (i + 1) y (by simpa using hy)
      have e : off + (i + 1) * k = off + k + i * k := by rw [Nat.add_mul, Nat.one_mul]; omega
      rw [← e]; exact this)
    have := getN_app h0 ih
    rw [List.flatMap_cons, List.length_cons, Nat.add_mul, Nat.one_mul, Nat.add_comm]
    exact this

/-- Cells of a world's row. -/
theorem cells_at {W : World} {a : Addr} {o k : Nat} {l : List Value} (hk : 0 < k) (h : W.cells? 0 (a.add o) k = some l) :
    ∃ (c : List Value) (T : TypeId) (fz : Nat × Nat), W.heap[a.block]? = some (.cells ⟨c⟩ T fz) ∧ getN c (a.off + o) k = some l ∧ (o = 0 → a.spot = none) := by
  unfold World.cells? at h
  rw [if_pos (Nat.zero_le _)] at h
  obtain ⟨h1, h2⟩ := mapM_get h
  rw [List.length_range] at h1
  have hb : (a.add o).block = a.block := by unfold Addr.add; split <;> rfl
  have ho : (a.add o).off = a.off + o := by unfold Addr.add; split <;> simp_all
  have key : ∀ j, j < k → W.cell? ((a.add o).add j) = l[j]? := fun j hj => h2 j j (by rw [List.getElem?_range hj])
  have hbj : ∀ j, ((a.add o).add j).block = a.block := fun j => by rw [← hb]; generalize a.add o = a'; unfold Addr.add; split <;> rfl
  have hoj : ∀ j, ((a.add o).add j).off = a.off + o + j := fun j => by rw [← ho]; generalize a.add o = a'; unfold Addr.add; split <;> simp_all
  cases hh : W.heap[a.block]? with
  | none =>
    have := key 0 hk
    unfold World.cell? at this
    rw [hbj, hh, List.getElem?_eq_getElem (by omega)] at this
    cases this
  | some ob =>
    cases ob with
    | cells c T fz =>
      obtain ⟨c⟩ := c
      refine ⟨c, T, fz, rfl, ?_, ?_⟩
      · have := getN_of (cs := c) (ys := l) (off := a.off + o) (fun j hj => by
          have := key j (by omega)
          unfold World.cell? at this
          rw [hbj, hh] at this
          dsimp only at this
          split at this
          · rw [List.getElem?_eq_getElem hj] at this; cases this
          · rw [hoj] at this; simpa using this)
        rw [h1] at this; exact this
      · intro h0
        subst h0
        have := key 0 hk
        unfold World.cell? at this
        rw [hbj, hh, List.getElem?_eq_getElem (by omega)] at this
        dsimp only at this
        split at this
        · cases this
        · rename_i hs
          have e : (a.add 0).add 0 = a := by simp [Addr.add]
          rw [e] at hs
          simpa using hs
    | _ =>
      have := key 0 hk
      unfold World.cell? at this
      rw [hbj, hh, List.getElem?_eq_getElem (by omega)] at this
      cases this

theorem rowA_of {α : Type} {W : World} {f : α → List Value} {k : Nat} (hk : 0 < k) {a : Addr} {xs : List α} (h : ∀ i x, xs[i]? = some x → W.cells? 0 (a.add (i * k)) k = some (f x)) : RowA false f k (some a) xs (Fr.all W).res := by
  intro hne
  cases xs with
  | nil => exact absurd rfl hne
  | cons x xs =>
    obtain ⟨c, T, fz, h1, h2, h3⟩ := cells_at hk (h 0 x rfl)
    have hsp := h3 (Nat.zero_mul _)
    obtain ⟨b, off, sp⟩ := a
    dsimp only at hsp h1 h2
    subst hsp
    refine ⟨b, off, c, T, fz, rfl, getN_flat (fun i y hy => ?_), ?_⟩
    · obtain ⟨c', T', fz', g1, g2, _⟩ := cells_at hk (h i y hy)
      dsimp only at g1 g2
      rw [h1] at g1
      injection g1 with g1
      injection g1 with e1 e2 e3
      injection e1 with e1
      rw [e1]; exact g2
    · simp only [Fr.all, h1, Option.map_some]

theorem list_of {α : Type} {p : Nat → α → Prop} : ∀ n, (∀ i, i < n → ∃ x, p i x) → ∃ xs : List α, xs.length = n ∧ ∀ i x, xs[i]? = some x → p i x
  | 0, _ => ⟨[], rfl, fun i x h => by simp at h⟩
  | n + 1, h => by
    obtain ⟨xs, h1, h2⟩ := list_of n (fun i hi => h i (by omega))
    obtain ⟨x, hx⟩ := h n (by omega)
    refine ⟨xs ++ [x], by simp [h1], fun i y hy => ?_⟩
    rcases Nat.lt_or_ge i xs.length with hi | hi
    · rw [List.getElem?_append_left hi] at hy; exact h2 i y hy
    · rw [List.getElem?_append_right hi] at hy
      have : i = n := by
        rcases Nat.lt_or_ge (i - xs.length) 1 with g | g
        · omega
        · rw [List.getElem?_eq_none (by simpa using g)] at hy; cases hy
      subst this
      rw [h1, Nat.sub_self] at hy
      simp at hy; subst hy; exact hx

/-- A row out of an argument, by what each of its elements is. -/
theorem row_open {α : Type} {H : Type} {enc : TypeId × Value → H} {P : Program} {W : World} {sp : Nat → Bool} {hd : Bool} {fuel k : Nat} {t e : TypeId} {cs0 : List Value} {y : DataW H × List MemPlace} (f : α → List Value) (Q : α → Prop) (hk : 0 < k)
    (ht : P.underlying t = some (.slice e)) (hc : P.cellsOf e = k) (hel : ∀ n cs y, DataW.trod enc P W 0 sp hd n e cs = some y → ∃ x : α, cs = f x ∧ Q x) (h : DataW.trod enc P W 0 sp hd fuel t cs0 = some y) :
    ∃ (a : Option Addr) (cap : Nat) (xs : List α), cs0 = [.slice a xs.length cap] ∧ RowA false f k a xs (Fr.all W).res ∧ (∀ x ∈ xs, Q x) ∧ (a = none → cap = 0) ∧ xs.length ≤ cap ∧ cap ≤ maxLen := by
  rcases DataW.trod_slice ht h with ⟨h0, _⟩ | ⟨a, len, cap, elems, rest, n, _, hcs, _, _, hlc, hcm, hlen, hels, _, _⟩
  · exact ⟨none, 0, [], h0, fun hne => absurd rfl hne, by simp, fun _ => rfl, Nat.le_refl _, Nat.zero_le _⟩
  · rw [hc] at hels
    obtain ⟨xs, hxl, hx⟩ := list_of (α := α) (p := fun i x => W.cells? 0 (a.add (i * k)) k = some (f x) ∧ Q x) len (fun i hi => by
      have h1 := hels i hi
      rw [List.getElem?_eq_getElem (by omega)] at h1
      cases hcc : W.cells? 0 (a.add (i * k)) k with
      | none => rw [hcc] at h1; cases h1
      | some cs =>
        rw [hcc] at h1
        obtain ⟨x, rfl, hq⟩ := hel n cs _ h1
        exact ⟨x, rfl, hq⟩)
    refine ⟨some a, cap, xs, by rw [hxl]; exact hcs, rowA_of hk (fun i x hi => (hx i x hi).1), fun x hm => ?_, (fun h => by cases h), by omega, hcm⟩
    obtain ⟨i, hi, rfl⟩ := List.mem_iff_getElem.1 hm
    exact (hx i _ (List.getElem?_eq_getElem hi)).2
end Go.Lun

/- Acts of layer 8, out of arguments. -/
namespace Go.Lun
open Go.Proofs Go.ChangeShapes Go.WideShapes Go.ChangeAt Go.RowKit Go.Deep

theorem cells_int : Tryz.prog.cellsOf 3 = 1 := by kernel_rfl
theorem cells_string : Tryz.prog.cellsOf 9 = 1 := by kernel_rfl
theorem cells_strings : Tryz.prog.cellsOf 37 = 1 := by kernel_rfl
theorem cells_actP : Tryz.prog.cellsOf 39 = 7 := by kernel_rfl

section
variable {H : Type} {enc : TypeId × Value → H} {W : World} {sp : Nat → Bool} {hd : Bool}
/-- A struct's field of one cell. -/
theorem fld_open {P : Program} {m : Nat} {fs : Array Field} {cs : List Value} {xs : List (DataW H × List MemPlace)} (hxl : xs.length = fs.size)
    (hf : ∀ (i : Nat) (f : Field), fs[i]? = some f → DataW.trod enc P W 0 sp hd m f.type ((cs.drop f.offset).take (P.cellsOf f.type)) = xs[i]?)
    (i : Nat) (t : TypeId) (c : Value) {fl : Field} (h1 : fs[i]? = some fl) (h2 : fl.type = t) (h3 : fl.offset = i) (hc : P.cellsOf t = 1) (h4 : cs[i]? = some c) : ∃ y, DataW.trod enc P W 0 sp hd m t [c] = some y := by
  have h := hf i fl h1
  subst h2
  rw [h3, hc] at h
  have hi : i < fs.size := by
    rcases Nat.lt_or_ge i fs.size with g | g
    · exact g
    · rw [Array.getElem?_eq_none g] at h1; cases h1
  have e : (cs.drop i).take 1 = [c] := by
    have hlt : i < cs.length := by
      rcases Nat.lt_or_ge i cs.length with g | g
      · exact g
      · rw [List.getElem?_eq_none g] at h4; cases h4
    rw [List.getElem?_eq_getElem hlt] at h4
    injection h4 with h4
    rw [List.drop_eq_getElem_cons hlt, h4]
    rfl
  rw [e, List.getElem?_eq_getElem (by omega)] at h
  exact ⟨_, h⟩

theorem str_open (n : Nat) (cs : List Value) (y : DataW H × List MemPlace) (h : DataW.trod enc Tryz.prog W 0 sp hd n 9 cs = some y) : ∃ b : Bytes, cs = strC b ∧ True := by
  obtain ⟨s, h1, _, _⟩ := DataW.trod_string Tryz.underlying9 h
  exact ⟨s.data.toList, h1, trivial⟩
set_option maxRecDepth 20000 in
theorem actP_open (n : Nat) (cs : List Value) (y : DataW H × List MemPlace) (h : DataW.trod enc Tryz.prog W 0 sp hd n 39 cs = some y) : ∃ x : AP, cs = x.cellsV ∧ KP x (Fr.all W).res := by
  obtain ⟨xs, m, _, _, hl, hxl, hf⟩ := DataW.trod_struct Tryz.underlying39 h
  rw [cells_actP] at hl
  match cs, hl with
  | [c0, c1, c2, c3, c4, c5, c6], _ =>
    obtain ⟨y0, f0⟩ := fld_open hxl hf 0 3 c0 rfl rfl rfl cells_int rfl
    obtain ⟨y1, f1⟩ := fld_open hxl hf 1 3 c1 rfl rfl rfl cells_int rfl
    obtain ⟨y2, f2⟩ := fld_open hxl hf 2 3 c2 rfl rfl rfl cells_int rfl
    obtain ⟨y3, f3⟩ := fld_open hxl hf 3 3 c3 rfl rfl rfl cells_int rfl
    obtain ⟨y4, f4⟩ := fld_open hxl hf 4 3 c4 rfl rfl rfl cells_int rfl
    obtain ⟨y5, f5⟩ := fld_open hxl hf 5 3 c5 rfl rfl rfl cells_int rfl
    obtain ⟨y6, f6⟩ := fld_open hxl hf 6 37 c6 rfl rfl rfl cells_strings rfl
    obtain ⟨a0, e0, _, _⟩ := DataW.trod_int Tryz.underlying3 f0
    obtain ⟨a1, e1, _, _⟩ := DataW.trod_int Tryz.underlying3 f1
    obtain ⟨a2, e2, _, _⟩ := DataW.trod_int Tryz.underlying3 f2
    obtain ⟨a3, e3, _, _⟩ := DataW.trod_int Tryz.underlying3 f3
    obtain ⟨a4, e4, _, _⟩ := DataW.trod_int Tryz.underlying3 f4
    obtain ⟨a5, e5, _, _⟩ := DataW.trod_int Tryz.underlying3 f5
    obtain ⟨ka, kc, ks, e6, hrow, _, _, _, _⟩ := row_open strC (fun _ => True) (by decide) Tryz.underlying37 cells_string str_open f6
    injection e0 with e0
    injection e1 with e1
    injection e2 with e2
    injection e3 with e3
    injection e4 with e4
    injection e5 with e5
    injection e6 with e6
    refine ⟨⟨a0, a1, a2, a3, a4, a5, ka, kc, ks⟩, ?_, hrow⟩
    simp only [AP.cellsV]
    rw [e0, e1, e2, e3, e4, e5, e6]
end
end Go.Lun

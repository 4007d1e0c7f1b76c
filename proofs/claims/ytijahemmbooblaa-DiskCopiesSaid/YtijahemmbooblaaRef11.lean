/- Whether a disk is the document's. -/
import Derived.Test.YtijahemmbooblaaRef10
namespace Go.Lun
open Go.Proofs

set_option maxHeartbeats 3200000 in
theorem same_f (d : Nat) (S : DS) (A : MA) (c : Nat) (hc : c ≤ 1000) (h : AI c S) :
    Fn Try.prog 25 [.pointer (some ⟨d, 0, none⟩), S.doc.val A] [DRep d S, RowL S.doc A, RowW S.doc A] (fun v L => v = .bool true ∧ L = [DRep d S, RowL S.doc A, RowW S.doc A]) := by
  have hlen := doc_len h
  have hpos := h.pos
  have hll : S.doc.loose.length = S.loose.length := rfl
  have h1 := h.di.loose
  have h4 := h.di.most
  have h5 := h.di.room
  refine fn_start Try.func25 rfl rfl rfl fun F => ?_
  refine c_seq ?_
  refine c_region ?_
  refine o_box rfl rfl (fun mb => ?_)
  refine o_y (y_assign rfl) rfl ?_
  refine o_nil ?_
  refine f_seq ?_
  refine c_seq ?_
  refine c_seq ?_
  refine c_cut (X := Unit) (fun _ => [Blk mb (.cells ⟨S.doc.cells A⟩ 46 (0, 0)), DRep d S, RowL S.doc A, RowW S.doc A])
    (fun _ => [(0, .pointer (some ⟨d, 0, none⟩)), (3, .pointer (some ⟨mb, 0, none⟩)), (35, .bool false)]) ?_ ?_
  · cases hb : S.burns with
    | false =>
      have hb2 : S.doc.burns = false := hb
      have hdd : S.dead = false := by simp [DS.dead, hb]
      dsimp only [RM.cells]
      rw [hb2]
      refine pl_start [1, 8, 16] Try.mixed ?_; intro hd
      refine pl_lock (A := Blk _ _) Rem.here rfl ?_ hd; intro hb0
      refine pl_take (i := 0) rfl (by kernel_rfl) (y_move rfl) ?_ hd; clear hd; intro hd
      refine pl_take (i := 2) rfl (by kernel_rfl) (y_fieldAddr0 rfl) ?_ hd; clear hd; intro hd
      refine pl_take (i := 3) rfl (by kernel_rfl) (y_load rfl rfl rfl) ?_ hd; clear hd; intro hd
      refine pl_take (i := 4) rfl (by kernel_rfl) (y_len_slice rfl) ?_ hd; clear hd; intro hd
      refine pl_sole (i := 1) (by kernel_rfl) rfl ?_ hd; clear hd; intro hd
      refine o_call rfl (pages_d d S) (by repeat (first | with_reducible exact Takes.nil | (apply Takes.cons; focus (repeat (first | with_reducible exact Rem.here | apply Rem.there))))) rfl ?_
      rintro _ _ ⟨rfl, rfl⟩
      simp only [List.append_eq, List.cons_append, List.nil_append, List.append_nil, tup]
      refine pl_back (by repeat (first | with_reducible exact Owes.nil | with_reducible refine Owes.same ?_ | with_reducible refine Owes.any ?_ | refine Owes.waived 1 (by kernel_rfl) ?_)) ?_ hd; clear hd; intro hd
      refine pl_take (i := 5) rfl (by kernel_rfl) (y_neq_f rfl rfl (by omega)) ?_ hd; clear hd; intro hd
      refine pl_take (i := 6) rfl (by kernel_rfl) (y_move rfl) ?_ hd; clear hd; intro hd
      refine pl_want (i := 7) rfl (by kernel_rfl) rfl (y_move rfl) ?_ hd; clear hd; intro hd
      refine pl_want (i := 9) rfl (by kernel_rfl) rfl (y_fieldAddr0 rfl) ?_ hd; clear hd; intro hd
      refine pl_want (i := 10) rfl (by kernel_rfl) rfl (y_load rfl rfl rfl) ?_ hd; clear hd; intro hd
      refine pl_want (i := 11) rfl (by kernel_rfl) rfl (y_len_slice rfl) ?_ hd; clear hd; intro hd
      refine pl_sole (i := 8) (by kernel_rfl) rfl ?_ hd; clear hd; intro hd
      refine o_want rfl ?_
      refine o_call rfl (loose_d d S) (by repeat (first | with_reducible exact Takes.nil | (apply Takes.cons; focus (repeat (first | with_reducible exact Rem.here | apply Rem.there))))) rfl ?_
      rintro _ _ ⟨rfl, rfl⟩
      simp only [List.append_eq, List.cons_append, List.nil_append, List.append_nil, tup]
      refine pl_back (by repeat (first | with_reducible exact Owes.nil | with_reducible refine Owes.same ?_ | with_reducible refine Owes.any ?_ | refine Owes.waived 8 (by kernel_rfl) ?_ | refine Owes.waived 1 (by kernel_rfl) ?_)) ?_ hd; clear hd; intro hd
      refine pl_want (i := 12) rfl (by kernel_rfl) rfl (y_neq_f rfl rfl (by omega)) ?_ hd; clear hd; intro hd
      refine pl_take (i := 13) rfl (by kernel_rfl) (y_pick_f rfl rfl) ?_ hd; clear hd; intro hd
      refine pl_take (i := 14) rfl (by kernel_rfl) (y_move rfl) ?_ hd; clear hd; intro hd
      refine pl_want (i := 15) rfl (by kernel_rfl) rfl (y_move rfl) ?_ hd; clear hd; intro hd
      refine pl_want (i := 17) rfl (by kernel_rfl) rfl (y_fieldAddr0 rfl) ?_ hd; clear hd; intro hd
      refine pl_want (i := 18) rfl (by kernel_rfl) rfl (y_load rfl rfl rfl) ?_ hd; clear hd; intro hd
      refine pl_sole (i := 16) (by kernel_rfl) rfl ?_ hd; clear hd; intro hd
      refine o_want rfl ?_
      refine o_call rfl (dead_d d S) (by repeat (first | with_reducible exact Takes.nil | (apply Takes.cons; focus (repeat (first | with_reducible exact Rem.here | apply Rem.there))))) rfl ?_
      rintro _ _ ⟨rfl, rfl⟩
      simp only [List.append_eq, List.cons_append, List.nil_append, List.append_nil, tup]
      rw [hdd]
      refine pl_back (by repeat (first | with_reducible exact Owes.nil | with_reducible refine Owes.same ?_ | with_reducible refine Owes.any ?_ | refine Owes.waived 16 (by kernel_rfl) ?_ | refine Owes.waived 8 (by kernel_rfl) ?_ | refine Owes.waived 1 (by kernel_rfl) ?_)) ?_ hd; clear hd; intro hd
      refine pl_want (i := 19) rfl (by kernel_rfl) rfl (y_move rfl) ?_ hd; clear hd; intro hd
      refine pl_skip (i := 20) rfl (by kernel_rfl) rfl ?_ hd; clear hd; intro hd
      refine pl_skip (i := 21) rfl (by kernel_rfl) rfl ?_ hd; clear hd; intro hd
      refine pl_skip (i := 22) rfl (by kernel_rfl) rfl ?_ hd; clear hd; intro hd
      refine pl_want (i := 23) rfl (by kernel_rfl) rfl (y_pick_f rfl rfl) ?_ hd; clear hd; intro hd
      refine pl_want (i := 24) rfl (by kernel_rfl) rfl (y_neq_bool rfl rfl) ?_ hd; clear hd; intro hd
      refine pl_take (i := 25) rfl (by kernel_rfl) (y_pick_f rfl rfl) ?_ hd; clear hd; intro hd
      refine pl_done (by kernel_rfl) ?_ hd
      refine f_unlock (A := Blk _ _) ?_
      exact f_cut () (by repeat (first | with_reducible exact Ent.nil | (apply Ent.one; focus (repeat (first | with_reducible exact Rem.here | apply Rem.there))))) (by repeat (first | exact trivial | refine ⟨rfl, ?_⟩))
    | true =>
      have hb2 : S.doc.burns = true := hb
      have hfu : S.doc.fuse = S.fuse := rfl
      dsimp only [RM.cells]
      rw [hb2]
      by_cases f0 : S.fuse = 0
      · have hdd : S.dead = true := by simp [DS.dead, hb, f0]
        refine pl_start [1, 8, 16] Try.mixed ?_; intro hd
        refine pl_lock (A := Blk _ _) Rem.here rfl ?_ hd; intro hb0
        refine pl_take (i := 0) rfl (by kernel_rfl) (y_move rfl) ?_ hd; clear hd; intro hd
        refine pl_take (i := 2) rfl (by kernel_rfl) (y_fieldAddr0 rfl) ?_ hd; clear hd; intro hd
        refine pl_take (i := 3) rfl (by kernel_rfl) (y_load rfl rfl rfl) ?_ hd; clear hd; intro hd
        refine pl_take (i := 4) rfl (by kernel_rfl) (y_len_slice rfl) ?_ hd; clear hd; intro hd
        refine pl_sole (i := 1) (by kernel_rfl) rfl ?_ hd; clear hd; intro hd
        refine o_call rfl (pages_d d S) (by repeat (first | with_reducible exact Takes.nil | (apply Takes.cons; focus (repeat (first | with_reducible exact Rem.here | apply Rem.there))))) rfl ?_
        rintro _ _ ⟨rfl, rfl⟩
        simp only [List.append_eq, List.cons_append, List.nil_append, List.append_nil, tup]
        refine pl_back (by repeat (first | with_reducible exact Owes.nil | with_reducible refine Owes.same ?_ | with_reducible refine Owes.any ?_ | refine Owes.waived 1 (by kernel_rfl) ?_)) ?_ hd; clear hd; intro hd
        refine pl_take (i := 5) rfl (by kernel_rfl) (y_neq_f rfl rfl (by omega)) ?_ hd; clear hd; intro hd
        refine pl_take (i := 6) rfl (by kernel_rfl) (y_move rfl) ?_ hd; clear hd; intro hd
        refine pl_want (i := 7) rfl (by kernel_rfl) rfl (y_move rfl) ?_ hd; clear hd; intro hd
        refine pl_want (i := 9) rfl (by kernel_rfl) rfl (y_fieldAddr0 rfl) ?_ hd; clear hd; intro hd
        refine pl_want (i := 10) rfl (by kernel_rfl) rfl (y_load rfl rfl rfl) ?_ hd; clear hd; intro hd
        refine pl_want (i := 11) rfl (by kernel_rfl) rfl (y_len_slice rfl) ?_ hd; clear hd; intro hd
        refine pl_sole (i := 8) (by kernel_rfl) rfl ?_ hd; clear hd; intro hd
        refine o_want rfl ?_
        refine o_call rfl (loose_d d S) (by repeat (first | with_reducible exact Takes.nil | (apply Takes.cons; focus (repeat (first | with_reducible exact Rem.here | apply Rem.there))))) rfl ?_
        rintro _ _ ⟨rfl, rfl⟩
        simp only [List.append_eq, List.cons_append, List.nil_append, List.append_nil, tup]
        refine pl_back (by repeat (first | with_reducible exact Owes.nil | with_reducible refine Owes.same ?_ | with_reducible refine Owes.any ?_ | refine Owes.waived 8 (by kernel_rfl) ?_ | refine Owes.waived 1 (by kernel_rfl) ?_)) ?_ hd; clear hd; intro hd
        refine pl_want (i := 12) rfl (by kernel_rfl) rfl (y_neq_f rfl rfl (by omega)) ?_ hd; clear hd; intro hd
        refine pl_take (i := 13) rfl (by kernel_rfl) (y_pick_f rfl rfl) ?_ hd; clear hd; intro hd
        refine pl_take (i := 14) rfl (by kernel_rfl) (y_move rfl) ?_ hd; clear hd; intro hd
        refine pl_want (i := 15) rfl (by kernel_rfl) rfl (y_move rfl) ?_ hd; clear hd; intro hd
        refine pl_want (i := 17) rfl (by kernel_rfl) rfl (y_fieldAddr0 rfl) ?_ hd; clear hd; intro hd
        refine pl_want (i := 18) rfl (by kernel_rfl) rfl (y_load rfl rfl rfl) ?_ hd; clear hd; intro hd
        refine pl_sole (i := 16) (by kernel_rfl) rfl ?_ hd; clear hd; intro hd
        refine o_want rfl ?_
        refine o_call rfl (dead_d d S) (by repeat (first | with_reducible exact Takes.nil | (apply Takes.cons; focus (repeat (first | with_reducible exact Rem.here | apply Rem.there))))) rfl ?_
        rintro _ _ ⟨rfl, rfl⟩
        simp only [List.append_eq, List.cons_append, List.nil_append, List.append_nil, tup]
        rw [hdd]
        refine pl_back (by repeat (first | with_reducible exact Owes.nil | with_reducible refine Owes.same ?_ | with_reducible refine Owes.any ?_ | refine Owes.waived 16 (by kernel_rfl) ?_ | refine Owes.waived 8 (by kernel_rfl) ?_ | refine Owes.waived 1 (by kernel_rfl) ?_)) ?_ hd; clear hd; intro hd
        refine pl_want (i := 19) rfl (by kernel_rfl) rfl (y_move rfl) ?_ hd; clear hd; intro hd
        refine pl_want (i := 20) rfl (by kernel_rfl) rfl (y_fieldAddr0 rfl) ?_ hd; clear hd; intro hd
        refine pl_want (i := 21) rfl (by kernel_rfl) rfl (y_load rfl rfl rfl) ?_ hd; clear hd; intro hd
        refine pl_want (i := 22) rfl (by kernel_rfl) rfl (y_eql_t rfl rfl (by omega)) ?_ hd; clear hd; intro hd
        refine pl_want (i := 23) rfl (by kernel_rfl) rfl (y_pick_t rfl rfl) ?_ hd; clear hd; intro hd
        refine pl_want (i := 24) rfl (by kernel_rfl) rfl (y_neq_bool rfl rfl) ?_ hd; clear hd; intro hd
        refine pl_take (i := 25) rfl (by kernel_rfl) (y_pick_f rfl rfl) ?_ hd; clear hd; intro hd
        refine pl_done (by kernel_rfl) ?_ hd
        refine f_unlock (A := Blk _ _) ?_
        exact f_cut () (by repeat (first | with_reducible exact Ent.nil | (apply Ent.one; focus (repeat (first | with_reducible exact Rem.here | apply Rem.there))))) (by repeat (first | exact trivial | refine ⟨rfl, ?_⟩))
      · have hdd : S.dead = false := by simp [DS.dead, hb, f0]
        refine pl_start [1, 8, 16] Try.mixed ?_; intro hd
        refine pl_lock (A := Blk _ _) Rem.here rfl ?_ hd; intro hb0
        refine pl_take (i := 0) rfl (by kernel_rfl) (y_move rfl) ?_ hd; clear hd; intro hd
        refine pl_take (i := 2) rfl (by kernel_rfl) (y_fieldAddr0 rfl) ?_ hd; clear hd; intro hd
        refine pl_take (i := 3) rfl (by kernel_rfl) (y_load rfl rfl rfl) ?_ hd; clear hd; intro hd
        refine pl_take (i := 4) rfl (by kernel_rfl) (y_len_slice rfl) ?_ hd; clear hd; intro hd
        refine pl_sole (i := 1) (by kernel_rfl) rfl ?_ hd; clear hd; intro hd
        refine o_call rfl (pages_d d S) (by repeat (first | with_reducible exact Takes.nil | (apply Takes.cons; focus (repeat (first | with_reducible exact Rem.here | apply Rem.there))))) rfl ?_
        rintro _ _ ⟨rfl, rfl⟩
        simp only [List.append_eq, List.cons_append, List.nil_append, List.append_nil, tup]
        refine pl_back (by repeat (first | with_reducible exact Owes.nil | with_reducible refine Owes.same ?_ | with_reducible refine Owes.any ?_ | refine Owes.waived 1 (by kernel_rfl) ?_)) ?_ hd; clear hd; intro hd
        refine pl_take (i := 5) rfl (by kernel_rfl) (y_neq_f rfl rfl (by omega)) ?_ hd; clear hd; intro hd
        refine pl_take (i := 6) rfl (by kernel_rfl) (y_move rfl) ?_ hd; clear hd; intro hd
        refine pl_want (i := 7) rfl (by kernel_rfl) rfl (y_move rfl) ?_ hd; clear hd; intro hd
        refine pl_want (i := 9) rfl (by kernel_rfl) rfl (y_fieldAddr0 rfl) ?_ hd; clear hd; intro hd
        refine pl_want (i := 10) rfl (by kernel_rfl) rfl (y_load rfl rfl rfl) ?_ hd; clear hd; intro hd
        refine pl_want (i := 11) rfl (by kernel_rfl) rfl (y_len_slice rfl) ?_ hd; clear hd; intro hd
        refine pl_sole (i := 8) (by kernel_rfl) rfl ?_ hd; clear hd; intro hd
        refine o_want rfl ?_
        refine o_call rfl (loose_d d S) (by repeat (first | with_reducible exact Takes.nil | (apply Takes.cons; focus (repeat (first | with_reducible exact Rem.here | apply Rem.there))))) rfl ?_
        rintro _ _ ⟨rfl, rfl⟩
        simp only [List.append_eq, List.cons_append, List.nil_append, List.append_nil, tup]
        refine pl_back (by repeat (first | with_reducible exact Owes.nil | with_reducible refine Owes.same ?_ | with_reducible refine Owes.any ?_ | refine Owes.waived 8 (by kernel_rfl) ?_ | refine Owes.waived 1 (by kernel_rfl) ?_)) ?_ hd; clear hd; intro hd
        refine pl_want (i := 12) rfl (by kernel_rfl) rfl (y_neq_f rfl rfl (by omega)) ?_ hd; clear hd; intro hd
        refine pl_take (i := 13) rfl (by kernel_rfl) (y_pick_f rfl rfl) ?_ hd; clear hd; intro hd
        refine pl_take (i := 14) rfl (by kernel_rfl) (y_move rfl) ?_ hd; clear hd; intro hd
        refine pl_want (i := 15) rfl (by kernel_rfl) rfl (y_move rfl) ?_ hd; clear hd; intro hd
        refine pl_want (i := 17) rfl (by kernel_rfl) rfl (y_fieldAddr0 rfl) ?_ hd; clear hd; intro hd
        refine pl_want (i := 18) rfl (by kernel_rfl) rfl (y_load rfl rfl rfl) ?_ hd; clear hd; intro hd
        refine pl_sole (i := 16) (by kernel_rfl) rfl ?_ hd; clear hd; intro hd
        refine o_want rfl ?_
        refine o_call rfl (dead_d d S) (by repeat (first | with_reducible exact Takes.nil | (apply Takes.cons; focus (repeat (first | with_reducible exact Rem.here | apply Rem.there))))) rfl ?_
        rintro _ _ ⟨rfl, rfl⟩
        simp only [List.append_eq, List.cons_append, List.nil_append, List.append_nil, tup]
        rw [hdd]
        refine pl_back (by repeat (first | with_reducible exact Owes.nil | with_reducible refine Owes.same ?_ | with_reducible refine Owes.any ?_ | refine Owes.waived 16 (by kernel_rfl) ?_ | refine Owes.waived 8 (by kernel_rfl) ?_ | refine Owes.waived 1 (by kernel_rfl) ?_)) ?_ hd; clear hd; intro hd
        refine pl_want (i := 19) rfl (by kernel_rfl) rfl (y_move rfl) ?_ hd; clear hd; intro hd
        refine pl_want (i := 20) rfl (by kernel_rfl) rfl (y_fieldAddr0 rfl) ?_ hd; clear hd; intro hd
        refine pl_want (i := 21) rfl (by kernel_rfl) rfl (y_load rfl rfl rfl) ?_ hd; clear hd; intro hd
        refine pl_want (i := 22) rfl (by kernel_rfl) rfl (y_eql_f rfl rfl (by omega)) ?_ hd; clear hd; intro hd
        refine pl_want (i := 23) rfl (by kernel_rfl) rfl (y_pick_t rfl rfl) ?_ hd; clear hd; intro hd
        refine pl_want (i := 24) rfl (by kernel_rfl) rfl (y_neq_bool rfl rfl) ?_ hd; clear hd; intro hd
        refine pl_take (i := 25) rfl (by kernel_rfl) (y_pick_f rfl rfl) ?_ hd; clear hd; intro hd
        refine pl_done (by kernel_rfl) ?_ hd
        refine f_unlock (A := Blk _ _) ?_
        exact f_cut () (by repeat (first | with_reducible exact Ent.nil | (apply Ent.one; focus (repeat (first | with_reducible exact Rem.here | apply Rem.there))))) (by repeat (first | exact trivial | refine ⟨rfl, ?_⟩))
  intro _
  refine c_false rfl ?_
  refine c_skip ?_
  refine f_seq ?_
  refine c_seq ?_
  refine c_seq ?_
  refine c_region ?_
  refine o_y (y_assign rfl) rfl ?_
  refine o_nil ?_
  refine f_seq ?_
  refine c_block ?_
  refine c_loop_inv (X := Nat) (fun _ => True) (fun k => S.pages.toNat + 2 - k) (fun _ => [Blk mb (.cells ⟨S.doc.cells A⟩ 46 (0, 0)), DRep d S, RowL S.doc A, RowW S.doc A])
    (fun k => [(0, .pointer (some ⟨d, 0, none⟩)), (3, .pointer (some ⟨mb, 0, none⟩)), (5, .int .i64 ((k : Int) - 1))]) 0 trivial (by repeat (first | with_reducible exact Ent.nil | (apply Ent.one; focus (repeat (first | with_reducible exact Rem.here | apply Rem.there))))) (by repeat (first | exact trivial | refine ⟨rfl, ?_⟩)) ?_
  intro k _ ih
  by_cases hk : (k : Int) - 1 ≤ S.pages
  case neg =>
    refine c_seq ?_
    refine c_seq ?_
    refine c_region ?_
    refine o_y (y_move rfl) rfl ?_
    refine o_y (y_fieldAddr0 rfl) rfl ?_
    refine o_y (y_load rfl rfl rfl) rfl ?_
    refine o_y (y_len_slice rfl) rfl ?_
    refine o_y (y_leq_f rfl rfl (by omega)) rfl ?_
    refine o_nil ?_
    refine f_seq ?_
    refine c_false rfl ?_
    refine c_exit ?_
    refine f_seq_exit ?_
    refine f_seq_exit ?_
    refine f_block_here ?_
    refine f_seq ?_
    refine c_seq ?_
    refine c_region ?_
    refine o_y (y_assign rfl) rfl ?_
    refine o_nil ?_
    refine f_seq ?_
    refine c_ret ?_
    exact f_ent (by repeat (first | with_reducible exact Ent.nil | (apply Ent.one; focus (repeat (first | with_reducible exact Rem.here | apply Rem.there))))) (f_ret rfl ⟨rfl, rfl⟩)
  case pos =>
  have hstep : ((k : Int) - 1) + 1 = ((k + 1 : Nat) : Int) - 1 := by omega
  by_cases hp : S.has ((k : Int) - 1)
  · have ht : S.doc.there ((k : Int) - 1) := (doc_there _).2 hp
    refine c_seq ?_
    refine c_seq ?_
    refine c_region ?_
    refine o_y (y_move rfl) rfl ?_
    refine o_y (y_fieldAddr0 rfl) rfl ?_
    refine o_y (y_load rfl rfl rfl) rfl ?_
    refine o_y (y_len_slice rfl) rfl ?_
    refine o_y (y_leq_t rfl rfl (by omega)) rfl ?_
    refine o_nil ?_
    refine f_seq ?_
    refine c_true rfl ?_
    refine c_skip ?_
    refine f_seq ?_
    refine c_seq ?_
    refine c_block ?_
    refine c_seq ?_
    refine c_region ?_
    refine o_y (y_move rfl) rfl ?_
    refine o_y (y_move rfl) rfl ?_
    refine o_call rfl (read_ok d S ((k : Int) - 1) hp) (by repeat (first | with_reducible exact Takes.nil | (apply Takes.cons; focus (repeat (first | with_reducible exact Rem.here | apply Rem.there))))) rfl ?_
    rintro _ _ ⟨b1, rfl, rfl, l1⟩
    simp only [List.append_eq, List.cons_append, List.nil_append, List.append_nil, tup]
    refine o_y (y_move rfl) rfl ?_
    refine o_y (y_extract rfl rfl) rfl ?_
    refine o_y (y_extract rfl rfl) rfl ?_
    refine o_y (y_assign rfl) rfl ?_
    refine o_y (y_assign rfl) rfl ?_
    refine o_nil ?_
    refine f_seq ?_
    refine c_seq ?_
    refine c_region ?_
    refine o_y (y_loadN rfl rfl rfl) rfl ?_
    refine o_y (y_move rfl) rfl ?_
    refine o_call rfl (rread_f S.doc A ((k : Int) - 1) (by omega)) (by repeat (first | with_reducible exact Takes.nil | (apply Takes.cons; focus (repeat (first | with_reducible exact Rem.here | apply Rem.there))))) rfl ?_
    rintro _ _ ⟨s, e, rfl, rfl, hse⟩
    rw [if_pos ht, doc_read h.di _ hp] at hse
    obtain ⟨rfl, rfl⟩ := hse
    simp only [List.append_eq, List.cons_append, List.nil_append, List.append_nil, tup]
    refine o_y (y_move rfl) rfl ?_
    refine o_y (y_extract rfl rfl) rfl ?_
    refine o_y (y_extract rfl rfl) rfl ?_
    refine o_y (y_assign rfl) rfl ?_
    refine o_y (y_assign rfl) rfl ?_
    refine o_nil ?_
    refine f_seq ?_
    refine c_seq ?_
    refine c_region ?_
    refine o_y (y_move rfl) rfl ?_
    refine o_y (y_conv_str (l := S.read ((k : Int) - 1)) rfl (by have := getN_front ((S.read ((k : Int) - 1)).map byteV) []; simpa [l1] using this)) rfl ?_
    refine o_y (y_move rfl) rfl ?_
    refine o_y (y_eq_str (c := false) rfl rfl (by show false = !decide (S.read ((k : Int) - 1) = S.read ((k : Int) - 1)); simp)) rfl ?_
    refine o_y (y_move rfl) rfl ?_
    refine o_want rfl ?_
    refine o_y (y_move rfl) rfl ?_
    refine o_want rfl ?_
    refine o_y (y_move rfl) rfl ?_
    refine o_want rfl ?_
    refine o_y (y_neq_f rfl rfl (by omega)) rfl ?_
    refine o_y (y_pick_f rfl rfl) rfl ?_
    refine o_nil ?_
    refine f_seq ?_
    refine c_false rfl ?_
    refine c_skip ?_
    refine f_block ?_
    refine f_seq ?_
    refine c_region ?_
    refine o_y (y_move rfl) rfl ?_
    refine o_y (y_arith64 rfl rfl rfl (by omega)) rfl ?_
    refine o_y (y_assign rfl) rfl ?_
    refine o_nil ?_
    rw [hstep]
    exact f_next (by repeat (first | with_reducible exact Ent.nil | (apply Ent.one; focus (repeat (first | with_reducible exact Rem.here | apply Rem.there))))) (by repeat (first | exact trivial | refine ⟨rfl, ?_⟩)) (ih (k + 1) trivial (by omega))
  · have ht : ¬ S.doc.there ((k : Int) - 1) := fun h => hp ((doc_there _).1 h)
    refine c_seq ?_
    refine c_seq ?_
    refine c_region ?_
    refine o_y (y_move rfl) rfl ?_
    refine o_y (y_fieldAddr0 rfl) rfl ?_
    refine o_y (y_load rfl rfl rfl) rfl ?_
    refine o_y (y_len_slice rfl) rfl ?_
    refine o_y (y_leq_t rfl rfl (by omega)) rfl ?_
    refine o_nil ?_
    refine f_seq ?_
    refine c_true rfl ?_
    refine c_skip ?_
    refine f_seq ?_
    refine c_seq ?_
    refine c_block ?_
    refine c_seq ?_
    refine c_region ?_
    refine o_y (y_move rfl) rfl ?_
    refine o_y (y_move rfl) rfl ?_
    refine o_call rfl (read_d d S ((k : Int) - 1)) (by repeat (first | with_reducible exact Takes.nil | (apply Takes.cons; focus (repeat (first | with_reducible exact Rem.here | apply Rem.there))))) rfl ?_
    rintro _ _ (⟨-, rfl, rfl⟩ | ⟨h, -⟩)
    case inr => exact absurd h hp
    simp only [List.append_eq, List.cons_append, List.nil_append, List.append_nil, tup]
    refine o_y (y_move rfl) rfl ?_
    refine o_y (y_extract rfl rfl) rfl ?_
    refine o_y (y_extract rfl rfl) rfl ?_
    refine o_y (y_assign rfl) rfl ?_
    refine o_y (y_assign rfl) rfl ?_
    refine o_nil ?_
    refine f_seq ?_
    refine c_seq ?_
    refine c_region ?_
    refine o_y (y_loadN rfl rfl rfl) rfl ?_
    refine o_y (y_move rfl) rfl ?_
    refine o_call rfl (rread_f S.doc A ((k : Int) - 1) (by omega)) (by repeat (first | with_reducible exact Takes.nil | (apply Takes.cons; focus (repeat (first | with_reducible exact Rem.here | apply Rem.there))))) rfl ?_
    rintro _ _ ⟨s, e, rfl, rfl, hse⟩
    rw [if_neg ht] at hse
    obtain ⟨rfl, rfl⟩ := hse
    simp only [List.append_eq, List.cons_append, List.nil_append, List.append_nil, tup]
    refine o_y (y_move rfl) rfl ?_
    refine o_y (y_extract rfl rfl) rfl ?_
    refine o_y (y_extract rfl rfl) rfl ?_
    refine o_y (y_assign rfl) rfl ?_
    refine o_y (y_assign rfl) rfl ?_
    refine o_nil ?_
    refine f_seq ?_
    refine c_seq ?_
    refine c_region ?_
    refine o_y (y_move rfl) rfl ?_
    refine o_y (y_conv_str_nil rfl) rfl ?_
    refine o_y (y_move rfl) rfl ?_
    refine o_y (y_eq_str (c := false) rfl rfl (by rfl)) rfl ?_
    refine o_y (y_move rfl) rfl ?_
    refine o_want rfl ?_
    refine o_y (y_move rfl) rfl ?_
    refine o_want rfl ?_
    refine o_y (y_move rfl) rfl ?_
    refine o_want rfl ?_
    refine o_y (y_neq_f rfl rfl (by omega)) rfl ?_
    refine o_y (y_pick_f rfl rfl) rfl ?_
    refine o_nil ?_
    refine f_seq ?_
    refine c_false rfl ?_
    refine c_skip ?_
    refine f_block ?_
    refine f_seq ?_
    refine c_region ?_
    refine o_y (y_move rfl) rfl ?_
    refine o_y (y_arith64 rfl rfl rfl (by omega)) rfl ?_
    refine o_y (y_assign rfl) rfl ?_
    refine o_nil ?_
    rw [hstep]
    exact f_next (by repeat (first | with_reducible exact Ent.nil | (apply Ent.one; focus (repeat (first | with_reducible exact Rem.here | apply Rem.there))))) (by repeat (first | exact trivial | refine ⟨rfl, ?_⟩)) (ih (k + 1) trivial (by omega))
end Go.Lun

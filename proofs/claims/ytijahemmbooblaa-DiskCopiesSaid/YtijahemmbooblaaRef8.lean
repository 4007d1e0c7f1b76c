/- The document's disk: Fuse. -/
import Derived.Test.YtijahemmbooblaaRef2
namespace Go.Lun
open Go.Proofs

set_option maxHeartbeats 3200000 in
theorem rdo6_f (M : RM) (A : MA) (x : ActM) (h : RIn M x) (hk : x.kind = 6) : RDo M A x := by
  unfold RDo
  refine fn_start Try.func23 rfl rfl rfl fun F => ?_
  obtain ⟨hx, hok, hW, hn, hm, hf, hf'⟩ := h
  obtain ⟨most, last, loose, burns, fuse⟩ := M
  obtain ⟨la, lc, wa, wc⟩ := A
  obtain ⟨kind, n, page, at_, s, ka, kc, ks⟩ := x
  simp only [ActM.few, Bool.and_eq_true, decide_eq_true_eq] at hx
  obtain ⟨⟨hxs, hxk⟩, hxn⟩ := hx
  dsimp only at hxs hxk hxn hn hm hf hf' hk
  dsimp only [ActM.val, ActM.cells, RM.val, RM.cells, RowL, RowW]
  refine c_seq ?_
  refine c_region ?_
  refine o_box rfl rfl (fun mb => ?_)
  refine o_box rfl rfl (fun xb => ?_)
  refine o_alloc rfl (fun rb => ?_)
  refine o_y (y_assign rfl) rfl ?_
  refine o_nil ?_
  refine f_seq ?_
  refine c_seq ?_
  refine c_cut (X := Unit) (fun _ => [Blk rb (.cells ⟨[.int .i64 0, .slice none 0 0, .slice none 0 0, .bool false, .int .i64 0]⟩ 46 (0, 0)),
      Blk xb (.cells ⟨[.int .i64 kind, .int .i64 n, .int .i64 page, .int .i64 at_, str s, .slice ka ks.length kc]⟩ 49 (0, 0)),
      Blk mb (.cells ⟨[.int .i64 most, .slice la last.length lc, .slice wa loose.length wc, .bool burns, .int .i64 fuse]⟩ 46 (0, 0)),
      RowA false strC 1 la last, RowA false wrC 2 wa loose, RowA false TK.cells 2 ka ks])
    (fun _ => [(2, .pointer (some ⟨mb, 0, none⟩)), (3, .pointer (some ⟨xb, 0, none⟩)), (4, .pointer (some ⟨rb, 0, none⟩)), (5, .int .i64 0), (6, .bool (decide (0 ≤ page ∧ page < last.length)))]) ?_ ?_
  · by_cases p0 : 0 ≤ page
    · by_cases p1 : page < last.length
      · rw [decide_eq_true (show 0 ≤ page ∧ page < last.length from ⟨p0, p1⟩)]
        refine c_region ?_
        refine o_y (y_fieldAddr0 rfl) rfl ?_
        refine o_y (y_load rfl rfl rfl) rfl ?_
        refine o_y (y_geq_t rfl rfl (by omega)) rfl ?_
        refine o_y (y_move rfl) rfl ?_
        refine o_want rfl ?_
        refine o_y (y_fieldAddr0 rfl) rfl ?_
        refine o_want rfl ?_
        refine o_y (y_load rfl rfl rfl) rfl ?_
        refine o_want rfl ?_
        refine o_y (y_fieldAddr0 rfl) rfl ?_
        refine o_want rfl ?_
        refine o_y (y_load rfl rfl rfl) rfl ?_
        refine o_want rfl ?_
        refine o_y (y_len_slice rfl) rfl ?_
        refine o_want rfl ?_
        refine o_y (y_lss_t rfl rfl (by omega)) rfl ?_
        refine o_y (y_pick_t rfl rfl) rfl ?_
        refine o_y (y_assign rfl) rfl ?_
        refine o_nil ?_
        exact f_cut () (by repeat (first | with_reducible exact Ent.nil | (apply Ent.one; focus (repeat (first | with_reducible exact Rem.here | apply Rem.there))))) (by repeat (first | exact trivial | refine ⟨rfl, ?_⟩))
      · rw [decide_eq_false (show ¬ (0 ≤ page ∧ page < last.length) from fun h => p1 h.2)]
        refine c_region ?_
        refine o_y (y_fieldAddr0 rfl) rfl ?_
        refine o_y (y_load rfl rfl rfl) rfl ?_
        refine o_y (y_geq_t rfl rfl (by omega)) rfl ?_
        refine o_y (y_move rfl) rfl ?_
        refine o_want rfl ?_
        refine o_y (y_fieldAddr0 rfl) rfl ?_
        refine o_want rfl ?_
        refine o_y (y_load rfl rfl rfl) rfl ?_
        refine o_want rfl ?_
        refine o_y (y_fieldAddr0 rfl) rfl ?_
        refine o_want rfl ?_
        refine o_y (y_load rfl rfl rfl) rfl ?_
        refine o_want rfl ?_
        refine o_y (y_len_slice rfl) rfl ?_
        refine o_want rfl ?_
        refine o_y (y_lss_f rfl rfl (by omega)) rfl ?_
        refine o_y (y_pick_t rfl rfl) rfl ?_
        refine o_y (y_assign rfl) rfl ?_
        refine o_nil ?_
        exact f_cut () (by repeat (first | with_reducible exact Ent.nil | (apply Ent.one; focus (repeat (first | with_reducible exact Rem.here | apply Rem.there))))) (by repeat (first | exact trivial | refine ⟨rfl, ?_⟩))
    · rw [decide_eq_false (show ¬ (0 ≤ page ∧ page < last.length) from fun h => p0 h.1)]
      refine c_region ?_
      refine o_y (y_fieldAddr0 rfl) rfl ?_
      refine o_y (y_load rfl rfl rfl) rfl ?_
      refine o_y (y_geq_f rfl rfl (by omega)) rfl ?_
      refine o_y (y_move rfl) rfl ?_
      refine o_skip rfl rfl ?_
      refine o_skip rfl rfl ?_
      refine o_skip rfl rfl ?_
      refine o_skip rfl rfl ?_
      refine o_skip rfl rfl ?_
      refine o_skip rfl rfl ?_
      refine o_y (y_pick_f rfl rfl) rfl ?_
      refine o_y (y_assign rfl) rfl ?_
      refine o_nil ?_
      exact f_cut () (by repeat (first | with_reducible exact Ent.nil | (apply Ent.one; focus (repeat (first | with_reducible exact Rem.here | apply Rem.there))))) (by repeat (first | exact trivial | refine ⟨rfl, ?_⟩))
  intro _
  refine c_seq ?_
  refine c_cut (X := Unit) (fun _ => [Blk rb (.cells ⟨[.int .i64 0, .slice none 0 0, .slice none 0 0, .bool false, .int .i64 0]⟩ 46 (0, 0)),
      Blk xb (.cells ⟨[.int .i64 kind, .int .i64 n, .int .i64 page, .int .i64 at_, str s, .slice ka ks.length kc]⟩ 49 (0, 0)),
      Blk mb (.cells ⟨[.int .i64 most, .slice la last.length lc, .slice wa loose.length wc, .bool burns, .int .i64 fuse]⟩ 46 (0, 0)),
      RowA false strC 1 la last, RowA false wrC 2 wa loose, RowA false TK.cells 2 ka ks])
    (fun _ => [(2, .pointer (some ⟨mb, 0, none⟩)), (3, .pointer (some ⟨xb, 0, none⟩)), (4, .pointer (some ⟨rb, 0, none⟩)), (5, .int .i64 0), (6, .bool (decide (0 ≤ page ∧ page < last.length))), (7, .bool (burns && decide (fuse = 0)))]) ?_ ?_
  · cases burns with
    | false =>
      refine c_region ?_
      refine o_y (y_fieldAddr0 rfl) rfl ?_
      refine o_y (y_load rfl rfl rfl) rfl ?_
      refine o_y (y_move rfl) rfl ?_
      refine o_skip rfl rfl ?_
      refine o_skip rfl rfl ?_
      refine o_skip rfl rfl ?_
      refine o_y (y_pick_f rfl rfl) rfl ?_
      refine o_y (y_assign rfl) rfl ?_
      refine o_nil ?_
      exact f_cut () (by repeat (first | with_reducible exact Ent.nil | (apply Ent.one; focus (repeat (first | with_reducible exact Rem.here | apply Rem.there))))) (by repeat (first | exact trivial | refine ⟨rfl, ?_⟩))
    | true =>
      by_cases f0 : fuse = 0
      · rw [decide_eq_true f0]
        refine c_region ?_
        refine o_y (y_fieldAddr0 rfl) rfl ?_
        refine o_y (y_load rfl rfl rfl) rfl ?_
        refine o_y (y_move rfl) rfl ?_
        refine o_want rfl ?_
        refine o_y (y_fieldAddr0 rfl) rfl ?_
        refine o_want rfl ?_
        refine o_y (y_load rfl rfl rfl) rfl ?_
        refine o_want rfl ?_
        refine o_y (y_eql_t rfl rfl (by omega)) rfl ?_
        refine o_y (y_pick_t rfl rfl) rfl ?_
        refine o_y (y_assign rfl) rfl ?_
        refine o_nil ?_
        exact f_cut () (by repeat (first | with_reducible exact Ent.nil | (apply Ent.one; focus (repeat (first | with_reducible exact Rem.here | apply Rem.there))))) (by repeat (first | exact trivial | refine ⟨rfl, ?_⟩))
      · rw [decide_eq_false f0]
        refine c_region ?_
        refine o_y (y_fieldAddr0 rfl) rfl ?_
        refine o_y (y_load rfl rfl rfl) rfl ?_
        refine o_y (y_move rfl) rfl ?_
        refine o_want rfl ?_
        refine o_y (y_fieldAddr0 rfl) rfl ?_
        refine o_want rfl ?_
        refine o_y (y_load rfl rfl rfl) rfl ?_
        refine o_want rfl ?_
        refine o_y (y_eql_f rfl rfl (by omega)) rfl ?_
        refine o_y (y_pick_t rfl rfl) rfl ?_
        refine o_y (y_assign rfl) rfl ?_
        refine o_nil ?_
        exact f_cut () (by repeat (first | with_reducible exact Ent.nil | (apply Ent.one; focus (repeat (first | with_reducible exact Rem.here | apply Rem.there))))) (by repeat (first | exact trivial | refine ⟨rfl, ?_⟩))
  intro _

  cases hd : (burns && decide (fuse = 0)) with
  | true =>
    rw [show RM.act ⟨most, last, loose, burns, fuse⟩ ⟨kind, n, page, at_, s, ka, kc, ks⟩ = (⟨most, last, loose, burns, fuse⟩, 0) by simp [RM.act, RM.dead, hk, hd]]
    refine c_seq ?_
    refine c_seq ?_
    refine c_region ?_
    refine o_y (y_fieldAddr0 rfl) rfl ?_
    refine o_y (y_load rfl rfl rfl) rfl ?_
    refine o_nil ?_
    refine f_seq ?_
    refine c_block ?_
    refine c_seq ?_
    refine c_region ?_
    refine o_y (y_eql_f rfl rfl (by omega)) rfl ?_
    refine o_y (y_assign rfl) rfl ?_
    refine o_nil ?_
    refine f_seq ?_
    refine c_false rfl ?_
    refine c_seq ?_
    refine c_region ?_
    refine o_y (y_eql_f rfl rfl (by omega)) rfl ?_
    refine o_y (y_assign rfl) rfl ?_
    refine o_nil ?_
    refine f_seq ?_
    refine c_false rfl ?_
    refine c_seq ?_
    refine c_region ?_
    refine o_y (y_eql_f rfl rfl (by omega)) rfl ?_
    refine o_y (y_assign rfl) rfl ?_
    refine o_nil ?_
    refine f_seq ?_
    refine c_false rfl ?_
    refine c_seq ?_
    refine c_region ?_
    refine o_y (y_eql_f rfl rfl (by omega)) rfl ?_
    refine o_y (y_assign rfl) rfl ?_
    refine o_nil ?_
    refine f_seq ?_
    refine c_false rfl ?_
    refine c_seq ?_
    refine c_region ?_
    refine o_y (y_eql_f rfl rfl (by omega)) rfl ?_
    refine o_y (y_assign rfl) rfl ?_
    refine o_nil ?_
    refine f_seq ?_
    refine c_false rfl ?_
    refine c_seq ?_
    refine c_region ?_
    refine o_y (y_eql_t rfl rfl (by omega)) rfl ?_
    refine o_y (y_assign rfl) rfl ?_
    refine o_nil ?_
    refine f_seq ?_
    refine c_true rfl ?_
    refine c_seq ?_
    refine c_seq ?_
    refine c_region ?_
    refine o_y (y_move rfl) rfl ?_
    refine o_nil ?_
    refine f_seq ?_
    refine c_true rfl ?_
    refine c_seq ?_
    refine c_region ?_
    refine o_y (y_loadN rfl rfl rfl) rfl ?_
    refine o_store rfl rfl rfl frz0 ?_
    refine o_y (y_assign rfl) rfl ?_
    refine o_nil ?_
    refine f_seq ?_
    refine c_ret ?_
    refine f_seq_ret ?_
    refine f_block_ret ?_
    refine f_seq_ret ?_
    exact f_retc rfl rfl rfl rfl rfl (by repeat (first | with_reducible exact Ent.nil | (apply Ent.one; focus (repeat (first | with_reducible exact Rem.here | apply Rem.there))))) ⟨⟨la, lc, wa, wc⟩, rfl, rfl⟩
  | false =>
    rw [show RM.act ⟨most, last, loose, burns, fuse⟩ ⟨kind, n, page, at_, s, ka, kc, ks⟩ = (⟨most, last, loose, true, max n 0⟩, 0) by simp [RM.act, RM.dead, hk, hd]]
    refine c_seq ?_
    refine c_seq ?_
    refine c_region ?_
    refine o_y (y_fieldAddr0 rfl) rfl ?_
    refine o_y (y_load rfl rfl rfl) rfl ?_
    refine o_nil ?_
    refine f_seq ?_
    refine c_block ?_
    refine c_seq ?_
    refine c_region ?_
    refine o_y (y_eql_f rfl rfl (by omega)) rfl ?_
    refine o_y (y_assign rfl) rfl ?_
    refine o_nil ?_
    refine f_seq ?_
    refine c_false rfl ?_
    refine c_seq ?_
    refine c_region ?_
    refine o_y (y_eql_f rfl rfl (by omega)) rfl ?_
    refine o_y (y_assign rfl) rfl ?_
    refine o_nil ?_
    refine f_seq ?_
    refine c_false rfl ?_
    refine c_seq ?_
    refine c_region ?_
    refine o_y (y_eql_f rfl rfl (by omega)) rfl ?_
    refine o_y (y_assign rfl) rfl ?_
    refine o_nil ?_
    refine f_seq ?_
    refine c_false rfl ?_
    refine c_seq ?_
    refine c_region ?_
    refine o_y (y_eql_f rfl rfl (by omega)) rfl ?_
    refine o_y (y_assign rfl) rfl ?_
    refine o_nil ?_
    refine f_seq ?_
    refine c_false rfl ?_
    refine c_seq ?_
    refine c_region ?_
    refine o_y (y_eql_f rfl rfl (by omega)) rfl ?_
    refine o_y (y_assign rfl) rfl ?_
    refine o_nil ?_
    refine f_seq ?_
    refine c_false rfl ?_
    refine c_seq ?_
    refine c_region ?_
    refine o_y (y_eql_t rfl rfl (by omega)) rfl ?_
    refine o_y (y_assign rfl) rfl ?_
    refine o_nil ?_
    refine f_seq ?_
    refine c_true rfl ?_
    refine c_seq ?_
    refine c_seq ?_
    refine c_region ?_
    refine o_y (y_move rfl) rfl ?_
    refine o_nil ?_
    refine f_seq ?_
    refine c_false rfl ?_
    refine c_skip ?_
    refine f_seq ?_
    refine c_seq ?_
    refine pl_start [3, 5] Try.mixed ?_; intro hd
    refine pl_lock (A := Blk _ _) (Rem.there Rem.here) rfl ?_ hd; intro hb0
    refine pl_take (i := 0) rfl (by kernel_rfl) (y_fieldAddr0 rfl) ?_ hd; clear hd; intro hd
    refine pl_take (i := 1) rfl (by kernel_rfl) (y_load rfl rfl rfl) ?_ hd; clear hd; intro hd
    refine pl_take (i := 2) rfl (by kernel_rfl) (y_fieldAddr0 rfl) ?_ hd; clear hd; intro hd
    refine pl_sole (i := 3) (by kernel_rfl) rfl ?_ hd; clear hd; intro hd
    refine o_store rfl rfl rfl frz0 ?_
    refine pl_back (by repeat (first | with_reducible exact Owes.nil | with_reducible refine Owes.same ?_ | with_reducible refine Owes.any ?_ | refine Owes.waived 3 (by kernel_rfl) ?_)) ?_ hd; clear hd; intro hd
    refine pl_take (i := 4) rfl (by kernel_rfl) (y_fieldAddr0 rfl) ?_ hd; clear hd; intro hd
    refine pl_sole (i := 5) (by kernel_rfl) rfl ?_ hd; clear hd; intro hd
    refine o_store rfl rfl rfl frz0 ?_
    refine pl_back (by repeat (first | with_reducible exact Owes.nil | with_reducible refine Owes.same ?_ | with_reducible refine Owes.any ?_ | refine Owes.waived 5 (by kernel_rfl) ?_ | refine Owes.waived 3 (by kernel_rfl) ?_)) ?_ hd; clear hd; intro hd
    refine pl_done (by kernel_rfl) ?_ hd
    refine f_unlock (A := Blk _ _) ?_
    by_cases n0 : n < 0
    · rw [show max n 0 = 0 by omega]
      refine f_seq ?_
      refine c_seq ?_
      refine c_region ?_
      refine o_y (y_fieldAddr0 rfl) rfl ?_
      refine o_y (y_load rfl rfl rfl) rfl ?_
      refine o_y (y_lss_t rfl rfl (by omega)) rfl ?_
      refine o_nil ?_
      refine f_seq ?_
      refine c_true rfl ?_
      refine c_region ?_
      refine o_y (y_fieldAddr0 rfl) rfl ?_
      refine o_store rfl rfl rfl frz0 ?_
      refine o_nil ?_
      refine f_block ?_
      refine f_seq ?_
      refine c_seq ?_
      refine c_region ?_
      refine o_y (y_loadN rfl rfl rfl) rfl ?_
      refine o_store rfl rfl rfl frz0 ?_
      refine o_y (y_assign rfl) rfl ?_
      refine o_nil ?_
      refine f_seq ?_
      refine c_ret ?_
      exact f_retc rfl rfl rfl rfl rfl (by repeat (first | with_reducible exact Ent.nil | (apply Ent.one; focus (repeat (first | with_reducible exact Rem.here | apply Rem.there))))) ⟨⟨la, lc, wa, wc⟩, rfl, rfl⟩
    · rw [show max n 0 = n by omega]
      refine f_seq ?_
      refine c_seq ?_
      refine c_region ?_
      refine o_y (y_fieldAddr0 rfl) rfl ?_
      refine o_y (y_load rfl rfl rfl) rfl ?_
      refine o_y (y_lss_f rfl rfl (by omega)) rfl ?_
      refine o_nil ?_
      refine f_seq ?_
      refine c_false rfl ?_
      refine c_skip ?_
      refine f_block ?_
      refine f_seq ?_
      refine c_seq ?_
      refine c_region ?_
      refine o_y (y_loadN rfl rfl rfl) rfl ?_
      refine o_store rfl rfl rfl frz0 ?_
      refine o_y (y_assign rfl) rfl ?_
      refine o_nil ?_
      refine f_seq ?_
      refine c_ret ?_
      exact f_retc rfl rfl rfl rfl rfl (by repeat (first | with_reducible exact Ent.nil | (apply Ent.one; focus (repeat (first | with_reducible exact Rem.here | apply Rem.there))))) ⟨⟨la, lc, wa, wc⟩, rfl, rfl⟩
end Go.Lun

/- The document's disk: Spoil. -/
import Derived.Test.YtijahemmbooblaaRef6
namespace Go.Lun
open Go.Proofs

theorem wr_len (l : List (Int × Bytes)) : (l.flatMap wrC).length = l.length * 2 := flat_len wrC 2 (fun _ => rfl) l
theorem wr_set (pre post : List (Int × Bytes)) (w : Int × Bytes) (v : Bytes) (rs : List Value) : ((pre ++ w :: post).flatMap wrC ++ rs).set (0 + pre.length * 2 + 1) (str v) = (pre ++ (w.1, v) :: post).flatMap wrC ++ rs := by
  have h := wr_len pre
  simp only [List.flatMap_append, List.flatMap_cons, List.append_assoc]
  rw [List.set_append_right _ _ (by omega), h, show 0 + pre.length * 2 + 1 - pre.length * 2 = 1 by omega]
  rfl

set_option maxHeartbeats 3200000 in
theorem rdo4_f (M : RM) (A : MA) (x : ActM) (h : RIn M x) (hk : x.kind = 4) : RDo M A x := by
  unfold RDo
  refine fn_start Try.func23 rfl rfl rfl fun F => ?_
  obtain ⟨hx, hok, hW, hn, hm, hf, hf'⟩ := h
  obtain ⟨most, last, loose, burns, fuse⟩ := M
  obtain ⟨la, lc, wa, wc⟩ := A
  obtain ⟨kind, n, page, at_, s, ka, kc, ks⟩ := x
  simp only [ActM.few, Bool.and_eq_true, decide_eq_true_eq] at hx
  obtain ⟨⟨hxs, hxk⟩, hxn⟩ := hx
  dsimp only at hxs hxk hxn hn hm hf hf' hk
  dsimp only [ActM.val, ActM.cells, RM.val, RM.cells, RowL, RowW]
  refine c_seq ?_
  refine c_region ?_
  refine o_box rfl rfl (fun mb => ?_)
  refine o_box rfl rfl (fun xb => ?_)
  refine o_alloc rfl (fun rb => ?_)
  refine o_y (y_assign rfl) rfl ?_
  refine o_nil ?_
  refine f_seq ?_
  refine c_seq ?_
  refine c_cut (X := Unit) (fun _ => [Blk rb (.cells ⟨[.int .i64 0, .slice none 0 0, .slice none 0 0, .bool false, .int .i64 0]⟩ 46 (0, 0)),
      Blk xb (.cells ⟨[.int .i64 kind, .int .i64 n, .int .i64 page, .int .i64 at_, str s, .slice ka ks.length kc]⟩ 49 (0, 0)),
      Blk mb (.cells ⟨[.int .i64 most, .slice la last.length lc, .slice wa loose.length wc, .bool burns, .int .i64 fuse]⟩ 46 (0, 0)),
      RowA false strC 1 la last, RowA false wrC 2 wa loose, RowA false TK.cells 2 ka ks])
    (fun _ => [(2, .pointer (some ⟨mb, 0, none⟩)), (3, .pointer (some ⟨xb, 0, none⟩)), (4, .pointer (some ⟨rb, 0, none⟩)), (5, .int .i64 0), (6, .bool (decide (0 ≤ page ∧ page < last.length)))]) ?_ ?_
  · by_cases p0 : 0 ≤ page
    · by_cases p1 : page < last.length
      · rw [decide_eq_true (show 0 ≤ page ∧ page < last.length from ⟨p0, p1⟩)]
        refine c_region ?_
        refine o_y (y_fieldAddr0 rfl) rfl ?_
        refine o_y (y_load rfl rfl rfl) rfl ?_
        refine o_y (y_geq_t rfl rfl (by omega)) rfl ?_
        refine o_y (y_move rfl) rfl ?_
        refine o_want rfl ?_
        refine o_y (y_fieldAddr0 rfl) rfl ?_
        refine o_want rfl ?_
        refine o_y (y_load rfl rfl rfl) rfl ?_
        refine o_want rfl ?_
        refine o_y (y_fieldAddr0 rfl) rfl ?_
        refine o_want rfl ?_
        refine o_y (y_load rfl rfl rfl) rfl ?_
        refine o_want rfl ?_
        refine o_y (y_len_slice rfl) rfl ?_
        refine o_want rfl ?_
        refine o_y (y_lss_t rfl rfl (by omega)) rfl ?_
        refine o_y (y_pick_t rfl rfl) rfl ?_
        refine o_y (y_assign rfl) rfl ?_
        refine o_nil ?_
        exact f_cut () (by repeat (first | with_reducible exact Ent.nil | (apply Ent.one; focus (repeat (first | with_reducible exact Rem.here | apply Rem.there))))) (by repeat (first | exact trivial | refine ⟨rfl, ?_⟩))
      · rw [decide_eq_false (show ¬ (0 ≤ page ∧ page < last.length) from fun h => p1 h.2)]
        refine c_region ?_
        refine o_y (y_fieldAddr0 rfl) rfl ?_
        refine o_y (y_load rfl rfl rfl) rfl ?_
        refine o_y (y_geq_t rfl rfl (by omega)) rfl ?_
        refine o_y (y_move rfl) rfl ?_
        refine o_want rfl ?_
        refine o_y (y_fieldAddr0 rfl) rfl ?_
        refine o_want rfl ?_
        refine o_y (y_load rfl rfl rfl) rfl ?_
        refine o_want rfl ?_
        refine o_y (y_fieldAddr0 rfl) rfl ?_
        refine o_want rfl ?_
        refine o_y (y_load rfl rfl rfl) rfl ?_
        refine o_want rfl ?_
        refine o_y (y_len_slice rfl) rfl ?_
        refine o_want rfl ?_
        refine o_y (y_lss_f rfl rfl (by omega)) rfl ?_
        refine o_y (y_pick_t rfl rfl) rfl ?_
        refine o_y (y_assign rfl) rfl ?_
        refine o_nil ?_
        exact f_cut () (by repeat (first | with_reducible exact Ent.nil | (apply Ent.one; focus (repeat (first | with_reducible exact Rem.here | apply Rem.there))))) (by repeat (first | exact trivial | refine ⟨rfl, ?_⟩))
    · rw [decide_eq_false (show ¬ (0 ≤ page ∧ page < last.length) from fun h => p0 h.1)]
      refine c_region ?_
      refine o_y (y_fieldAddr0 rfl) rfl ?_
      refine o_y (y_load rfl rfl rfl) rfl ?_
      refine o_y (y_geq_f rfl rfl (by omega)) rfl ?_
      refine o_y (y_move rfl) rfl ?_
      refine o_skip rfl rfl ?_
      refine o_skip rfl rfl ?_
      refine o_skip rfl rfl ?_
      refine o_skip rfl rfl ?_
      refine o_skip rfl rfl ?_
      refine o_skip rfl rfl ?_
      refine o_y (y_pick_f rfl rfl) rfl ?_
      refine o_y (y_assign rfl) rfl ?_
      refine o_nil ?_
      exact f_cut () (by repeat (first | with_reducible exact Ent.nil | (apply Ent.one; focus (repeat (first | with_reducible exact Rem.here | apply Rem.there))))) (by repeat (first | exact trivial | refine ⟨rfl, ?_⟩))
  intro _
  refine c_seq ?_
  refine c_cut (X := Unit) (fun _ => [Blk rb (.cells ⟨[.int .i64 0, .slice none 0 0, .slice none 0 0, .bool false, .int .i64 0]⟩ 46 (0, 0)),
      Blk xb (.cells ⟨[.int .i64 kind, .int .i64 n, .int .i64 page, .int .i64 at_, str s, .slice ka ks.length kc]⟩ 49 (0, 0)),
      Blk mb (.cells ⟨[.int .i64 most, .slice la last.length lc, .slice wa loose.length wc, .bool burns, .int .i64 fuse]⟩ 46 (0, 0)),
      RowA false strC 1 la last, RowA false wrC 2 wa loose, RowA false TK.cells 2 ka ks])
    (fun _ => [(2, .pointer (some ⟨mb, 0, none⟩)), (3, .pointer (some ⟨xb, 0, none⟩)), (4, .pointer (some ⟨rb, 0, none⟩)), (5, .int .i64 0), (6, .bool (decide (0 ≤ page ∧ page < last.length))), (7, .bool (burns && decide (fuse = 0)))]) ?_ ?_
  · cases burns with
    | false =>
      refine c_region ?_
      refine o_y (y_fieldAddr0 rfl) rfl ?_
      refine o_y (y_load rfl rfl rfl) rfl ?_
      refine o_y (y_move rfl) rfl ?_
      refine o_skip rfl rfl ?_
      refine o_skip rfl rfl ?_
      refine o_skip rfl rfl ?_
      refine o_y (y_pick_f rfl rfl) rfl ?_
      refine o_y (y_assign rfl) rfl ?_
      refine o_nil ?_
      exact f_cut () (by repeat (first | with_reducible exact Ent.nil | (apply Ent.one; focus (repeat (first | with_reducible exact Rem.here | apply Rem.there))))) (by repeat (first | exact trivial | refine ⟨rfl, ?_⟩))
    | true =>
      by_cases f0 : fuse = 0
      · rw [decide_eq_true f0]
        refine c_region ?_
        refine o_y (y_fieldAddr0 rfl) rfl ?_
        refine o_y (y_load rfl rfl rfl) rfl ?_
        refine o_y (y_move rfl) rfl ?_
        refine o_want rfl ?_
        refine o_y (y_fieldAddr0 rfl) rfl ?_
        refine o_want rfl ?_
        refine o_y (y_load rfl rfl rfl) rfl ?_
        refine o_want rfl ?_
        refine o_y (y_eql_t rfl rfl (by omega)) rfl ?_
        refine o_y (y_pick_t rfl rfl) rfl ?_
        refine o_y (y_assign rfl) rfl ?_
        refine o_nil ?_
        exact f_cut () (by repeat (first | with_reducible exact Ent.nil | (apply Ent.one; focus (repeat (first | with_reducible exact Rem.here | apply Rem.there))))) (by repeat (first | exact trivial | refine ⟨rfl, ?_⟩))
      · rw [decide_eq_false f0]
        refine c_region ?_
        refine o_y (y_fieldAddr0 rfl) rfl ?_
        refine o_y (y_load rfl rfl rfl) rfl ?_
        refine o_y (y_move rfl) rfl ?_
        refine o_want rfl ?_
        refine o_y (y_fieldAddr0 rfl) rfl ?_
        refine o_want rfl ?_
        refine o_y (y_load rfl rfl rfl) rfl ?_
        refine o_want rfl ?_
        refine o_y (y_eql_f rfl rfl (by omega)) rfl ?_
        refine o_y (y_pick_t rfl rfl) rfl ?_
        refine o_y (y_assign rfl) rfl ?_
        refine o_nil ?_
        exact f_cut () (by repeat (first | with_reducible exact Ent.nil | (apply Ent.one; focus (repeat (first | with_reducible exact Rem.here | apply Rem.there))))) (by repeat (first | exact trivial | refine ⟨rfl, ?_⟩))
  intro _

  by_cases ht : 0 ≤ page ∧ page < last.length
  case neg =>
    rw [decide_eq_false ht]
    rw [show RM.act ⟨most, last, loose, burns, fuse⟩ ⟨kind, n, page, at_, s, ka, kc, ks⟩ = (⟨most, last, loose, burns, fuse⟩, 30) by simp [RM.act, RM.there, hk, ht]]
    refine c_seq ?_
    refine c_seq ?_
    refine c_region ?_
    refine o_y (y_fieldAddr0 rfl) rfl ?_
    refine o_y (y_load rfl rfl rfl) rfl ?_
    refine o_nil ?_
    refine f_seq ?_
    refine c_block ?_
    refine c_seq ?_
    refine c_region ?_
    refine o_y (y_eql_f rfl rfl (by omega)) rfl ?_
    refine o_y (y_assign rfl) rfl ?_
    refine o_nil ?_
    refine f_seq ?_
    refine c_false rfl ?_
    refine c_seq ?_
    refine c_region ?_
    refine o_y (y_eql_f rfl rfl (by omega)) rfl ?_
    refine o_y (y_assign rfl) rfl ?_
    refine o_nil ?_
    refine f_seq ?_
    refine c_false rfl ?_
    refine c_seq ?_
    refine c_region ?_
    refine o_y (y_eql_f rfl rfl (by omega)) rfl ?_
    refine o_y (y_assign rfl) rfl ?_
    refine o_nil ?_
    refine f_seq ?_
    refine c_false rfl ?_
    refine c_seq ?_
    refine c_region ?_
    refine o_y (y_eql_f rfl rfl (by omega)) rfl ?_
    refine o_y (y_assign rfl) rfl ?_
    refine o_nil ?_
    refine f_seq ?_
    refine c_false rfl ?_
    refine c_seq ?_
    refine c_region ?_
    refine o_y (y_eql_t rfl rfl (by omega)) rfl ?_
    refine o_y (y_assign rfl) rfl ?_
    refine o_nil ?_
    refine f_seq ?_
    refine c_true rfl ?_
    refine c_seq ?_
    refine c_seq ?_
    refine c_region ?_
    refine o_y (y_move rfl) rfl ?_
    refine o_y (y_not rfl) rfl ?_
    refine o_nil ?_
    refine f_seq ?_
    refine c_true rfl ?_
    refine c_seq ?_
    refine c_region ?_
    refine o_y (y_loadN rfl rfl rfl) rfl ?_
    refine o_store rfl rfl rfl frz0 ?_
    refine o_y (y_assign rfl) rfl ?_
    refine o_nil ?_
    refine f_seq ?_
    refine c_ret ?_
    refine f_seq_ret ?_
    refine f_block_ret ?_
    refine f_seq_ret ?_
    exact f_retc rfl rfl rfl rfl rfl (by repeat (first | with_reducible exact Ent.nil | (apply Ent.one; focus (repeat (first | with_reducible exact Rem.here | apply Rem.there))))) ⟨⟨la, lc, wa, wc⟩, rfl, rfl⟩
  case pos =>
  rw [decide_eq_true ht]
  by_cases b0 : at_ < 0
  case pos =>
    rw [show RM.act ⟨most, last, loose, burns, fuse⟩ ⟨kind, n, page, at_, s, ka, kc, ks⟩ = (⟨most, last, loose, burns, fuse⟩, 31) by simp [RM.act, RM.there, hk, ht, b0]]
    refine c_seq ?_
    refine c_seq ?_
    refine c_region ?_
    refine o_y (y_fieldAddr0 rfl) rfl ?_
    refine o_y (y_load rfl rfl rfl) rfl ?_
    refine o_nil ?_
    refine f_seq ?_
    refine c_block ?_
    refine c_seq ?_
    refine c_region ?_
    refine o_y (y_eql_f rfl rfl (by omega)) rfl ?_
    refine o_y (y_assign rfl) rfl ?_
    refine o_nil ?_
    refine f_seq ?_
    refine c_false rfl ?_
    refine c_seq ?_
    refine c_region ?_
    refine o_y (y_eql_f rfl rfl (by omega)) rfl ?_
    refine o_y (y_assign rfl) rfl ?_
    refine o_nil ?_
    refine f_seq ?_
    refine c_false rfl ?_
    refine c_seq ?_
    refine c_region ?_
    refine o_y (y_eql_f rfl rfl (by omega)) rfl ?_
    refine o_y (y_assign rfl) rfl ?_
    refine o_nil ?_
    refine f_seq ?_
    refine c_false rfl ?_
    refine c_seq ?_
    refine c_region ?_
    refine o_y (y_eql_f rfl rfl (by omega)) rfl ?_
    refine o_y (y_assign rfl) rfl ?_
    refine o_nil ?_
    refine f_seq ?_
    refine c_false rfl ?_
    refine c_seq ?_
    refine c_region ?_
    refine o_y (y_eql_t rfl rfl (by omega)) rfl ?_
    refine o_y (y_assign rfl) rfl ?_
    refine o_nil ?_
    refine f_seq ?_
    refine c_true rfl ?_
    refine c_seq ?_
    refine c_seq ?_
    refine c_region ?_
    refine o_y (y_move rfl) rfl ?_
    refine o_y (y_not rfl) rfl ?_
    refine o_nil ?_
    refine f_seq ?_
    refine c_false rfl ?_
    refine c_skip ?_
    refine f_seq ?_
    refine c_seq ?_
    refine c_seq ?_
    refine c_region ?_
    refine o_y (y_fieldAddr0 rfl) rfl ?_
    refine o_y (y_load rfl rfl rfl) rfl ?_
    refine o_y (y_lss_t rfl rfl (by omega)) rfl ?_
    refine o_y (y_move rfl) rfl ?_
    refine o_skip rfl rfl ?_
    refine o_skip rfl rfl ?_
    refine o_skip rfl rfl ?_
    refine o_y (y_pick_t rfl rfl) rfl ?_
    refine o_y (y_move rfl) rfl ?_
    refine o_skip rfl rfl ?_
    refine o_skip rfl rfl ?_
    refine o_skip rfl rfl ?_
    refine o_skip rfl rfl ?_
    refine o_skip rfl rfl ?_
    refine o_skip rfl rfl ?_
    refine o_skip rfl rfl ?_
    refine o_y (y_pick_t rfl rfl) rfl ?_
    refine o_nil ?_
    refine f_seq ?_
    refine c_true rfl ?_
    refine c_seq ?_
    refine c_region ?_
    refine o_y (y_loadN rfl rfl rfl) rfl ?_
    refine o_store rfl rfl rfl frz0 ?_
    refine o_y (y_assign rfl) rfl ?_
    refine o_nil ?_
    refine f_seq ?_
    refine c_ret ?_
    refine f_seq_ret ?_
    refine f_block_ret ?_
    refine f_seq_ret ?_
    exact f_retc rfl rfl rfl rfl rfl (by repeat (first | with_reducible exact Ent.nil | (apply Ent.one; focus (repeat (first | with_reducible exact Rem.here | apply Rem.there))))) ⟨⟨la, lc, wa, wc⟩, rfl, rfl⟩
  case neg =>
  by_cases b1 : 256 < at_
  case pos =>
    rw [show RM.act ⟨most, last, loose, burns, fuse⟩ ⟨kind, n, page, at_, s, ka, kc, ks⟩ = (⟨most, last, loose, burns, fuse⟩, 31) by simp [RM.act, RM.there, hk, ht, b1]]
    refine c_seq ?_
    refine c_seq ?_
    refine c_region ?_
    refine o_y (y_fieldAddr0 rfl) rfl ?_
    refine o_y (y_load rfl rfl rfl) rfl ?_
    refine o_nil ?_
    refine f_seq ?_
    refine c_block ?_
    refine c_seq ?_
    refine c_region ?_
    refine o_y (y_eql_f rfl rfl (by omega)) rfl ?_
    refine o_y (y_assign rfl) rfl ?_
    refine o_nil ?_
    refine f_seq ?_
    refine c_false rfl ?_
    refine c_seq ?_
    refine c_region ?_
    refine o_y (y_eql_f rfl rfl (by omega)) rfl ?_
    refine o_y (y_assign rfl) rfl ?_
    refine o_nil ?_
    refine f_seq ?_
    refine c_false rfl ?_
    refine c_seq ?_
    refine c_region ?_
    refine o_y (y_eql_f rfl rfl (by omega)) rfl ?_
    refine o_y (y_assign rfl) rfl ?_
    refine o_nil ?_
    refine f_seq ?_
    refine c_false rfl ?_
    refine c_seq ?_
    refine c_region ?_
    refine o_y (y_eql_f rfl rfl (by omega)) rfl ?_
    refine o_y (y_assign rfl) rfl ?_
    refine o_nil ?_
    refine f_seq ?_
    refine c_false rfl ?_
    refine c_seq ?_
    refine c_region ?_
    refine o_y (y_eql_t rfl rfl (by omega)) rfl ?_
    refine o_y (y_assign rfl) rfl ?_
    refine o_nil ?_
    refine f_seq ?_
    refine c_true rfl ?_
    refine c_seq ?_
    refine c_seq ?_
    refine c_region ?_
    refine o_y (y_move rfl) rfl ?_
    refine o_y (y_not rfl) rfl ?_
    refine o_nil ?_
    refine f_seq ?_
    refine c_false rfl ?_
    refine c_skip ?_
    refine f_seq ?_
    refine c_seq ?_
    refine c_seq ?_
    refine c_region ?_
    refine o_y (y_fieldAddr0 rfl) rfl ?_
    refine o_y (y_load rfl rfl rfl) rfl ?_
    refine o_y (y_lss_f rfl rfl (by omega)) rfl ?_
    refine o_y (y_move rfl) rfl ?_
    refine o_want rfl ?_
    refine o_y (y_fieldAddr0 rfl) rfl ?_
    refine o_want rfl ?_
    refine o_y (y_load rfl rfl rfl) rfl ?_
    refine o_want rfl ?_
    refine o_y (y_gtr_t rfl rfl (by omega)) rfl ?_
    refine o_y (y_pick_f rfl rfl) rfl ?_
    refine o_y (y_move rfl) rfl ?_
    refine o_skip rfl rfl ?_
    refine o_skip rfl rfl ?_
    refine o_skip rfl rfl ?_
    refine o_skip rfl rfl ?_
    refine o_skip rfl rfl ?_
    refine o_skip rfl rfl ?_
    refine o_skip rfl rfl ?_
    refine o_y (y_pick_t rfl rfl) rfl ?_
    refine o_nil ?_
    refine f_seq ?_
    refine c_true rfl ?_
    refine c_seq ?_
    refine c_region ?_
    refine o_y (y_loadN rfl rfl rfl) rfl ?_
    refine o_store rfl rfl rfl frz0 ?_
    refine o_y (y_assign rfl) rfl ?_
    refine o_nil ?_
    refine f_seq ?_
    refine c_ret ?_
    refine f_seq_ret ?_
    refine f_block_ret ?_
    refine f_seq_ret ?_
    exact f_retc rfl rfl rfl rfl rfl (by repeat (first | with_reducible exact Ent.nil | (apply Ent.one; focus (repeat (first | with_reducible exact Rem.here | apply Rem.there))))) ⟨⟨la, lc, wa, wc⟩, rfl, rfl⟩
  case neg =>
  by_cases b2 : 256 - at_ < s.length
  case pos =>
    rw [show RM.act ⟨most, last, loose, burns, fuse⟩ ⟨kind, n, page, at_, s, ka, kc, ks⟩ = (⟨most, last, loose, burns, fuse⟩, 31) by simp [RM.act, RM.there, hk, ht, b2]]
    refine c_seq ?_
    refine c_seq ?_
    refine c_region ?_
    refine o_y (y_fieldAddr0 rfl) rfl ?_
    refine o_y (y_load rfl rfl rfl) rfl ?_
    refine o_nil ?_
    refine f_seq ?_
    refine c_block ?_
    refine c_seq ?_
    refine c_region ?_
    refine o_y (y_eql_f rfl rfl (by omega)) rfl ?_
    refine o_y (y_assign rfl) rfl ?_
    refine o_nil ?_
    refine f_seq ?_
    refine c_false rfl ?_
    refine c_seq ?_
    refine c_region ?_
    refine o_y (y_eql_f rfl rfl (by omega)) rfl ?_
    refine o_y (y_assign rfl) rfl ?_
    refine o_nil ?_
    refine f_seq ?_
    refine c_false rfl ?_
    refine c_seq ?_
    refine c_region ?_
    refine o_y (y_eql_f rfl rfl (by omega)) rfl ?_
    refine o_y (y_assign rfl) rfl ?_
    refine o_nil ?_
    refine f_seq ?_
    refine c_false rfl ?_
    refine c_seq ?_
    refine c_region ?_
    refine o_y (y_eql_f rfl rfl (by omega)) rfl ?_
    refine o_y (y_assign rfl) rfl ?_
    refine o_nil ?_
    refine f_seq ?_
    refine c_false rfl ?_
    refine c_seq ?_
    refine c_region ?_
    refine o_y (y_eql_t rfl rfl (by omega)) rfl ?_
    refine o_y (y_assign rfl) rfl ?_
    refine o_nil ?_
    refine f_seq ?_
    refine c_true rfl ?_
    refine c_seq ?_
    refine c_seq ?_
    refine c_region ?_
    refine o_y (y_move rfl) rfl ?_
    refine o_y (y_not rfl) rfl ?_
    refine o_nil ?_
    refine f_seq ?_
    refine c_false rfl ?_
    refine c_skip ?_
    refine f_seq ?_
    refine c_seq ?_
    refine c_seq ?_
    refine c_region ?_
    refine o_y (y_fieldAddr0 rfl) rfl ?_
    refine o_y (y_load rfl rfl rfl) rfl ?_
    refine o_y (y_lss_f rfl rfl (by omega)) rfl ?_
    refine o_y (y_move rfl) rfl ?_
    refine o_want rfl ?_
    refine o_y (y_fieldAddr0 rfl) rfl ?_
    refine o_want rfl ?_
    refine o_y (y_load rfl rfl rfl) rfl ?_
    refine o_want rfl ?_
    refine o_y (y_gtr_f rfl rfl (by omega)) rfl ?_
    refine o_y (y_pick_f rfl rfl) rfl ?_
    refine o_y (y_move rfl) rfl ?_
    refine o_want rfl ?_
    refine o_y (y_fieldAddr0 rfl) rfl ?_
    refine o_want rfl ?_
    refine o_y (y_load rfl rfl rfl) rfl ?_
    refine o_want rfl ?_
    refine o_y (y_fieldAddr0 rfl) rfl ?_
    refine o_want rfl ?_
    refine o_y (y_load rfl rfl rfl) rfl ?_
    refine o_want rfl ?_
    refine o_y (y_len_str rfl) rfl ?_
    refine o_want rfl ?_
    refine o_y (y_arith64 rfl rfl rfl (by omega)) rfl ?_
    refine o_want rfl ?_
    refine o_y (y_gtr_t rfl rfl (by omega)) rfl ?_
    refine o_y (y_pick_f rfl rfl) rfl ?_
    refine o_nil ?_
    refine f_seq ?_
    refine c_true rfl ?_
    refine c_seq ?_
    refine c_region ?_
    refine o_y (y_loadN rfl rfl rfl) rfl ?_
    refine o_store rfl rfl rfl frz0 ?_
    refine o_y (y_assign rfl) rfl ?_
    refine o_nil ?_
    refine f_seq ?_
    refine c_ret ?_
    refine f_seq_ret ?_
    refine f_block_ret ?_
    refine f_seq_ret ?_
    exact f_retc rfl rfl rfl rfl rfl (by repeat (first | with_reducible exact Ent.nil | (apply Ent.one; focus (repeat (first | with_reducible exact Rem.here | apply Rem.there))))) ⟨⟨la, lc, wa, wc⟩, rfl, rfl⟩
  case neg =>
  rw [show RM.act ⟨most, last, loose, burns, fuse⟩ ⟨kind, n, page, at_, s, ka, kc, ks⟩ = (⟨most, setM last page (overM (getM last page) at_.toNat s), loose.map (fun w : Int × Bytes => if w.1 = page then (w.1, overM w.2 at_.toNat s) else w), burns, fuse⟩, 0) by simp [RM.act, RM.there, hk, ht, b0, b1, b2]]
  have hnl : last ≠ [] := by intro h; rw [h] at ht; simp only [List.length_nil] at ht; omega
  have hpl : (getM last page).length = 256 := getM_len hW.last ht
  have hsl : (setM last page (overM (getM last page) at_.toNat s)).length = last.length := by simp [setM]
  refine c_seq ?_
  refine c_seq ?_
  refine c_region ?_
  refine o_y (y_fieldAddr0 rfl) rfl ?_
  refine o_y (y_load rfl rfl rfl) rfl ?_
  refine o_nil ?_
  refine f_seq ?_
  refine c_block ?_
  refine c_seq ?_
  refine c_region ?_
  refine o_y (y_eql_f rfl rfl (by omega)) rfl ?_
  refine o_y (y_assign rfl) rfl ?_
  refine o_nil ?_
  refine f_seq ?_
  refine c_false rfl ?_
  refine c_seq ?_
  refine c_region ?_
  refine o_y (y_eql_f rfl rfl (by omega)) rfl ?_
  refine o_y (y_assign rfl) rfl ?_
  refine o_nil ?_
  refine f_seq ?_
  refine c_false rfl ?_
  refine c_seq ?_
  refine c_region ?_
  refine o_y (y_eql_f rfl rfl (by omega)) rfl ?_
  refine o_y (y_assign rfl) rfl ?_
  refine o_nil ?_
  refine f_seq ?_
  refine c_false rfl ?_
  refine c_seq ?_
  refine c_region ?_
  refine o_y (y_eql_f rfl rfl (by omega)) rfl ?_
  refine o_y (y_assign rfl) rfl ?_
  refine o_nil ?_
  refine f_seq ?_
  refine c_false rfl ?_
  refine c_seq ?_
  refine c_region ?_
  refine o_y (y_eql_t rfl rfl (by omega)) rfl ?_
  refine o_y (y_assign rfl) rfl ?_
  refine o_nil ?_
  refine f_seq ?_
  refine c_true rfl ?_
  refine c_seq ?_
  refine c_seq ?_
  refine c_region ?_
  refine o_y (y_move rfl) rfl ?_
  refine o_y (y_not rfl) rfl ?_
  refine o_nil ?_
  refine f_seq ?_
  refine c_false rfl ?_
  refine c_skip ?_
  refine f_seq ?_
  refine c_seq ?_
  refine c_seq ?_
  refine c_region ?_
  refine o_y (y_fieldAddr0 rfl) rfl ?_
  refine o_y (y_load rfl rfl rfl) rfl ?_
  refine o_y (y_lss_f rfl rfl (by omega)) rfl ?_
  refine o_y (y_move rfl) rfl ?_
  refine o_want rfl ?_
  refine o_y (y_fieldAddr0 rfl) rfl ?_
  refine o_want rfl ?_
  refine o_y (y_load rfl rfl rfl) rfl ?_
  refine o_want rfl ?_
  refine o_y (y_gtr_f rfl rfl (by omega)) rfl ?_
  refine o_y (y_pick_f rfl rfl) rfl ?_
  refine o_y (y_move rfl) rfl ?_
  refine o_want rfl ?_
  refine o_y (y_fieldAddr0 rfl) rfl ?_
  refine o_want rfl ?_
  refine o_y (y_load rfl rfl rfl) rfl ?_
  refine o_want rfl ?_
  refine o_y (y_fieldAddr0 rfl) rfl ?_
  refine o_want rfl ?_
  refine o_y (y_load rfl rfl rfl) rfl ?_
  refine o_want rfl ?_
  refine o_y (y_len_str rfl) rfl ?_
  refine o_want rfl ?_
  refine o_y (y_arith64 rfl rfl rfl (by omega)) rfl ?_
  refine o_want rfl ?_
  refine o_y (y_gtr_f rfl rfl (by omega)) rfl ?_
  refine o_y (y_pick_f rfl rfl) rfl ?_
  refine o_nil ?_
  refine f_seq ?_
  refine c_false rfl ?_
  refine c_skip ?_
  refine f_seq ?_
  refine c_seq ?_
  refine c_ent (Ent.trans (M := [RowA false strC 1 la last, Blk xb (.cells ⟨[.int .i64 kind, .int .i64 n, .int .i64 page, .int .i64 at_, str s, .slice ka ks.length kc]⟩ 49 (0, 0)), Blk mb (.cells ⟨[.int .i64 most, .slice la last.length lc, .slice wa loose.length wc, .bool burns, .int .i64 fuse]⟩ 46 (0, 0)), RowA false wrC 2 wa loose, RowA false TK.cells 2 ka ks, Blk rb (.cells ⟨[.int .i64 0, .slice none 0 0, .slice none 0 0, .bool false, .int .i64 0]⟩ 46 (0, 0))]) (by repeat (first | with_reducible exact Ent.nil | (apply Ent.one; focus (repeat (first | with_reducible exact Rem.here | apply Rem.there))))) RowA.dup) ?_
  refine c_open (h := RowA.opens (f := strC) hnl) (by repeat (first | with_reducible exact Rem.here | apply Rem.there)) (fun y hy2 => ?_)
  obtain ⟨lb, lo, cs3, T3, fz3⟩ := y
  obtain ⟨e5, e6⟩ := hy2
  dsimp only at e5 e6
  subst e5
  have hg := rowl_get e6 ht
  simp only [List.append_eq, List.cons_append, List.nil_append, List.append_nil, tup]
  refine pl_start [14, 15, 17] Try.mixed ?_; intro hd
  refine pl_lock (A := Bkp _ _ _) Rem.here rfl ?_ hd; intro hb0
  refine pl_lock (A := Bkp _ _ _) (Rem.there Rem.here) rfl ?_ hd; intro hb1
  refine pl_lock (A := Bkp _ _ _) (Rem.there Rem.here) rfl ?_ hd; intro hb2
  refine pl_take (i := 0) rfl (by kernel_rfl) (y_fieldAddr0 rfl) ?_ hd; clear hd; intro hd
  refine pl_take (i := 1) rfl (by kernel_rfl) (y_load rfl rfl rfl) ?_ hd; clear hd; intro hd
  refine pl_take (i := 2) rfl (by kernel_rfl) (y_fieldAddr0 rfl) ?_ hd; clear hd; intro hd
  refine pl_take (i := 3) rfl (by kernel_rfl) (y_load rfl rfl rfl) ?_ hd; clear hd; intro hd
  refine pl_take (i := 4) rfl (by kernel_rfl) (y_fieldAddr0 rfl) ?_ hd; clear hd; intro hd
  refine pl_take (i := 5) rfl (by kernel_rfl) (y_load rfl rfl rfl) ?_ hd; clear hd; intro hd
  refine pl_take (i := 6) rfl (by kernel_rfl) (y_fieldAddr0 rfl) ?_ hd; clear hd; intro hd
  refine pl_take (i := 7) rfl (by kernel_rfl) (y_load rfl rfl rfl) ?_ hd; clear hd; intro hd
  refine pl_take (i := 8) rfl (by kernel_rfl) (y_indexAddr page.toNat rfl rfl (by omega) (by omega)) ?_ hd; clear hd; intro hd
  refine pl_take (i := 9) rfl (by kernel_rfl) (y_load rfl rfl hg) ?_ hd; clear hd; intro hd
  refine pl_take (i := 10) rfl (by kernel_rfl) (y_fieldAddr0 rfl) ?_ hd; clear hd; intro hd
  refine pl_take (i := 11) rfl (by kernel_rfl) (y_load rfl rfl rfl) ?_ hd; clear hd; intro hd
  refine pl_take (i := 12) rfl (by kernel_rfl) (y_fieldAddr0 rfl) ?_ hd; clear hd; intro hd
  refine pl_take (i := 13) rfl (by kernel_rfl) (y_load rfl rfl rfl) ?_ hd; clear hd; intro hd
  refine pl_sole (i := 14) (by kernel_rfl) rfl ?_ hd; clear hd; intro hd
  refine o_call rfl (over_f (getM last page) s at_ at_.toNat (by omega) (by omega) (by omega)) (by repeat (first | with_reducible exact Takes.nil | (apply Takes.cons; focus (repeat (first | with_reducible exact Rem.here | apply Rem.there))))) rfl ?_
  rintro _ _ ⟨rfl, rfl⟩
  simp only [List.append_eq, List.cons_append, List.nil_append, List.append_nil, tup]
  refine pl_back (by repeat (first | with_reducible exact Owes.nil | with_reducible refine Owes.same ?_ | with_reducible refine Owes.any ?_ | refine Owes.waived 14 (by kernel_rfl) ?_)) ?_ hd; clear hd; intro hd
  refine pl_sole (i := 15) (by kernel_rfl) rfl ?_ hd; clear hd; intro hd
  refine o_call rfl (with_f (some ⟨lb, lo, none⟩) lc last page (overM (getM last page) at_.toNat s) last.length rfl ht hm) (by repeat (first | with_reducible exact Takes.nil | (apply Takes.cons; focus (repeat (first | with_reducible exact Rem.here | apply Rem.there))))) rfl ?_
  rintro _ _ ⟨a2, c2, rfl, rfl⟩
  simp only [List.append_eq, List.cons_append, List.nil_append, List.append_nil, tup]
  refine pl_back (by repeat (first | with_reducible exact Owes.nil | with_reducible refine Owes.same ?_ | with_reducible refine Owes.any ?_ | refine Owes.waived 15 (by kernel_rfl) ?_ | refine Owes.waived 14 (by kernel_rfl) ?_)) ?_ hd; clear hd; intro hd
  refine pl_take (i := 16) rfl (by kernel_rfl) (y_fieldAddr0 rfl) ?_ hd; clear hd; intro hd
  refine pl_sole (i := 17) (by kernel_rfl) rfl ?_ hd; clear hd; intro hd
  refine o_unlock (A := Bkp _ _ _) ?_
  refine o_unlock (A := Bkp _ _ _) ?_
  refine o_unlock (A := Bkp _ _ _) ?_
  refine o_store rfl rfl rfl frz0 ?_
  refine pl_back (by repeat (first | with_reducible exact Owes.nil | with_reducible refine Owes.same ?_ | with_reducible refine Owes.any ?_ | refine Owes.waived 17 (by kernel_rfl) ?_ | refine Owes.waived 15 (by kernel_rfl) ?_ | refine Owes.waived 14 (by kernel_rfl) ?_)) ?_ hd; clear hd; intro hd
  refine pl_done (by kernel_rfl) ?_ hd
  refine f_seq ?_
  refine c_seq ?_
  refine c_region ?_
  refine o_buildSlice rfl rfl rfl rfl rfl (fun nb => ?_)
  refine o_y (y_fieldAddr0 rfl) rfl ?_
  refine o_y (y_load rfl rfl rfl) rfl ?_
  rename Nat => nb
  refine o_ent (Ent.shut (A := Sl 72 2 (some ⟨nb, 0, none⟩) 0 0 []) (P := [Blk nb (.cells ⟨[]⟩ 72 (0, 0))]) (by repeat (first | with_reducible exact Takes.nil | (apply Takes.cons; focus (repeat (first | with_reducible exact Rem.here | apply Rem.there))))) (Sl.shut_zero nb)) ?_
  refine o_append (k := loose.length) (ys := loose.flatMap wrC) rfl rfl (RowA.src (by repeat (first | with_reducible exact Rem.here | apply Rem.there))) (by repeat (first | with_reducible exact Rem.here | apply Rem.there)) (wr_one loose) (by omega) rfl (by omega) rfl (fun a3 c3 => ?_)
  simp only [Nat.zero_add, List.nil_append]
  dsimp only [putE]
  have hP : ∀ l : List (Int × Bytes), getN (l.flatMap wrC) 0 (l.length * 2) = some (l.flatMap wrC) := fun l => by
    have := getN_front (l.flatMap wrC) []
    rwa [List.append_nil, wr_len] at this
  refine o_openSl (by repeat (first | with_reducible exact Rem.here | apply Rem.there)) (fun _ e1 e2 e3 => ?_) (fun b4 rs e1 e2 h3 h4 => ?_)
  · subst e1; subst e3
    have hmap : loose.map (fun w : Int × Bytes => if w.1 = page then (w.1, overM w.2 at_.toNat s) else w) = [] := by rw [List.eq_nil_of_length_eq_zero e2]; rfl
    rw [e2, hmap]
    refine o_y (y_assign rfl) rfl ?_
    refine o_nil ?_
    refine f_seq ?_
    refine c_seq ?_
    refine c_seq ?_
    refine c_region ?_
    refine o_y (y_assign rfl) rfl ?_
    refine o_nil ?_
    refine f_seq ?_
    refine c_block ?_
    refine c_loop_inv (X := Unit) (fun _ => True) (fun _ => 0) (fun _ => [Blk rb (.cells ⟨[.int .i64 0, .slice none 0 0, .slice none 0 0, .bool false, .int .i64 0]⟩ 46 (0, 0)), Blk xb (.cells ⟨[.int .i64 kind, .int .i64 n, .int .i64 page, .int .i64 at_, str s, .slice ka ks.length kc]⟩ 49 (0, 0)), Blk mb (.cells ⟨[.int .i64 most, .slice a2 last.length c2, .slice wa 0 wc, .bool burns, .int .i64 fuse]⟩ 46 (0, 0)), RowA false strC 1 a2 (setM last page (overM (getM last page) at_.toNat s)), RowA false TK.cells 2 ka ks])
      (fun _ => [(2, .pointer (some ⟨mb, 0, none⟩)), (3, .pointer (some ⟨xb, 0, none⟩)), (4, .pointer (some ⟨rb, 0, none⟩)), (5, .int .i64 0), (12, .slice none 0 0), (13, .int .i64 0)]) () trivial (by repeat (first | with_reducible exact Ent.nil | (apply Ent.one; focus (repeat (first | with_reducible exact Rem.here | apply Rem.there))))) (by repeat (first | exact trivial | refine ⟨rfl, ?_⟩)) ?_
    intro _ _ _
    refine c_seq ?_
    refine c_seq ?_
    refine c_region ?_
    refine o_y (y_move rfl) rfl ?_
    refine o_y (y_move rfl) rfl ?_
    refine o_y (y_len_slice rfl) rfl ?_
    refine o_y (y_lss_f rfl rfl (by omega)) rfl ?_
    refine o_nil ?_
    refine f_seq ?_
    refine c_false rfl ?_
    refine c_exit ?_
    refine f_seq_exit ?_
    refine f_seq_exit ?_
    refine f_block_here ?_
    refine f_seq ?_
    refine c_region ?_
    refine o_y (y_move rfl) rfl ?_
    refine o_y (y_fieldAddr0 rfl) rfl ?_
    refine o_store rfl rfl rfl frz0 ?_
    refine o_nil ?_
    refine f_block ?_
    refine f_seq ?_
    refine c_seq ?_
    refine c_region ?_
    refine o_y (y_loadN rfl rfl rfl) rfl ?_
    refine o_store rfl rfl rfl frz0 ?_
    refine o_y (y_assign rfl) rfl ?_
    refine o_nil ?_
    refine f_seq ?_
    refine c_ret ?_
    refine f_retc rfl rfl rfl rfl rfl (Ent.one (by repeat (first | with_reducible exact Rem.here | apply Rem.there)) (Ent.put (P := []) (by repeat (first | with_reducible exact Takes.nil | (apply Takes.cons; focus (repeat (first | with_reducible exact Rem.here | apply Rem.there))))) RowA.empty (by repeat (first | with_reducible exact Ent.nil | (apply Ent.one; focus (repeat (first | with_reducible exact Rem.here | apply Rem.there))))))) ⟨⟨a2, c2, none, 0⟩, ?_, rfl⟩
    simp [RM.val, RM.cells, tup, hsl]
  subst e2
  rw [show loose.flatMap wrC = ((loose.take 0).map (fun w : Int × Bytes => if w.1 = page then (w.1, overM w.2 at_.toNat s) else w) ++ loose.drop 0).flatMap wrC from rfl]
  refine o_y (y_assign rfl) rfl ?_
  refine o_nil ?_
  refine f_seq ?_
  refine c_seq ?_
  refine c_seq ?_
  refine c_region ?_
  refine o_y (y_assign rfl) rfl ?_
  refine o_nil ?_
  refine f_seq ?_
  refine c_block ?_
  refine c_loop_inv (X := Nat) (fun i => i ≤ loose.length) (fun i => loose.length - i)
    (fun i => [Blk rb (.cells ⟨[.int .i64 0, .slice none 0 0, .slice none 0 0, .bool false, .int .i64 0]⟩ 46 (0, 0)), Blk xb (.cells ⟨[.int .i64 kind, .int .i64 n, .int .i64 page, .int .i64 at_, str s, .slice ka ks.length kc]⟩ 49 (0, 0)), Blk mb (.cells ⟨[.int .i64 most, .slice a2 last.length c2, .slice wa loose.length wc, .bool burns, .int .i64 fuse]⟩ 46 (0, 0)), RowA false strC 1 a2 (setM last page (overM (getM last page) at_.toNat s)), RowA false TK.cells 2 ka ks, Blk b4 (.cells ⟨((loose.take i).map (fun w : Int × Bytes => if w.1 = page then (w.1, overM w.2 at_.toNat s) else w) ++ loose.drop i).flatMap wrC ++ rs⟩ 72 (0, 0))])
    (fun i => [(2, .pointer (some ⟨mb, 0, none⟩)), (3, .pointer (some ⟨xb, 0, none⟩)), (4, .pointer (some ⟨rb, 0, none⟩)), (5, .int .i64 0), (12, .slice (some ⟨b4, 0, none⟩) loose.length c3), (13, .int .i64 (i : Int))]) 0 (Nat.zero_le _) (by repeat (first | with_reducible exact Ent.nil | (apply Ent.one; focus (repeat (first | with_reducible exact Rem.here | apply Rem.there))))) (by repeat (first | exact trivial | refine ⟨rfl, ?_⟩)) ?_
  intro i hi ih
  by_cases hlt : i < loose.length
  case neg =>
    clear ih
    have : i = loose.length := by omega
    subst this
    rw [List.take_length, List.drop_length, List.append_nil]
    refine c_seq ?_
    refine c_seq ?_
    refine c_region ?_
    refine o_y (y_move rfl) rfl ?_
    refine o_y (y_move rfl) rfl ?_
    refine o_y (y_len_slice rfl) rfl ?_
    refine o_y (y_lss_f rfl rfl (by omega)) rfl ?_
    refine o_nil ?_
    refine f_seq ?_
    refine c_false rfl ?_
    refine c_exit ?_
    refine f_seq_exit ?_
    refine f_seq_exit ?_
    refine f_block_here ?_
    refine f_seq ?_
    refine c_region ?_
    refine o_y (y_move rfl) rfl ?_
    refine o_y (y_fieldAddr0 rfl) rfl ?_
    refine o_store rfl rfl rfl frz0 ?_
    refine o_nil ?_
    refine f_block ?_
    refine f_seq ?_
    refine c_seq ?_
    refine c_region ?_
    refine o_y (y_loadN rfl rfl rfl) rfl ?_
    refine o_store rfl rfl rfl frz0 ?_
    refine o_y (y_assign rfl) rfl ?_
    refine o_nil ?_
    refine f_seq ?_
    refine c_ret ?_
    have hl2 : (loose.map (fun w : Int × Bytes => if w.1 = page then (w.1, overM w.2 at_.toNat s) else w)).length = loose.length := List.length_map _
    refine f_ent (Ent.shut (A := Sl 72 2 (some ⟨b4, 0, none⟩) loose.length c3 ((loose.map (fun w : Int × Bytes => if w.1 = page then (w.1, overM w.2 at_.toNat s) else w)).flatMap wrC)) (P := [Blk b4 (.cells ⟨(loose.map (fun w : Int × Bytes => if w.1 = page then (w.1, overM w.2 at_.toNat s) else w)).flatMap wrC ++ rs⟩ 72 (0, 0))]) (by repeat (first | with_reducible exact Takes.nil | (apply Takes.cons; focus (repeat (first | with_reducible exact Rem.here | apply Rem.there))))) (Sl.shut (by rw [wr_len, hl2]) h3 (by rw [wr_len, hl2]; rw [wr_len] at h4; exact h4))) ?_
    refine f_shareSl wrC (loose.map (fun w : Int × Bytes => if w.1 = page then (w.1, overM w.2 at_.toNat s) else w)) (by repeat (first | with_reducible exact Rem.here | apply Rem.there)) hl2.symm rfl ?_
    refine f_retc rfl rfl rfl rfl rfl (by repeat (first | with_reducible exact Ent.nil | (apply Ent.one; focus (repeat (first | with_reducible exact Rem.here | apply Rem.there))))) ⟨⟨a2, c2, some ⟨b4, 0, none⟩, c3⟩, ?_, rfl⟩
    simp [RM.val, RM.cells, tup, hsl]
  case pos =>
  have hww : loose[i]? = some loose[i] := List.getElem?_eq_getElem hlt
  have hwi := (hW.loose _ (List.getElem_mem hlt)).2
  generalize loose[i] = w at hww hwi
  have hpl2 : ((loose.take i).map (fun w : Int × Bytes => if w.1 = page then (w.1, overM w.2 at_.toNat s) else w)).length = i := by rw [List.length_map, List.length_take]; omega
  have hdr := drop_cons' hww
  have htk : (loose.take (i + 1)).map (fun w : Int × Bytes => if w.1 = page then (w.1, overM w.2 at_.toNat s) else w) = (loose.take i).map (fun w : Int × Bytes => if w.1 = page then (w.1, overM w.2 at_.toNat s) else w) ++ [(fun w : Int × Bytes => if w.1 = page then (w.1, overM w.2 at_.toNat s) else w) w] := by rw [take_snoc' hww, List.map_append]; rfl
  rw [hdr]
  have hq : ((loose.take i).map (fun w : Int × Bytes => if w.1 = page then (w.1, overM w.2 at_.toNat s) else w) ++ w :: loose.drop (i + 1))[i]? = some w := by
    rw [List.getElem?_append_right (by omega), hpl2, Nat.sub_self]; rfl
  have hlen2 : ((loose.take i).map (fun w : Int × Bytes => if w.1 = page then (w.1, overM w.2 at_.toNat s) else w) ++ w :: loose.drop (i + 1)).length = loose.length := by
    rw [List.length_append, hpl2, List.length_cons, List.length_drop]; omega
  obtain ⟨q0, q1, q2⟩ := roww_get (cs := ((loose.take i).map (fun w : Int × Bytes => if w.1 = page then (w.1, overM w.2 at_.toNat s) else w) ++ w :: loose.drop (i + 1)).flatMap wrC ++ rs) (off := 0) (by have := getN_front (((loose.take i).map (fun w : Int × Bytes => if w.1 = page then (w.1, overM w.2 at_.toNat s) else w) ++ w :: loose.drop (i + 1)).flatMap wrC) rs; rwa [wr_len] at this) hq
  have hset := fun v => wr_set ((loose.take i).map (fun w : Int × Bytes => if w.1 = page then (w.1, overM w.2 at_.toNat s) else w)) (loose.drop (i + 1)) w v rs
  rw [hpl2] at hset
  have hbig : (((loose.take i).map (fun w : Int × Bytes => if w.1 = page then (w.1, overM w.2 at_.toNat s) else w) ++ w :: loose.drop (i + 1)).flatMap wrC ++ rs).length = loose.length * 2 + rs.length := by rw [List.length_append, wr_len, hlen2]
  by_cases hp : w.1 = page
  case neg =>
    have hl3 : (loose.take i).map (fun w : Int × Bytes => if w.1 = page then (w.1, overM w.2 at_.toNat s) else w) ++ w :: loose.drop (i + 1) = (loose.take (i + 1)).map (fun w : Int × Bytes => if w.1 = page then (w.1, overM w.2 at_.toNat s) else w) ++ loose.drop (i + 1) := by
      rw [htk, List.append_assoc]; simp [hp]
    refine c_seq ?_
    refine c_seq ?_
    refine c_region ?_
    refine o_y (y_move rfl) rfl ?_
    refine o_y (y_move rfl) rfl ?_
    refine o_y (y_len_slice rfl) rfl ?_
    refine o_y (y_lss_t rfl rfl (by omega)) rfl ?_
    refine o_nil ?_
    refine f_seq ?_
    refine c_true rfl ?_
    refine c_skip ?_
    refine f_seq ?_
    refine c_seq ?_
    refine c_block ?_
    refine c_seq ?_
    refine pl_start [] Try.mixed ?_; intro hd
    refine pl_lock (A := Blk _ _) (Rem.there Rem.here) rfl ?_ hd; intro hb0
    refine pl_lock (A := Blk _ _) (Rem.there (Rem.there (Rem.there (Rem.there Rem.here)))) rfl ?_ hd; intro hb1
    refine pl_take (i := 0) rfl (by kernel_rfl) (y_move rfl) ?_ hd; clear hd; intro hd
    refine pl_take (i := 1) rfl (by kernel_rfl) (y_move rfl) ?_ hd; clear hd; intro hd
    refine pl_take (i := 2) rfl (by kernel_rfl) (y_indexAddr i rfl rfl rfl hlt) ?_ hd; clear hd; intro hd
    refine pl_take (i := 3) rfl (by kernel_rfl) (y_fieldAddr rfl) ?_ hd; clear hd; intro hd
    refine pl_take (i := 4) rfl (by kernel_rfl) (y_load rfl rfl q1) ?_ hd; clear hd; intro hd
    refine pl_take (i := 5) rfl (by kernel_rfl) (y_fieldAddr0 rfl) ?_ hd; clear hd; intro hd
    refine pl_take (i := 6) rfl (by kernel_rfl) (y_load rfl rfl rfl) ?_ hd; clear hd; intro hd
    refine pl_take (i := 7) rfl (by kernel_rfl) (y_eql_f rfl rfl (by omega)) ?_ hd; clear hd; intro hd
    refine pl_done (by kernel_rfl) ?_ hd
    refine f_unlock (A := Blk _ _) ?_
    refine f_unlock (A := Blk _ _) ?_
    refine f_seq ?_
    refine c_false rfl ?_
    refine c_skip ?_
    refine f_block ?_
    refine f_seq ?_
    refine c_region ?_
    refine o_y (y_move rfl) rfl ?_
    refine o_y (y_arith64 rfl rfl rfl (by omega)) rfl ?_
    refine o_y (y_assign rfl) rfl ?_
    refine o_nil ?_
    rw [hl3]
    exact f_next (by repeat (first | with_reducible exact Ent.nil | (apply Ent.one; focus (repeat (first | with_reducible exact Rem.here | apply Rem.there))))) (by repeat (first | exact trivial | refine ⟨rfl, ?_⟩)) (ih (i + 1) hlt (by omega))
  case pos =>
  have hl3 : (loose.take i).map (fun w : Int × Bytes => if w.1 = page then (w.1, overM w.2 at_.toNat s) else w) ++ (w.1, overM w.2 at_.toNat s) :: loose.drop (i + 1) = (loose.take (i + 1)).map (fun w : Int × Bytes => if w.1 = page then (w.1, overM w.2 at_.toNat s) else w) ++ loose.drop (i + 1) := by
    rw [htk, List.append_assoc]; simp [hp]
  refine c_seq ?_
  refine c_seq ?_
  refine c_region ?_
  refine o_y (y_move rfl) rfl ?_
  refine o_y (y_move rfl) rfl ?_
  refine o_y (y_len_slice rfl) rfl ?_
  refine o_y (y_lss_t rfl rfl (by omega)) rfl ?_
  refine o_nil ?_
  refine f_seq ?_
  refine c_true rfl ?_
  refine c_skip ?_
  refine f_seq ?_
  refine c_seq ?_
  refine c_block ?_
  refine c_seq ?_
  refine pl_start [] Try.mixed ?_; intro hd
  refine pl_lock (A := Blk _ _) (Rem.there Rem.here) rfl ?_ hd; intro hb0
  refine pl_lock (A := Blk _ _) (Rem.there (Rem.there (Rem.there (Rem.there Rem.here)))) rfl ?_ hd; intro hb1
  refine pl_take (i := 0) rfl (by kernel_rfl) (y_move rfl) ?_ hd; clear hd; intro hd
  refine pl_take (i := 1) rfl (by kernel_rfl) (y_move rfl) ?_ hd; clear hd; intro hd
  refine pl_take (i := 2) rfl (by kernel_rfl) (y_indexAddr i rfl rfl rfl hlt) ?_ hd; clear hd; intro hd
  refine pl_take (i := 3) rfl (by kernel_rfl) (y_fieldAddr rfl) ?_ hd; clear hd; intro hd
  refine pl_take (i := 4) rfl (by kernel_rfl) (y_load rfl rfl q1) ?_ hd; clear hd; intro hd
  refine pl_take (i := 5) rfl (by kernel_rfl) (y_fieldAddr0 rfl) ?_ hd; clear hd; intro hd
  refine pl_take (i := 6) rfl (by kernel_rfl) (y_load rfl rfl rfl) ?_ hd; clear hd; intro hd
  refine pl_take (i := 7) rfl (by kernel_rfl) (y_eql_t rfl rfl (by omega)) ?_ hd; clear hd; intro hd
  refine pl_done (by kernel_rfl) ?_ hd
  refine f_unlock (A := Blk _ _) ?_
  refine f_unlock (A := Blk _ _) ?_
  refine f_seq ?_
  refine c_true rfl ?_
  refine c_ent (M := [Blk xb (.cells ⟨[.int .i64 kind, .int .i64 n, .int .i64 page, .int .i64 at_, str s, .slice ka ks.length kc]⟩ 49 (0, 0)), Blk b4 (.cells ⟨((loose.take i).map (fun w : Int × Bytes => if w.1 = page then (w.1, overM w.2 at_.toNat s) else w) ++ w :: loose.drop (i + 1)).flatMap wrC ++ rs⟩ 72 (0, 0)), Blk rb (.cells ⟨[.int .i64 0, .slice none 0 0, .slice none 0 0, .bool false, .int .i64 0]⟩ 46 (0, 0)), Blk mb (.cells ⟨[.int .i64 most, .slice a2 last.length c2, .slice wa loose.length wc, .bool burns, .int .i64 fuse]⟩ 46 (0, 0)), RowA false strC 1 a2 (setM last page (overM (getM last page) at_.toNat s)), RowA false TK.cells 2 ka ks]) (by repeat (first | with_reducible exact Ent.nil | (apply Ent.one; focus (repeat (first | with_reducible exact Rem.here | apply Rem.there))))) ?_
  refine pl_start [11, 14] Try.mixed ?_; intro hd
  refine pl_lock (A := Blk _ _) Rem.here rfl ?_ hd; intro hb0
  refine pl_lock (A := Blk _ _) Rem.here rfl ?_ hd; intro hb1
  refine pl_take (i := 0) rfl (by kernel_rfl) (y_move rfl) ?_ hd; clear hd; intro hd
  refine pl_take (i := 1) rfl (by kernel_rfl) (y_move rfl) ?_ hd; clear hd; intro hd
  refine pl_take (i := 2) rfl (by kernel_rfl) (y_move rfl) ?_ hd; clear hd; intro hd
  refine pl_take (i := 3) rfl (by kernel_rfl) (y_move rfl) ?_ hd; clear hd; intro hd
  refine pl_take (i := 4) rfl (by kernel_rfl) (y_indexAddr i rfl rfl rfl hlt) ?_ hd; clear hd; intro hd
  refine pl_take (i := 5) rfl (by kernel_rfl) (y_fieldAddr rfl) ?_ hd; clear hd; intro hd
  refine pl_take (i := 6) rfl (by kernel_rfl) (y_load rfl rfl q2) ?_ hd; clear hd; intro hd
  refine pl_take (i := 7) rfl (by kernel_rfl) (y_fieldAddr0 rfl) ?_ hd; clear hd; intro hd
  refine pl_take (i := 8) rfl (by kernel_rfl) (y_load rfl rfl rfl) ?_ hd; clear hd; intro hd
  refine pl_take (i := 9) rfl (by kernel_rfl) (y_fieldAddr0 rfl) ?_ hd; clear hd; intro hd
  refine pl_take (i := 10) rfl (by kernel_rfl) (y_load rfl rfl rfl) ?_ hd; clear hd; intro hd
  refine pl_sole (i := 11) (by kernel_rfl) rfl ?_ hd; clear hd; intro hd
  refine o_call rfl (over_f w.2 s at_ at_.toNat (by omega) (by omega) (by omega)) (by repeat (first | with_reducible exact Takes.nil | (apply Takes.cons; focus (repeat (first | with_reducible exact Rem.here | apply Rem.there))))) rfl ?_
  rintro _ _ ⟨rfl, rfl⟩
  simp only [List.append_eq, List.cons_append, List.nil_append, List.append_nil, tup]
  refine pl_back (by repeat (first | with_reducible exact Owes.nil | with_reducible refine Owes.same ?_ | with_reducible refine Owes.any ?_ | refine Owes.waived 11 (by kernel_rfl) ?_)) ?_ hd; clear hd; intro hd
  refine pl_take (i := 12) rfl (by kernel_rfl) (y_indexAddr i rfl rfl rfl hlt) ?_ hd; clear hd; intro hd
  refine pl_take (i := 13) rfl (by kernel_rfl) (y_fieldAddr rfl) ?_ hd; clear hd; intro hd
  refine pl_sole (i := 14) (by kernel_rfl) rfl ?_ hd; clear hd; intro hd
  refine o_unlock (A := Blk _ _) ?_
  refine o_unlock (A := Blk _ _) ?_
  refine o_store rfl rfl rfl (hset := SetN.at (by rw [hbig]; omega)) frz0 ?_
  refine pl_back (by repeat (first | with_reducible exact Owes.nil | with_reducible refine Owes.same ?_ | with_reducible refine Owes.any ?_ | refine Owes.waived 14 (by kernel_rfl) ?_ | refine Owes.waived 11 (by kernel_rfl) ?_)) ?_ hd; clear hd; intro hd
  refine pl_done (by kernel_rfl) ?_ hd
  rw [hset, hl3]
  refine f_block ?_
  refine f_seq ?_
  refine c_region ?_
  refine o_y (y_move rfl) rfl ?_
  refine o_y (y_arith64 rfl rfl rfl (by omega)) rfl ?_
  refine o_y (y_assign rfl) rfl ?_
  refine o_nil ?_
  exact f_next (by repeat (first | with_reducible exact Ent.nil | (apply Ent.one; focus (repeat (first | with_reducible exact Rem.here | apply Rem.there))))) (by repeat (first | exact trivial | refine ⟨rfl, ?_⟩)) (ih (i + 1) hlt (by omega))
end Go.Lun

/- The document's disk: Write. -/
import Derived.Test.YtijahemmbooblaaRef2
namespace Go.Lun
open Go.Proofs

set_option maxHeartbeats 3200000 in
theorem rdo1_f (M : RM) (A : MA) (x : ActM) (h : RIn M x) (hk : x.kind = 1) : RDo M A x := by
  unfold RDo
  refine fn_start Try.func23 rfl rfl rfl fun F => ?_
  obtain ⟨hx, hok, hW, hn, hm, hf, hf'⟩ := h
  obtain ⟨most, last, loose, burns, fuse⟩ := M
  obtain ⟨la, lc, wa, wc⟩ := A
  obtain ⟨kind, n, page, at_, s, ka, kc, ks⟩ := x
  simp only [ActM.few, Bool.and_eq_true, decide_eq_true_eq] at hx
  obtain ⟨⟨hxs, hxk⟩, hxn⟩ := hx
  dsimp only at hxs hxk hxn hn hm hf hf' hk
  dsimp only [ActM.val, ActM.cells, RM.val, RM.cells, RowL, RowW]
  refine c_seq ?_
  refine c_region ?_
  refine o_box rfl rfl (fun mb => ?_)
  refine o_box rfl rfl (fun xb => ?_)
  refine o_alloc rfl (fun rb => ?_)
  refine o_y (y_assign rfl) rfl ?_
  refine o_nil ?_
  refine f_seq ?_
  refine c_seq ?_
  refine c_cut (X := Unit) (fun _ => [Blk rb (.cells ⟨[.int .i64 0, .slice none 0 0, .slice none 0 0, .bool false, .int .i64 0]⟩ 46 (0, 0)),
      Blk xb (.cells ⟨[.int .i64 kind, .int .i64 n, .int .i64 page, .int .i64 at_, str s, .slice ka ks.length kc]⟩ 49 (0, 0)),
      Blk mb (.cells ⟨[.int .i64 most, .slice la last.length lc, .slice wa loose.length wc, .bool burns, .int .i64 fuse]⟩ 46 (0, 0)),
      RowA false strC 1 la last, RowA false wrC 2 wa loose, RowA false TK.cells 2 ka ks])
    (fun _ => [(2, .pointer (some ⟨mb, 0, none⟩)), (3, .pointer (some ⟨xb, 0, none⟩)), (4, .pointer (some ⟨rb, 0, none⟩)), (5, .int .i64 0), (6, .bool (decide (0 ≤ page ∧ page < last.length)))]) ?_ ?_
  · by_cases p0 : 0 ≤ page
    · by_cases p1 : page < last.length
      · rw [decide_eq_true (show 0 ≤ page ∧ page < last.length from ⟨p0, p1⟩)]
        refine c_region ?_
        refine o_y (y_fieldAddr0 rfl) rfl ?_
        refine o_y (y_load rfl rfl rfl) rfl ?_
        refine o_y (y_geq_t rfl rfl (by omega)) rfl ?_
        refine o_y (y_move rfl) rfl ?_
        refine o_want rfl ?_
        refine o_y (y_fieldAddr0 rfl) rfl ?_
        refine o_want rfl ?_
        refine o_y (y_load rfl rfl rfl) rfl ?_
        refine o_want rfl ?_
        refine o_y (y_fieldAddr0 rfl) rfl ?_
        refine o_want rfl ?_
        refine o_y (y_load rfl rfl rfl) rfl ?_
        refine o_want rfl ?_
        refine o_y (y_len_slice rfl) rfl ?_
        refine o_want rfl ?_
        refine o_y (y_lss_t rfl rfl (by omega)) rfl ?_
        refine o_y (y_pick_t rfl rfl) rfl ?_
        refine o_y (y_assign rfl) rfl ?_
        refine o_nil ?_
        exact f_cut () (by repeat (first | with_reducible exact Ent.nil | (apply Ent.one; focus (repeat (first | with_reducible exact Rem.here | apply Rem.there))))) (by repeat (first | exact trivial | refine ⟨rfl, ?_⟩))
      · rw [decide_eq_false (show ¬ (0 ≤ page ∧ page < last.length) from fun h => p1 h.2)]
        refine c_region ?_
        refine o_y (y_fieldAddr0 rfl) rfl ?_
        refine o_y (y_load rfl rfl rfl) rfl ?_
        refine o_y (y_geq_t rfl rfl (by omega)) rfl ?_
        refine o_y (y_move rfl) rfl ?_
        refine o_want rfl ?_
        refine o_y (y_fieldAddr0 rfl) rfl ?_
        refine o_want rfl ?_
        refine o_y (y_load rfl rfl rfl) rfl ?_
        refine o_want rfl ?_
        refine o_y (y_fieldAddr0 rfl) rfl ?_
        refine o_want rfl ?_
        refine o_y (y_load rfl rfl rfl) rfl ?_
        refine o_want rfl ?_
        refine o_y (y_len_slice rfl) rfl ?_
        refine o_want rfl ?_
        refine o_y (y_lss_f rfl rfl (by omega)) rfl ?_
        refine o_y (y_pick_t rfl rfl) rfl ?_
        refine o_y (y_assign rfl) rfl ?_
        refine o_nil ?_
        exact f_cut () (by repeat (first | with_reducible exact Ent.nil | (apply Ent.one; focus (repeat (first | with_reducible exact Rem.here | apply Rem.there))))) (by repeat (first | exact trivial | refine ⟨rfl, ?_⟩))
    · rw [decide_eq_false (show ¬ (0 ≤ page ∧ page < last.length) from fun h => p0 h.1)]
      refine c_region ?_
      refine o_y (y_fieldAddr0 rfl) rfl ?_
      refine o_y (y_load rfl rfl rfl) rfl ?_
      refine o_y (y_geq_f rfl rfl (by omega)) rfl ?_
      refine o_y (y_move rfl) rfl ?_
      refine o_skip rfl rfl ?_
      refine o_skip rfl rfl ?_
      refine o_skip rfl rfl ?_
      refine o_skip rfl rfl ?_
      refine o_skip rfl rfl ?_
      refine o_skip rfl rfl ?_
      refine o_y (y_pick_f rfl rfl) rfl ?_
      refine o_y (y_assign rfl) rfl ?_
      refine o_nil ?_
      exact f_cut () (by repeat (first | with_reducible exact Ent.nil | (apply Ent.one; focus (repeat (first | with_reducible exact Rem.here | apply Rem.there))))) (by repeat (first | exact trivial | refine ⟨rfl, ?_⟩))
  intro _
  refine c_seq ?_
  refine c_cut (X := Unit) (fun _ => [Blk rb (.cells ⟨[.int .i64 0, .slice none 0 0, .slice none 0 0, .bool false, .int .i64 0]⟩ 46 (0, 0)),
      Blk xb (.cells ⟨[.int .i64 kind, .int .i64 n, .int .i64 page, .int .i64 at_, str s, .slice ka ks.length kc]⟩ 49 (0, 0)),
      Blk mb (.cells ⟨[.int .i64 most, .slice la last.length lc, .slice wa loose.length wc, .bool burns, .int .i64 fuse]⟩ 46 (0, 0)),
      RowA false strC 1 la last, RowA false wrC 2 wa loose, RowA false TK.cells 2 ka ks])
    (fun _ => [(2, .pointer (some ⟨mb, 0, none⟩)), (3, .pointer (some ⟨xb, 0, none⟩)), (4, .pointer (some ⟨rb, 0, none⟩)), (5, .int .i64 0), (6, .bool (decide (0 ≤ page ∧ page < last.length))), (7, .bool (burns && decide (fuse = 0)))]) ?_ ?_
  · cases burns with
    | false =>
      refine c_region ?_
      refine o_y (y_fieldAddr0 rfl) rfl ?_
      refine o_y (y_load rfl rfl rfl) rfl ?_
      refine o_y (y_move rfl) rfl ?_
      refine o_skip rfl rfl ?_
      refine o_skip rfl rfl ?_
      refine o_skip rfl rfl ?_
      refine o_y (y_pick_f rfl rfl) rfl ?_
      refine o_y (y_assign rfl) rfl ?_
      refine o_nil ?_
      exact f_cut () (by repeat (first | with_reducible exact Ent.nil | (apply Ent.one; focus (repeat (first | with_reducible exact Rem.here | apply Rem.there))))) (by repeat (first | exact trivial | refine ⟨rfl, ?_⟩))
    | true =>
      by_cases f0 : fuse = 0
      · rw [decide_eq_true f0]
        refine c_region ?_
        refine o_y (y_fieldAddr0 rfl) rfl ?_
        refine o_y (y_load rfl rfl rfl) rfl ?_
        refine o_y (y_move rfl) rfl ?_
        refine o_want rfl ?_
        refine o_y (y_fieldAddr0 rfl) rfl ?_
        refine o_want rfl ?_
        refine o_y (y_load rfl rfl rfl) rfl ?_
        refine o_want rfl ?_
        refine o_y (y_eql_t rfl rfl (by omega)) rfl ?_
        refine o_y (y_pick_t rfl rfl) rfl ?_
        refine o_y (y_assign rfl) rfl ?_
        refine o_nil ?_
        exact f_cut () (by repeat (first | with_reducible exact Ent.nil | (apply Ent.one; focus (repeat (first | with_reducible exact Rem.here | apply Rem.there))))) (by repeat (first | exact trivial | refine ⟨rfl, ?_⟩))
      · rw [decide_eq_false f0]
        refine c_region ?_
        refine o_y (y_fieldAddr0 rfl) rfl ?_
        refine o_y (y_load rfl rfl rfl) rfl ?_
        refine o_y (y_move rfl) rfl ?_
        refine o_want rfl ?_
        refine o_y (y_fieldAddr0 rfl) rfl ?_
        refine o_want rfl ?_
        refine o_y (y_load rfl rfl rfl) rfl ?_
        refine o_want rfl ?_
        refine o_y (y_eql_f rfl rfl (by omega)) rfl ?_
        refine o_y (y_pick_t rfl rfl) rfl ?_
        refine o_y (y_assign rfl) rfl ?_
        refine o_nil ?_
        exact f_cut () (by repeat (first | with_reducible exact Ent.nil | (apply Ent.one; focus (repeat (first | with_reducible exact Rem.here | apply Rem.there))))) (by repeat (first | exact trivial | refine ⟨rfl, ?_⟩))
  intro _

  by_cases ht : 0 ≤ page ∧ page < last.length
  case neg =>
    rw [decide_eq_false ht]
    rw [show RM.act ⟨most, last, loose, burns, fuse⟩ ⟨kind, n, page, at_, s, ka, kc, ks⟩ = (⟨most, last, loose, burns, fuse⟩, 30) by simp [RM.act, RM.there, hk, ht]]
    refine c_seq ?_
    refine c_seq ?_
    refine c_region ?_
    refine o_y (y_fieldAddr0 rfl) rfl ?_
    refine o_y (y_load rfl rfl rfl) rfl ?_
    refine o_nil ?_
    refine f_seq ?_
    refine c_block ?_
    refine c_seq ?_
    refine c_region ?_
    refine o_y (y_eql_f rfl rfl (by omega)) rfl ?_
    refine o_y (y_assign rfl) rfl ?_
    refine o_nil ?_
    refine f_seq ?_
    refine c_false rfl ?_
    refine c_seq ?_
    refine c_region ?_
    refine o_y (y_eql_t rfl rfl (by omega)) rfl ?_
    refine o_y (y_assign rfl) rfl ?_
    refine o_nil ?_
    refine f_seq ?_
    refine c_true rfl ?_
    refine c_seq ?_
    refine c_seq ?_
    refine c_region ?_
    refine o_y (y_move rfl) rfl ?_
    refine o_y (y_not rfl) rfl ?_
    refine o_nil ?_
    refine f_seq ?_
    refine c_true rfl ?_
    refine c_seq ?_
    refine c_region ?_
    refine o_y (y_loadN rfl rfl rfl) rfl ?_
    refine o_store rfl rfl rfl frz0 ?_
    refine o_y (y_assign rfl) rfl ?_
    refine o_nil ?_
    refine f_seq ?_
    refine c_ret ?_
    refine f_seq_ret ?_
    refine f_block_ret ?_
    refine f_seq_ret ?_
    exact f_retc rfl rfl rfl rfl rfl (by repeat (first | with_reducible exact Ent.nil | (apply Ent.one; focus (repeat (first | with_reducible exact Rem.here | apply Rem.there))))) ⟨⟨la, lc, wa, wc⟩, rfl, rfl⟩
  case pos =>
  rw [decide_eq_true ht]
  by_cases h256 : s.length ≠ 256
  case pos =>
    rw [show RM.act ⟨most, last, loose, burns, fuse⟩ ⟨kind, n, page, at_, s, ka, kc, ks⟩ = (⟨most, last, loose, burns, fuse⟩, 31) by simp [RM.act, RM.there, hk, ht, h256]]
    refine c_seq ?_
    refine c_seq ?_
    refine c_region ?_
    refine o_y (y_fieldAddr0 rfl) rfl ?_
    refine o_y (y_load rfl rfl rfl) rfl ?_
    refine o_nil ?_
    refine f_seq ?_
    refine c_block ?_
    refine c_seq ?_
    refine c_region ?_
    refine o_y (y_eql_f rfl rfl (by omega)) rfl ?_
    refine o_y (y_assign rfl) rfl ?_
    refine o_nil ?_
    refine f_seq ?_
    refine c_false rfl ?_
    refine c_seq ?_
    refine c_region ?_
    refine o_y (y_eql_t rfl rfl (by omega)) rfl ?_
    refine o_y (y_assign rfl) rfl ?_
    refine o_nil ?_
    refine f_seq ?_
    refine c_true rfl ?_
    refine c_seq ?_
    refine c_seq ?_
    refine c_region ?_
    refine o_y (y_move rfl) rfl ?_
    refine o_y (y_not rfl) rfl ?_
    refine o_nil ?_
    refine f_seq ?_
    refine c_false rfl ?_
    refine c_skip ?_
    refine f_seq ?_
    refine c_seq ?_
    refine c_seq ?_
    refine c_region ?_
    refine o_y (y_fieldAddr0 rfl) rfl ?_
    refine o_y (y_load rfl rfl rfl) rfl ?_
    refine o_y (y_len_str rfl) rfl ?_
    refine o_y (y_neq_t rfl rfl (by omega)) rfl ?_
    refine o_nil ?_
    refine f_seq ?_
    refine c_true rfl ?_
    refine c_seq ?_
    refine c_region ?_
    refine o_y (y_loadN rfl rfl rfl) rfl ?_
    refine o_store rfl rfl rfl frz0 ?_
    refine o_y (y_assign rfl) rfl ?_
    refine o_nil ?_
    refine f_seq ?_
    refine c_ret ?_
    refine f_seq_ret ?_
    refine f_block_ret ?_
    refine f_seq_ret ?_
    exact f_retc rfl rfl rfl rfl rfl (by repeat (first | with_reducible exact Ent.nil | (apply Ent.one; focus (repeat (first | with_reducible exact Rem.here | apply Rem.there))))) ⟨⟨la, lc, wa, wc⟩, rfl, rfl⟩
  case neg =>
  have h256' : s.length = 256 := Decidable.not_not.1 h256
  cases hd : (burns && decide (fuse = 0)) with
  | true =>
    rw [show RM.act ⟨most, last, loose, burns, fuse⟩ ⟨kind, n, page, at_, s, ka, kc, ks⟩ = (⟨most, last, loose, burns, fuse⟩, 33) by simp [RM.act, RM.there, RM.dead, hk, ht, h256', hd]]
    refine c_seq ?_
    refine c_seq ?_
    refine c_region ?_
    refine o_y (y_fieldAddr0 rfl) rfl ?_
    refine o_y (y_load rfl rfl rfl) rfl ?_
    refine o_nil ?_
    refine f_seq ?_
    refine c_block ?_
    refine c_seq ?_
    refine c_region ?_
    refine o_y (y_eql_f rfl rfl (by omega)) rfl ?_
    refine o_y (y_assign rfl) rfl ?_
    refine o_nil ?_
    refine f_seq ?_
    refine c_false rfl ?_
    refine c_seq ?_
    refine c_region ?_
    refine o_y (y_eql_t rfl rfl (by omega)) rfl ?_
    refine o_y (y_assign rfl) rfl ?_
    refine o_nil ?_
    refine f_seq ?_
    refine c_true rfl ?_
    refine c_seq ?_
    refine c_seq ?_
    refine c_region ?_
    refine o_y (y_move rfl) rfl ?_
    refine o_y (y_not rfl) rfl ?_
    refine o_nil ?_
    refine f_seq ?_
    refine c_false rfl ?_
    refine c_skip ?_
    refine f_seq ?_
    refine c_seq ?_
    refine c_seq ?_
    refine c_region ?_
    refine o_y (y_fieldAddr0 rfl) rfl ?_
    refine o_y (y_load rfl rfl rfl) rfl ?_
    refine o_y (y_len_str rfl) rfl ?_
    refine o_y (y_neq_f rfl rfl (by omega)) rfl ?_
    refine o_nil ?_
    refine f_seq ?_
    refine c_false rfl ?_
    refine c_skip ?_
    refine f_seq ?_
    refine c_seq ?_
    refine c_seq ?_
    refine c_region ?_
    refine o_y (y_move rfl) rfl ?_
    refine o_nil ?_
    refine f_seq ?_
    refine c_true rfl ?_
    refine c_seq ?_
    refine c_region ?_
    refine o_y (y_loadN rfl rfl rfl) rfl ?_
    refine o_store rfl rfl rfl frz0 ?_
    refine o_y (y_assign rfl) rfl ?_
    refine o_nil ?_
    refine f_seq ?_
    refine c_ret ?_
    refine f_seq_ret ?_
    refine f_block_ret ?_
    refine f_seq_ret ?_
    exact f_retc rfl rfl rfl rfl rfl (by repeat (first | with_reducible exact Ent.nil | (apply Ent.one; focus (repeat (first | with_reducible exact Rem.here | apply Rem.there))))) ⟨⟨la, lc, wa, wc⟩, rfl, rfl⟩
  | false =>
    rw [show RM.act ⟨most, last, loose, burns, fuse⟩ ⟨kind, n, page, at_, s, ka, kc, ks⟩ = (⟨most, last, loose ++ [(page, s)], burns, fuse - 1⟩, 0) by simp [RM.act, RM.there, RM.dead, hk, ht, h256', hd]]
    have e1 : loose.flatMap wrC ++ [.int .i64 page, str s] = (loose ++ [(page, s)]).flatMap wrC := by simp [wrC]
    refine c_seq ?_
    refine c_seq ?_
    refine c_region ?_
    refine o_y (y_fieldAddr0 rfl) rfl ?_
    refine o_y (y_load rfl rfl rfl) rfl ?_
    refine o_nil ?_
    refine f_seq ?_
    refine c_block ?_
    refine c_seq ?_
    refine c_region ?_
    refine o_y (y_eql_f rfl rfl (by omega)) rfl ?_
    refine o_y (y_assign rfl) rfl ?_
    refine o_nil ?_
    refine f_seq ?_
    refine c_false rfl ?_
    refine c_seq ?_
    refine c_region ?_
    refine o_y (y_eql_t rfl rfl (by omega)) rfl ?_
    refine o_y (y_assign rfl) rfl ?_
    refine o_nil ?_
    refine f_seq ?_
    refine c_true rfl ?_
    refine c_seq ?_
    refine c_seq ?_
    refine c_region ?_
    refine o_y (y_move rfl) rfl ?_
    refine o_y (y_not rfl) rfl ?_
    refine o_nil ?_
    refine f_seq ?_
    refine c_false rfl ?_
    refine c_skip ?_
    refine f_seq ?_
    refine c_seq ?_
    refine c_seq ?_
    refine c_region ?_
    refine o_y (y_fieldAddr0 rfl) rfl ?_
    refine o_y (y_load rfl rfl rfl) rfl ?_
    refine o_y (y_len_str rfl) rfl ?_
    refine o_y (y_neq_f rfl rfl (by omega)) rfl ?_
    refine o_nil ?_
    refine f_seq ?_
    refine c_false rfl ?_
    refine c_skip ?_
    refine f_seq ?_
    refine c_seq ?_
    refine c_seq ?_
    refine c_region ?_
    refine o_y (y_move rfl) rfl ?_
    refine o_nil ?_
    refine f_seq ?_
    refine c_false rfl ?_
    refine c_skip ?_
    refine f_seq ?_
    refine c_seq ?_
    refine c_region ?_
    refine o_y (y_fieldAddr0 rfl) rfl ?_
    refine o_y (y_load rfl rfl rfl) rfl ?_
    refine o_y (y_arith64 rfl rfl rfl (by omega)) rfl ?_
    refine o_y (y_fieldAddr0 rfl) rfl ?_
    refine o_store rfl rfl rfl frz0 ?_
    refine o_nil ?_
    refine f_seq ?_
    refine c_fin (X := Option Addr × Nat) (fun t => [Blk rb (.cells ⟨[.int .i64 0, .slice none 0 0, .slice none 0 0, .bool false, .int .i64 0]⟩ 46 (0, 0)), Blk xb (.cells ⟨[.int .i64 kind, .int .i64 n, .int .i64 page, .int .i64 at_, str s, .slice ka ks.length kc]⟩ 49 (0, 0)), Blk mb (.cells ⟨[.int .i64 most, .slice la last.length lc, .slice t.1 (loose.length + 1) t.2, .bool burns, .int .i64 (fuse - 1)]⟩ 46 (0, 0)), RowA false strC 1 la last, Sl 72 2 t.1 (loose.length + 1) t.2 ((loose ++ [(page, s)]).flatMap wrC), RowA false TK.cells 2 ka ks])
      (fun _ => [(2, .pointer (some ⟨mb, 0, none⟩)), (3, .pointer (some ⟨xb, 0, none⟩)), (4, .pointer (some ⟨rb, 0, none⟩)), (5, .int .i64 0)]) ?_ ?_
    ·
      refine pl_start [0, 3, 9, 10, 12] Try.mixed ?_; intro hd
      refine pl_lock (A := Blk _ _) (Rem.there Rem.here) rfl ?_ hd; intro hb0
      refine pl_lock (A := Blk _ _) (Rem.there Rem.here) rfl ?_ hd; intro hb1
      refine pl_take (i := 1) rfl (by kernel_rfl) (y_fieldAddr0 rfl) ?_ hd; clear hd; intro hd
      refine pl_take (i := 2) rfl (by kernel_rfl) (y_load rfl rfl rfl) ?_ hd; clear hd; intro hd
      refine pl_take (i := 4) rfl (by kernel_rfl) (y_fieldAddr0 rfl) ?_ hd; clear hd; intro hd
      refine pl_take (i := 5) rfl (by kernel_rfl) (y_load rfl rfl rfl) ?_ hd; clear hd; intro hd
      refine pl_take (i := 6) rfl (by kernel_rfl) (y_fieldAddr0 rfl) ?_ hd; clear hd; intro hd
      refine pl_take (i := 7) rfl (by kernel_rfl) (y_load rfl rfl rfl) ?_ hd; clear hd; intro hd
      refine pl_take (i := 8) rfl (by kernel_rfl) (y_build rfl) ?_ hd; clear hd; intro hd
      refine pl_two (i := 0) (j := 9) (by kernel_rfl) rfl rfl ?_ ?_ hd
      · clear hd; intro hd
        refine o_buildSlice rfl rfl rfl rfl rfl (fun nb0 => ?_)
        refine o_ent (Ent.shut (A := Sl 72 2 (some ⟨nb0, 0, none⟩) 0 0 []) (P := [Blk nb0 (.cells ⟨[]⟩ 72 (0, 0))]) (by repeat (first | with_reducible exact Takes.nil | (apply Takes.cons; focus (repeat (first | with_reducible exact Rem.here | apply Rem.there))))) (Sl.shut_zero nb0)) ?_
        refine pl_back (by repeat (first | with_reducible exact Owes.nil | with_reducible refine Owes.same ?_ | with_reducible refine Owes.any ?_ | refine Owes.waived 0 (by kernel_rfl) ?_)) ?_ hd; clear hd; intro hd
        refine pl_two (i := 3) (j := 9) (by kernel_rfl) rfl rfl ?_ ?_ hd
        · clear hd; intro hd
          refine o_append (k := loose.length) (ys := loose.flatMap wrC) rfl rfl (RowA.src (by repeat (first | with_reducible exact Rem.here | apply Rem.there))) (by repeat (first | with_reducible exact Rem.here | apply Rem.there)) (wr_one loose) (by omega) rfl (by omega) rfl (fun a1 c1 => ?_)
          simp only [Nat.zero_add, List.nil_append]
          refine pl_back (by repeat (first | with_reducible exact Owes.nil | with_reducible refine Owes.same ?_ | with_reducible refine Owes.any ?_ | refine Owes.waived 3 (by kernel_rfl) ?_ | refine Owes.waived 0 (by kernel_rfl) ?_)) ?_ hd; clear hd; intro hd
          refine pl_sole (i := 9) (by kernel_rfl) rfl ?_ hd; clear hd; intro hd
          refine o_buildSlice rfl rfl rfl rfl rfl (fun nb9 => ?_)
          refine pl_back (by repeat (first | with_reducible exact Owes.nil | with_reducible refine Owes.same ?_ | with_reducible refine Owes.any ?_ | refine Owes.waived 9 (by kernel_rfl) ?_ | refine Owes.waived 3 (by kernel_rfl) ?_ | refine Owes.waived 0 (by kernel_rfl) ?_)) ?_ hd; clear hd; intro hd
          refine pl_sole (i := 10) (by kernel_rfl) rfl ?_ hd; clear hd; intro hd
          refine o_append (k := 1) (ys := [.int .i64 page, str s]) rfl rfl (Src.slice rfl) (by repeat (first | with_reducible exact Rem.here | apply Rem.there)) (by simp [str, Value.oneCell']) (by omega) rfl (by omega) rfl (fun a2 c2 => ?_)
          rw [e1]
          refine pl_back (by repeat (first | with_reducible exact Owes.nil | with_reducible refine Owes.same ?_ | with_reducible refine Owes.any ?_ | refine Owes.waived 10 (by kernel_rfl) ?_ | refine Owes.waived 9 (by kernel_rfl) ?_ | refine Owes.waived 3 (by kernel_rfl) ?_ | refine Owes.waived 0 (by kernel_rfl) ?_)) ?_ hd; clear hd; intro hd
          refine pl_take (i := 11) rfl (by kernel_rfl) (y_fieldAddr0 rfl) ?_ hd; clear hd; intro hd
          refine pl_sole (i := 12) (by kernel_rfl) rfl ?_ hd; clear hd; intro hd
          refine o_unlock (A := Blk _ _) ?_
          refine o_unlock (A := Blk _ _) ?_
          refine o_store rfl rfl rfl frz0 ?_
          refine pl_back (by repeat (first | with_reducible exact Owes.nil | with_reducible refine Owes.same ?_ | with_reducible refine Owes.any ?_ | refine Owes.waived 12 (by kernel_rfl) ?_ | refine Owes.waived 10 (by kernel_rfl) ?_ | refine Owes.waived 9 (by kernel_rfl) ?_ | refine Owes.waived 3 (by kernel_rfl) ?_ | refine Owes.waived 0 (by kernel_rfl) ?_)) ?_ hd; clear hd; intro hd
          refine pl_done (by kernel_rfl) ?_ hd
          exact f_cut (a2, c2) (by repeat (first | with_reducible exact Ent.nil | (apply Ent.one; focus (repeat (first | with_reducible exact Rem.here | apply Rem.there))))) (by repeat (first | exact trivial | refine ⟨rfl, ?_⟩))
        · clear hd; intro hd
          refine o_buildSlice rfl rfl rfl rfl rfl (fun nb9 => ?_)
          refine pl_back (by repeat (first | with_reducible exact Owes.nil | with_reducible refine Owes.same ?_ | with_reducible refine Owes.any ?_ | refine Owes.waived 9 (by kernel_rfl) ?_ | refine Owes.waived 0 (by kernel_rfl) ?_)) ?_ hd; clear hd; intro hd
          refine pl_sole (i := 3) (by kernel_rfl) rfl ?_ hd; clear hd; intro hd
          refine o_append (k := loose.length) (ys := loose.flatMap wrC) rfl rfl (RowA.src (by repeat (first | with_reducible exact Rem.here | apply Rem.there))) (by repeat (first | with_reducible exact Rem.here | apply Rem.there)) (wr_one loose) (by omega) rfl (by omega) rfl (fun a1 c1 => ?_)
          simp only [Nat.zero_add, List.nil_append]
          refine pl_back (by repeat (first | with_reducible exact Owes.nil | with_reducible refine Owes.same ?_ | with_reducible refine Owes.any ?_ | refine Owes.waived 3 (by kernel_rfl) ?_ | refine Owes.waived 9 (by kernel_rfl) ?_ | refine Owes.waived 0 (by kernel_rfl) ?_)) ?_ hd; clear hd; intro hd
          refine pl_sole (i := 10) (by kernel_rfl) rfl ?_ hd; clear hd; intro hd
          refine o_append (k := 1) (ys := [.int .i64 page, str s]) rfl rfl (Src.slice rfl) (by repeat (first | with_reducible exact Rem.here | apply Rem.there)) (by simp [str, Value.oneCell']) (by omega) rfl (by omega) rfl (fun a2 c2 => ?_)
          rw [e1]
          refine pl_back (by repeat (first | with_reducible exact Owes.nil | with_reducible refine Owes.same ?_ | with_reducible refine Owes.any ?_ | refine Owes.waived 10 (by kernel_rfl) ?_ | refine Owes.waived 3 (by kernel_rfl) ?_ | refine Owes.waived 9 (by kernel_rfl) ?_ | refine Owes.waived 0 (by kernel_rfl) ?_)) ?_ hd; clear hd; intro hd
          refine pl_take (i := 11) rfl (by kernel_rfl) (y_fieldAddr0 rfl) ?_ hd; clear hd; intro hd
          refine pl_sole (i := 12) (by kernel_rfl) rfl ?_ hd; clear hd; intro hd
          refine o_unlock (A := Blk _ _) ?_
          refine o_unlock (A := Blk _ _) ?_
          refine o_store rfl rfl rfl frz0 ?_
          refine pl_back (by repeat (first | with_reducible exact Owes.nil | with_reducible refine Owes.same ?_ | with_reducible refine Owes.any ?_ | refine Owes.waived 12 (by kernel_rfl) ?_ | refine Owes.waived 10 (by kernel_rfl) ?_ | refine Owes.waived 3 (by kernel_rfl) ?_ | refine Owes.waived 9 (by kernel_rfl) ?_ | refine Owes.waived 0 (by kernel_rfl) ?_)) ?_ hd; clear hd; intro hd
          refine pl_done (by kernel_rfl) ?_ hd
          exact f_cut (a2, c2) (by repeat (first | with_reducible exact Ent.nil | (apply Ent.one; focus (repeat (first | with_reducible exact Rem.here | apply Rem.there))))) (by repeat (first | exact trivial | refine ⟨rfl, ?_⟩))
      · clear hd; intro hd
        refine o_buildSlice rfl rfl rfl rfl rfl (fun nb9 => ?_)
        refine pl_back (by repeat (first | with_reducible exact Owes.nil | with_reducible refine Owes.same ?_ | with_reducible refine Owes.any ?_ | refine Owes.waived 9 (by kernel_rfl) ?_)) ?_ hd; clear hd; intro hd
        refine pl_sole (i := 0) (by kernel_rfl) rfl ?_ hd; clear hd; intro hd
        refine o_buildSlice rfl rfl rfl rfl rfl (fun nb0 => ?_)
        refine o_ent (Ent.shut (A := Sl 72 2 (some ⟨nb0, 0, none⟩) 0 0 []) (P := [Blk nb0 (.cells ⟨[]⟩ 72 (0, 0))]) (by repeat (first | with_reducible exact Takes.nil | (apply Takes.cons; focus (repeat (first | with_reducible exact Rem.here | apply Rem.there))))) (Sl.shut_zero nb0)) ?_
        refine pl_back (by repeat (first | with_reducible exact Owes.nil | with_reducible refine Owes.same ?_ | with_reducible refine Owes.any ?_ | refine Owes.waived 0 (by kernel_rfl) ?_ | refine Owes.waived 9 (by kernel_rfl) ?_)) ?_ hd; clear hd; intro hd
        refine pl_sole (i := 3) (by kernel_rfl) rfl ?_ hd; clear hd; intro hd
        refine o_append (k := loose.length) (ys := loose.flatMap wrC) rfl rfl (RowA.src (by repeat (first | with_reducible exact Rem.here | apply Rem.there))) (by repeat (first | with_reducible exact Rem.here | apply Rem.there)) (wr_one loose) (by omega) rfl (by omega) rfl (fun a1 c1 => ?_)
        simp only [Nat.zero_add, List.nil_append]
        refine pl_back (by repeat (first | with_reducible exact Owes.nil | with_reducible refine Owes.same ?_ | with_reducible refine Owes.any ?_ | refine Owes.waived 3 (by kernel_rfl) ?_ | refine Owes.waived 0 (by kernel_rfl) ?_ | refine Owes.waived 9 (by kernel_rfl) ?_)) ?_ hd; clear hd; intro hd
        refine pl_sole (i := 10) (by kernel_rfl) rfl ?_ hd; clear hd; intro hd
        refine o_append (k := 1) (ys := [.int .i64 page, str s]) rfl rfl (Src.slice rfl) (by repeat (first | with_reducible exact Rem.here | apply Rem.there)) (by simp [str, Value.oneCell']) (by omega) rfl (by omega) rfl (fun a2 c2 => ?_)
        rw [e1]
        refine pl_back (by repeat (first | with_reducible exact Owes.nil | with_reducible refine Owes.same ?_ | with_reducible refine Owes.any ?_ | refine Owes.waived 10 (by kernel_rfl) ?_ | refine Owes.waived 3 (by kernel_rfl) ?_ | refine Owes.waived 0 (by kernel_rfl) ?_ | refine Owes.waived 9 (by kernel_rfl) ?_)) ?_ hd; clear hd; intro hd
        refine pl_take (i := 11) rfl (by kernel_rfl) (y_fieldAddr0 rfl) ?_ hd; clear hd; intro hd
        refine pl_sole (i := 12) (by kernel_rfl) rfl ?_ hd; clear hd; intro hd
        refine o_unlock (A := Blk _ _) ?_
        refine o_unlock (A := Blk _ _) ?_
        refine o_store rfl rfl rfl frz0 ?_
        refine pl_back (by repeat (first | with_reducible exact Owes.nil | with_reducible refine Owes.same ?_ | with_reducible refine Owes.any ?_ | refine Owes.waived 12 (by kernel_rfl) ?_ | refine Owes.waived 10 (by kernel_rfl) ?_ | refine Owes.waived 3 (by kernel_rfl) ?_ | refine Owes.waived 0 (by kernel_rfl) ?_ | refine Owes.waived 9 (by kernel_rfl) ?_)) ?_ hd; clear hd; intro hd
        refine pl_done (by kernel_rfl) ?_ hd
        exact f_cut (a2, c2) (by repeat (first | with_reducible exact Ent.nil | (apply Ent.one; focus (repeat (first | with_reducible exact Rem.here | apply Rem.there))))) (by repeat (first | exact trivial | refine ⟨rfl, ?_⟩))
    rintro ⟨a2, c2⟩
    dsimp only
    refine f_block ?_
    refine f_seq ?_
    refine c_seq ?_
    refine c_region ?_
    refine o_y (y_loadN rfl rfl rfl) rfl ?_
    refine o_store rfl rfl rfl frz0 ?_
    refine o_y (y_assign rfl) rfl ?_
    refine o_nil ?_
    refine f_seq ?_
    refine c_ret ?_
    refine f_shareSl wrC (loose ++ [(page, s)]) (by repeat (first | with_reducible exact Rem.here | apply Rem.there)) (by simp) rfl ?_
    refine f_retc rfl rfl rfl rfl rfl (by repeat (first | with_reducible exact Ent.nil | (apply Ent.one; focus (repeat (first | with_reducible exact Rem.here | apply Rem.there))))) ⟨⟨la, lc, a2, c2⟩, ?_, rfl⟩
    simp [RM.val, RM.cells, tup]
end Go.Lun

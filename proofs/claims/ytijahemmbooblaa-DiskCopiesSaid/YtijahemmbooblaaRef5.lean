/- The document's disk: Sync. -/
import Derived.Test.YtijahemmbooblaaRef2
namespace Go.Lun
open Go.Proofs

theorem layM_len (l : List Bytes) (ws : List (Int × Bytes)) : (layM l ws).length = l.length := by
  unfold layM
  induction ws generalizing l with
  | nil => rfl
  | cons w ws ih => rw [List.foldl_cons, ih]; simp [setM]

set_option maxHeartbeats 3200000 in
theorem rdo2_f (M : RM) (A : MA) (x : ActM) (h : RIn M x) (hk : x.kind = 2) : RDo M A x := by
  unfold RDo
  refine fn_start Try.func23 rfl rfl rfl fun F => ?_
  obtain ⟨hx, hok, hW, hn, hm, hf, hf'⟩ := h
  obtain ⟨most, last, loose, burns, fuse⟩ := M
  obtain ⟨la, lc, wa, wc⟩ := A
  obtain ⟨kind, n, page, at_, s, ka, kc, ks⟩ := x
  simp only [ActM.few, Bool.and_eq_true, decide_eq_true_eq] at hx
  obtain ⟨⟨hxs, hxk⟩, hxn⟩ := hx
  dsimp only at hxs hxk hxn hn hm hf hf' hk
  dsimp only [ActM.val, ActM.cells, RM.val, RM.cells, RowL, RowW]
  refine c_seq ?_
  refine c_region ?_
  refine o_box rfl rfl (fun mb => ?_)
  refine o_box rfl rfl (fun xb => ?_)
  refine o_alloc rfl (fun rb => ?_)
  refine o_y (y_assign rfl) rfl ?_
  refine o_nil ?_
  refine f_seq ?_
  refine c_seq ?_
  refine c_cut (X := Unit) (fun _ => [Blk rb (.cells ⟨[.int .i64 0, .slice none 0 0, .slice none 0 0, .bool false, .int .i64 0]⟩ 46 (0, 0)),
      Blk xb (.cells ⟨[.int .i64 kind, .int .i64 n, .int .i64 page, .int .i64 at_, str s, .slice ka ks.length kc]⟩ 49 (0, 0)),
      Blk mb (.cells ⟨[.int .i64 most, .slice la last.length lc, .slice wa loose.length wc, .bool burns, .int .i64 fuse]⟩ 46 (0, 0)),
      RowA false strC 1 la last, RowA false wrC 2 wa loose, RowA false TK.cells 2 ka ks])
    (fun _ => [(2, .pointer (some ⟨mb, 0, none⟩)), (3, .pointer (some ⟨xb, 0, none⟩)), (4, .pointer (some ⟨rb, 0, none⟩)), (5, .int .i64 0), (6, .bool (decide (0 ≤ page ∧ page < last.length)))]) ?_ ?_
  · by_cases p0 : 0 ≤ page
    · by_cases p1 : page < last.length
      · rw [decide_eq_true (show 0 ≤ page ∧ page < last.length from ⟨p0, p1⟩)]
        refine c_region ?_
        refine o_y (y_fieldAddr0 rfl) rfl ?_
        refine o_y (y_load rfl rfl rfl) rfl ?_
        refine o_y (y_geq_t rfl rfl (by omega)) rfl ?_
        refine o_y (y_move rfl) rfl ?_
        refine o_want rfl ?_
        refine o_y (y_fieldAddr0 rfl) rfl ?_
        refine o_want rfl ?_
        refine o_y (y_load rfl rfl rfl) rfl ?_
        refine o_want rfl ?_
        refine o_y (y_fieldAddr0 rfl) rfl ?_
        refine o_want rfl ?_
        refine o_y (y_load rfl rfl rfl) rfl ?_
        refine o_want rfl ?_
        refine o_y (y_len_slice rfl) rfl ?_
        refine o_want rfl ?_
        refine o_y (y_lss_t rfl rfl (by omega)) rfl ?_
        refine o_y (y_pick_t rfl rfl) rfl ?_
        refine o_y (y_assign rfl) rfl ?_
        refine o_nil ?_
        exact f_cut () (by repeat (first | with_reducible exact Ent.nil | (apply Ent.one; focus (repeat (first | with_reducible exact Rem.here | apply Rem.there))))) (by repeat (first | exact trivial | refine ⟨rfl, ?_⟩))
      · rw [decide_eq_false (show ¬ (0 ≤ page ∧ page < last.length) from fun h => p1 h.2)]
        refine c_region ?_
        refine o_y (y_fieldAddr0 rfl) rfl ?_
        refine o_y (y_load rfl rfl rfl) rfl ?_
        refine o_y (y_geq_t rfl rfl (by omega)) rfl ?_
        refine o_y (y_move rfl) rfl ?_
        refine o_want rfl ?_
        refine o_y (y_fieldAddr0 rfl) rfl ?_
        refine o_want rfl ?_
        refine o_y (y_load rfl rfl rfl) rfl ?_
        refine o_want rfl ?_
        refine o_y (y_fieldAddr0 rfl) rfl ?_
        refine o_want rfl ?_
        refine o_y (y_load rfl rfl rfl) rfl ?_
        refine o_want rfl ?_
        refine o_y (y_len_slice rfl) rfl ?_
        refine o_want rfl ?_
        refine o_y (y_lss_f rfl rfl (by omega)) rfl ?_
        refine o_y (y_pick_t rfl rfl) rfl ?_
        refine o_y (y_assign rfl) rfl ?_
        refine o_nil ?_
        exact f_cut () (by repeat (first | with_reducible exact Ent.nil | (apply Ent.one; focus (repeat (first | with_reducible exact Rem.here | apply Rem.there))))) (by repeat (first | exact trivial | refine ⟨rfl, ?_⟩))
    · rw [decide_eq_false (show ¬ (0 ≤ page ∧ page < last.length) from fun h => p0 h.1)]
      refine c_region ?_
      refine o_y (y_fieldAddr0 rfl) rfl ?_
      refine o_y (y_load rfl rfl rfl) rfl ?_
      refine o_y (y_geq_f rfl rfl (by omega)) rfl ?_
      refine o_y (y_move rfl) rfl ?_
      refine o_skip rfl rfl ?_
      refine o_skip rfl rfl ?_
      refine o_skip rfl rfl ?_
      refine o_skip rfl rfl ?_
      refine o_skip rfl rfl ?_
      refine o_skip rfl rfl ?_
      refine o_y (y_pick_f rfl rfl) rfl ?_
      refine o_y (y_assign rfl) rfl ?_
      refine o_nil ?_
      exact f_cut () (by repeat (first | with_reducible exact Ent.nil | (apply Ent.one; focus (repeat (first | with_reducible exact Rem.here | apply Rem.there))))) (by repeat (first | exact trivial | refine ⟨rfl, ?_⟩))
  intro _
  refine c_seq ?_
  refine c_cut (X := Unit) (fun _ => [Blk rb (.cells ⟨[.int .i64 0, .slice none 0 0, .slice none 0 0, .bool false, .int .i64 0]⟩ 46 (0, 0)),
      Blk xb (.cells ⟨[.int .i64 kind, .int .i64 n, .int .i64 page, .int .i64 at_, str s, .slice ka ks.length kc]⟩ 49 (0, 0)),
      Blk mb (.cells ⟨[.int .i64 most, .slice la last.length lc, .slice wa loose.length wc, .bool burns, .int .i64 fuse]⟩ 46 (0, 0)),
      RowA false strC 1 la last, RowA false wrC 2 wa loose, RowA false TK.cells 2 ka ks])
    (fun _ => [(2, .pointer (some ⟨mb, 0, none⟩)), (3, .pointer (some ⟨xb, 0, none⟩)), (4, .pointer (some ⟨rb, 0, none⟩)), (5, .int .i64 0), (6, .bool (decide (0 ≤ page ∧ page < last.length))), (7, .bool (burns && decide (fuse = 0)))]) ?_ ?_
  · cases burns with
    | false =>
      refine c_region ?_
      refine o_y (y_fieldAddr0 rfl) rfl ?_
      refine o_y (y_load rfl rfl rfl) rfl ?_
      refine o_y (y_move rfl) rfl ?_
      refine o_skip rfl rfl ?_
      refine o_skip rfl rfl ?_
      refine o_skip rfl rfl ?_
      refine o_y (y_pick_f rfl rfl) rfl ?_
      refine o_y (y_assign rfl) rfl ?_
      refine o_nil ?_
      exact f_cut () (by repeat (first | with_reducible exact Ent.nil | (apply Ent.one; focus (repeat (first | with_reducible exact Rem.here | apply Rem.there))))) (by repeat (first | exact trivial | refine ⟨rfl, ?_⟩))
    | true =>
      by_cases f0 : fuse = 0
      · rw [decide_eq_true f0]
        refine c_region ?_
        refine o_y (y_fieldAddr0 rfl) rfl ?_
        refine o_y (y_load rfl rfl rfl) rfl ?_
        refine o_y (y_move rfl) rfl ?_
        refine o_want rfl ?_
        refine o_y (y_fieldAddr0 rfl) rfl ?_
        refine o_want rfl ?_
        refine o_y (y_load rfl rfl rfl) rfl ?_
        refine o_want rfl ?_
        refine o_y (y_eql_t rfl rfl (by omega)) rfl ?_
        refine o_y (y_pick_t rfl rfl) rfl ?_
        refine o_y (y_assign rfl) rfl ?_
        refine o_nil ?_
        exact f_cut () (by repeat (first | with_reducible exact Ent.nil | (apply Ent.one; focus (repeat (first | with_reducible exact Rem.here | apply Rem.there))))) (by repeat (first | exact trivial | refine ⟨rfl, ?_⟩))
      · rw [decide_eq_false f0]
        refine c_region ?_
        refine o_y (y_fieldAddr0 rfl) rfl ?_
        refine o_y (y_load rfl rfl rfl) rfl ?_
        refine o_y (y_move rfl) rfl ?_
        refine o_want rfl ?_
        refine o_y (y_fieldAddr0 rfl) rfl ?_
        refine o_want rfl ?_
        refine o_y (y_load rfl rfl rfl) rfl ?_
        refine o_want rfl ?_
        refine o_y (y_eql_f rfl rfl (by omega)) rfl ?_
        refine o_y (y_pick_t rfl rfl) rfl ?_
        refine o_y (y_assign rfl) rfl ?_
        refine o_nil ?_
        exact f_cut () (by repeat (first | with_reducible exact Ent.nil | (apply Ent.one; focus (repeat (first | with_reducible exact Rem.here | apply Rem.there))))) (by repeat (first | exact trivial | refine ⟨rfl, ?_⟩))
  intro _

  cases hd : (burns && decide (fuse = 0)) with
  | true =>
    rw [show RM.act ⟨most, last, loose, burns, fuse⟩ ⟨kind, n, page, at_, s, ka, kc, ks⟩ = (⟨most, last, loose, burns, fuse⟩, 0) by simp [RM.act, RM.dead, hk, hd]]
    refine c_seq ?_
    refine c_seq ?_
    refine c_region ?_
    refine o_y (y_fieldAddr0 rfl) rfl ?_
    refine o_y (y_load rfl rfl rfl) rfl ?_
    refine o_nil ?_
    refine f_seq ?_
    refine c_block ?_
    refine c_seq ?_
    refine c_region ?_
    refine o_y (y_eql_f rfl rfl (by omega)) rfl ?_
    refine o_y (y_assign rfl) rfl ?_
    refine o_nil ?_
    refine f_seq ?_
    refine c_false rfl ?_
    refine c_seq ?_
    refine c_region ?_
    refine o_y (y_eql_f rfl rfl (by omega)) rfl ?_
    refine o_y (y_assign rfl) rfl ?_
    refine o_nil ?_
    refine f_seq ?_
    refine c_false rfl ?_
    refine c_seq ?_
    refine c_region ?_
    refine o_y (y_eql_t rfl rfl (by omega)) rfl ?_
    refine o_y (y_assign rfl) rfl ?_
    refine o_nil ?_
    refine f_seq ?_
    refine c_true rfl ?_
    refine c_seq ?_
    refine c_seq ?_
    refine c_region ?_
    refine o_y (y_move rfl) rfl ?_
    refine o_nil ?_
    refine f_seq ?_
    refine c_true rfl ?_
    refine c_seq ?_
    refine c_region ?_
    refine o_y (y_loadN rfl rfl rfl) rfl ?_
    refine o_store rfl rfl rfl frz0 ?_
    refine o_y (y_assign rfl) rfl ?_
    refine o_nil ?_
    refine f_seq ?_
    refine c_ret ?_
    refine f_seq_ret ?_
    refine f_block_ret ?_
    refine f_seq_ret ?_
    exact f_retc rfl rfl rfl rfl rfl (by repeat (first | with_reducible exact Ent.nil | (apply Ent.one; focus (repeat (first | with_reducible exact Rem.here | apply Rem.there))))) ⟨⟨la, lc, wa, wc⟩, rfl, rfl⟩
  | false =>
    rw [show RM.act ⟨most, last, loose, burns, fuse⟩ ⟨kind, n, page, at_, s, ka, kc, ks⟩ = (⟨most, layM last loose, [], burns, fuse - 1⟩, 0) by simp [RM.act, RM.dead, hk, hd]]
    refine c_seq ?_
    refine c_seq ?_
    refine c_region ?_
    refine o_y (y_fieldAddr0 rfl) rfl ?_
    refine o_y (y_load rfl rfl rfl) rfl ?_
    refine o_nil ?_
    refine f_seq ?_
    refine c_block ?_
    refine c_seq ?_
    refine c_region ?_
    refine o_y (y_eql_f rfl rfl (by omega)) rfl ?_
    refine o_y (y_assign rfl) rfl ?_
    refine o_nil ?_
    refine f_seq ?_
    refine c_false rfl ?_
    refine c_seq ?_
    refine c_region ?_
    refine o_y (y_eql_f rfl rfl (by omega)) rfl ?_
    refine o_y (y_assign rfl) rfl ?_
    refine o_nil ?_
    refine f_seq ?_
    refine c_false rfl ?_
    refine c_seq ?_
    refine c_region ?_
    refine o_y (y_eql_t rfl rfl (by omega)) rfl ?_
    refine o_y (y_assign rfl) rfl ?_
    refine o_nil ?_
    refine f_seq ?_
    refine c_true rfl ?_
    refine c_seq ?_
    refine c_seq ?_
    refine c_region ?_
    refine o_y (y_move rfl) rfl ?_
    refine o_nil ?_
    refine f_seq ?_
    refine c_false rfl ?_
    refine c_skip ?_
    refine f_seq ?_
    refine c_seq ?_
    refine c_region ?_
    refine o_y (y_fieldAddr0 rfl) rfl ?_
    refine o_y (y_load rfl rfl rfl) rfl ?_
    refine o_y (y_arith64 rfl rfl rfl (by omega)) rfl ?_
    refine o_y (y_fieldAddr0 rfl) rfl ?_
    refine o_store rfl rfl rfl frz0 ?_
    refine o_nil ?_
    refine f_seq ?_
    refine c_seq ?_
    refine c_seq ?_
    refine c_region ?_
    refine o_y (y_assign rfl) rfl ?_
    refine o_nil ?_
    refine f_seq ?_
    refine c_block ?_
    rw [show RowA false strC 1 la last = RowA false strC 1 la (layM last (loose.take 0)) from rfl]
    refine c_loop_inv (X := Nat × Option Addr × Nat) (fun y => y.1 ≤ loose.length) (fun y => loose.length - y.1)
      (fun y => [Blk rb (.cells ⟨[.int .i64 0, .slice none 0 0, .slice none 0 0, .bool false, .int .i64 0]⟩ 46 (0, 0)), Blk xb (.cells ⟨[.int .i64 kind, .int .i64 n, .int .i64 page, .int .i64 at_, str s, .slice ka ks.length kc]⟩ 49 (0, 0)), Blk mb (.cells ⟨[.int .i64 most, .slice y.2.1 last.length y.2.2, .slice wa loose.length wc, .bool burns, .int .i64 (fuse - 1)]⟩ 46 (0, 0)), RowA false strC 1 y.2.1 (layM last (loose.take y.1)), RowA false wrC 2 wa loose, RowA false TK.cells 2 ka ks])
      (fun y => [(2, .pointer (some ⟨mb, 0, none⟩)), (3, .pointer (some ⟨xb, 0, none⟩)), (4, .pointer (some ⟨rb, 0, none⟩)), (5, .int .i64 0), (8, .int .i64 (y.1 : Int))]) (0, la, lc) (Nat.zero_le _) (by repeat (first | with_reducible exact Ent.nil | (apply Ent.one; focus (repeat (first | with_reducible exact Rem.here | apply Rem.there))))) (by repeat (first | exact trivial | refine ⟨rfl, ?_⟩)) ?_
    rintro ⟨i, a1, c1⟩ hi ih
    dsimp only at hi ih ⊢
    by_cases hlt : i < loose.length
    case neg =>
      clear ih
      have : i = loose.length := by omega
      subst this
      rw [List.take_length]
      refine c_seq ?_
      refine c_seq ?_
      refine c_region ?_
      refine o_y (y_move rfl) rfl ?_
      refine o_y (y_fieldAddr0 rfl) rfl ?_
      refine o_y (y_load rfl rfl rfl) rfl ?_
      refine o_y (y_len_slice rfl) rfl ?_
      refine o_y (y_lss_f rfl rfl (by omega)) rfl ?_
      refine o_nil ?_
      refine f_seq ?_
      refine c_false rfl ?_
      refine c_exit ?_
      refine f_seq_exit ?_
      refine f_seq_exit ?_
      refine f_block_here ?_
      refine f_seq ?_
      refine c_region ?_
      refine o_y (y_fieldAddr0 rfl) rfl ?_
      refine o_store rfl rfl rfl frz0 ?_
      refine o_nil ?_
      refine f_block ?_
      refine f_seq ?_
      refine c_seq ?_
      refine c_region ?_
      refine o_y (y_loadN rfl rfl rfl) rfl ?_
      refine o_store rfl rfl rfl frz0 ?_
      refine o_y (y_assign rfl) rfl ?_
      refine o_nil ?_
      refine f_seq ?_
      refine c_ret ?_
      refine f_retc rfl rfl rfl rfl rfl (Ent.one (by repeat (first | with_reducible exact Rem.here | apply Rem.there)) (Ent.put (P := []) (by repeat (first | with_reducible exact Takes.nil | (apply Takes.cons; focus (repeat (first | with_reducible exact Rem.here | apply Rem.there))))) RowA.empty (by repeat (first | with_reducible exact Ent.nil | (apply Ent.one; focus (repeat (first | with_reducible exact Rem.here | apply Rem.there))))))) ⟨⟨a1, c1, none, 0⟩, ?_, rfl⟩
      simp [RM.val, RM.cells, tup, layM_len]
    case pos =>
      have hww : loose[i]? = some loose[i] := List.getElem?_eq_getElem hlt
      have hwi := hW.loose _ (List.getElem_mem hlt)
      generalize loose[i] = w at hww hwi
      have hnw : loose ≠ [] := by intro h; rw [h] at hlt; exact absurd hlt (by simp)
      have hsn : layM last (loose.take (i + 1)) = setM (layM last (loose.take i)) w.1 w.2 := by
        unfold layM
        rw [take_snoc' hww, List.foldl_append]; rfl
      have hw0 : 0 ≤ w.1 ∧ w.1 < (last.length : Int) := hwi.1
      refine c_open (h := RowA.opens (f := wrC) hnw) (by repeat (first | with_reducible exact Rem.here | apply Rem.there)) (fun y hy2 => ?_)
      obtain ⟨kb, ko, cs, T, fz⟩ := y
      obtain ⟨e3, e4⟩ := hy2
      dsimp only at e3 e4
      subst e3
      obtain ⟨g0, g1, g2⟩ := roww_get e4 hww
      simp only [List.append_eq, List.cons_append, List.nil_append, List.append_nil, tup]
      refine c_seq ?_
      refine c_seq ?_
      refine c_region ?_
      refine o_y (y_move rfl) rfl ?_
      refine o_y (y_fieldAddr0 rfl) rfl ?_
      refine o_y (y_load rfl rfl rfl) rfl ?_
      refine o_y (y_len_slice rfl) rfl ?_
      refine o_y (y_lss_t rfl rfl (by omega)) rfl ?_
      refine o_nil ?_
      refine f_seq ?_
      refine c_true rfl ?_
      refine c_skip ?_
      refine f_seq ?_
      refine c_seq ?_
      refine c_block ?_
      refine pl_start [14, 16] Try.mixed ?_; intro hd
      refine pl_lock (A := Bkp _ _ _) Rem.here rfl ?_ hd; intro hb0
      refine pl_lock (A := Bkp _ _ _) (Rem.there (Rem.there Rem.here)) rfl ?_ hd; intro hb1
      refine pl_take (i := 0) rfl (by kernel_rfl) (y_fieldAddr0 rfl) ?_ hd; clear hd; intro hd
      refine pl_take (i := 1) rfl (by kernel_rfl) (y_load rfl rfl rfl) ?_ hd; clear hd; intro hd
      refine pl_take (i := 2) rfl (by kernel_rfl) (y_fieldAddr0 rfl) ?_ hd; clear hd; intro hd
      refine pl_take (i := 3) rfl (by kernel_rfl) (y_load rfl rfl rfl) ?_ hd; clear hd; intro hd
      refine pl_take (i := 4) rfl (by kernel_rfl) (y_move rfl) ?_ hd; clear hd; intro hd
      refine pl_take (i := 5) rfl (by kernel_rfl) (y_indexAddr i rfl rfl rfl hlt) ?_ hd; clear hd; intro hd
      refine pl_take (i := 6) rfl (by kernel_rfl) (y_fieldAddr rfl) ?_ hd; clear hd; intro hd
      refine pl_take (i := 7) rfl (by kernel_rfl) (y_load rfl rfl g1) ?_ hd; clear hd; intro hd
      refine pl_take (i := 8) rfl (by kernel_rfl) (y_fieldAddr0 rfl) ?_ hd; clear hd; intro hd
      refine pl_take (i := 9) rfl (by kernel_rfl) (y_load rfl rfl rfl) ?_ hd; clear hd; intro hd
      refine pl_take (i := 10) rfl (by kernel_rfl) (y_move rfl) ?_ hd; clear hd; intro hd
      refine pl_take (i := 11) rfl (by kernel_rfl) (y_indexAddr i rfl rfl rfl hlt) ?_ hd; clear hd; intro hd
      refine pl_take (i := 12) rfl (by kernel_rfl) (y_fieldAddr rfl) ?_ hd; clear hd; intro hd
      refine pl_take (i := 13) rfl (by kernel_rfl) (y_load rfl rfl g2) ?_ hd; clear hd; intro hd
      refine pl_sole (i := 14) (by kernel_rfl) rfl ?_ hd; clear hd; intro hd
      refine o_call rfl (with_f a1 c1 (layM last (loose.take i)) w.1 w.2 last.length (layM_len _ _).symm (by rw [layM_len]; exact hw0) (by rw [layM_len]; exact hm)) (by repeat (first | with_reducible exact Takes.nil | (apply Takes.cons; focus (repeat (first | with_reducible exact Rem.here | apply Rem.there))))) rfl ?_
      rintro _ _ ⟨a2, c2, rfl, rfl⟩
      simp only [List.append_eq, List.cons_append, List.nil_append, List.append_nil, tup]
      refine pl_back (by repeat (first | with_reducible exact Owes.nil | with_reducible refine Owes.same ?_ | with_reducible refine Owes.any ?_ | refine Owes.waived 14 (by kernel_rfl) ?_)) ?_ hd; clear hd; intro hd
      refine pl_take (i := 15) rfl (by kernel_rfl) (y_fieldAddr0 rfl) ?_ hd; clear hd; intro hd
      refine pl_sole (i := 16) (by kernel_rfl) rfl ?_ hd; clear hd; intro hd
      refine o_unlock (A := Bkp _ _ _) ?_
      refine o_unlock (A := Bkp _ _ _) ?_
      refine o_store rfl rfl rfl frz0 ?_
      refine pl_back (by repeat (first | with_reducible exact Owes.nil | with_reducible refine Owes.same ?_ | with_reducible refine Owes.any ?_ | refine Owes.waived 16 (by kernel_rfl) ?_ | refine Owes.waived 14 (by kernel_rfl) ?_)) ?_ hd; clear hd; intro hd
      refine pl_done (by kernel_rfl) ?_ hd
      refine f_block ?_
      refine f_seq ?_
      refine c_region ?_
      refine o_y (y_move rfl) rfl ?_
      refine o_y (y_arith64 rfl rfl rfl (by omega)) rfl ?_
      refine o_y (y_assign rfl) rfl ?_
      refine o_nil ?_
      rw [← hsn]
      exact f_next (Ent.one (by repeat (first | with_reducible exact Rem.here | apply Rem.there)) (Ent.one (by repeat (first | with_reducible exact Rem.here | apply Rem.there)) (Ent.one (by repeat (first | with_reducible exact Rem.here | apply Rem.there)) (Ent.one (by repeat (first | with_reducible exact Rem.here | apply Rem.there)) (Ent.put (P := [Bkp false kb (.cells ⟨cs⟩ T fz)]) (by repeat (first | with_reducible exact Takes.nil | (apply Takes.cons; focus (repeat (first | with_reducible exact Rem.here | apply Rem.there))))) (RowA.shut rfl e4) (by repeat (first | with_reducible exact Ent.nil | (apply Ent.one; focus (repeat (first | with_reducible exact Rem.here | apply Rem.there)))))))))) (by repeat (first | exact trivial | refine ⟨rfl, ?_⟩)) (ih (i + 1, a2, c2) hlt (by dsimp only; omega))
end Go.Lun

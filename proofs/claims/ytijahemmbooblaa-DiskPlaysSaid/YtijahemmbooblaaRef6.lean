/- The document's disk: Crash. -/
import Derived.Test.YtijahemmbooblaaRef2
namespace Go.Lun
open Go.Proofs

structure RK (M T : RM) : Prop where
  most : T.most = M.most
  loose : T.loose = M.loose
  burns : T.burns = M.burns
  fuse : T.fuse = M.fuse
  len : T.last.length = M.last.length
  whole : ∀ s ∈ T.last, s.length = 256

theorem torn_len {s y : Bytes} (hs : s.length = 256) (hy : y.length = 256) (sec : Nat) : (tornM s y sec).length = 256 := by
  rw [torn_tear hs hy, tear_len]; exact hs
theorem getM_len {l : List Bytes} (h : ∀ s ∈ l, s.length = 256) {p : Int} (hp : 0 ≤ p ∧ p < l.length) : (getM l p).length = 256 := by
  unfold getM
  rw [List.getD_eq_getElem?_getD, List.getElem?_eq_getElem (by omega)]
  exact h _ (List.getElem_mem _)
theorem RK.keep {M T : RM} (h : RK M T) (hW : WM M) (k : TK) : RK M (T.keep k) := by
  unfold RM.keep
  split
  · rename_i hk
    refine ⟨h.most, h.loose, h.burns, h.fuse, ?_, ?_⟩
    · simp only [setM, List.length_set]; exact h.len
    · intro s hs
      have hlt : k.wr.toNat < T.loose.length := by omega
      have e : T.loose.getD k.wr.toNat (0, []) = T.loose[k.wr.toNat] := by rw [List.getD_eq_getElem?_getD, List.getElem?_eq_getElem hlt]; rfl
      have hm : ∀ x ∈ T.loose, x ∈ M.loose := fun x hx => by rw [← h.loose]; exact hx
      have hw := hW.loose _ (hm _ (List.getElem_mem hlt))
      rw [e] at hs
      rcases List.mem_or_eq_of_mem_set hs with hs | rfl
      · exact h.whole s hs
      · exact torn_len (getM_len h.whole ⟨hw.1.1, by rw [h.len]; exact hw.1.2⟩) hw.2 _
  · exact h
theorem RK.keeps {M : RM} (hW : WM M) : ∀ (ks : List TK) {T : RM}, RK M T → RK M (ks.foldl RM.keep T)
  | [], _, h => h
  | k :: ks, T, h => by rw [List.foldl_cons]; exact RK.keeps hW ks (h.keep hW k)

set_option maxHeartbeats 3200000 in
theorem rdo3_f (M : RM) (A : MA) (x : ActM) (h : RIn M x) (hk : x.kind = 3) : RDo M A x := by
  unfold RDo
  refine fn_start Try.func23 rfl rfl rfl fun F => ?_
  obtain ⟨hx, hok, hW, hn, hm, hf, hf'⟩ := h
  obtain ⟨most, last, loose, burns, fuse⟩ := M
  obtain ⟨la, lc, wa, wc⟩ := A
  obtain ⟨kind, n, page, at_, s, ka, kc, ks⟩ := x
  simp only [ActM.few, Bool.and_eq_true, decide_eq_true_eq] at hx
  obtain ⟨⟨hxs, hxk⟩, hxn⟩ := hx
  dsimp only at hxs hxk hxn hn hm hf hf' hk
  dsimp only [ActM.val, ActM.cells, RM.val, RM.cells, RowL, RowW]
  refine c_seq ?_
  refine c_region ?_
  refine o_box rfl rfl (fun mb => ?_)
  refine o_box rfl rfl (fun xb => ?_)
  refine o_alloc rfl (fun rb => ?_)
  refine o_y (y_assign rfl) rfl ?_
  refine o_nil ?_
  refine f_seq ?_
  refine c_seq ?_
  refine c_cut (X := Unit) (fun _ => [Blk rb (.cells ⟨[.int .i64 0, .slice none 0 0, .slice none 0 0, .bool false, .int .i64 0]⟩ 46 (0, 0)),
      Blk xb (.cells ⟨[.int .i64 kind, .int .i64 n, .int .i64 page, .int .i64 at_, str s, .slice ka ks.length kc]⟩ 49 (0, 0)),
      Blk mb (.cells ⟨[.int .i64 most, .slice la last.length lc, .slice wa loose.length wc, .bool burns, .int .i64 fuse]⟩ 46 (0, 0)),
      RowA false strC 1 la last, RowA false wrC 2 wa loose, RowA false TK.cells 2 ka ks])
    (fun _ => [(2, .pointer (some ⟨mb, 0, none⟩)), (3, .pointer (some ⟨xb, 0, none⟩)), (4, .pointer (some ⟨rb, 0, none⟩)), (5, .int .i64 0), (6, .bool (decide (0 ≤ page ∧ page < last.length)))]) ?_ ?_
  · by_cases p0 : 0 ≤ page
    · by_cases p1 : page < last.length
      · rw [decide_eq_true (show 0 ≤ page ∧ page < last.length from ⟨p0, p1⟩)]
        refine c_region ?_
        refine o_y (y_fieldAddr0 rfl) rfl ?_
        refine o_y (y_load rfl rfl rfl) rfl ?_
        refine o_y (y_geq_t rfl rfl (by omega)) rfl ?_
        refine o_y (y_move rfl) rfl ?_
        refine o_want rfl ?_
        refine o_y (y_fieldAddr0 rfl) rfl ?_
        refine o_want rfl ?_
        refine o_y (y_load rfl rfl rfl) rfl ?_
        refine o_want rfl ?_
        refine o_y (y_fieldAddr0 rfl) rfl ?_
        refine o_want rfl ?_
        refine o_y (y_load rfl rfl rfl) rfl ?_
        refine o_want rfl ?_
        refine o_y (y_len_slice rfl) rfl ?_
        refine o_want rfl ?_
        refine o_y (y_lss_t rfl rfl (by omega)) rfl ?_
        refine o_y (y_pick_t rfl rfl) rfl ?_
        refine o_y (y_assign rfl) rfl ?_
        refine o_nil ?_
        exact f_cut () (by repeat (first | with_reducible exact Ent.nil | (apply Ent.one; focus (repeat (first | with_reducible exact Rem.here | apply Rem.there))))) (by repeat (first | exact trivial | refine ⟨rfl, ?_⟩))
      · rw [decide_eq_false (show ¬ (0 ≤ page ∧ page < last.length) from fun h => p1 h.2)]
        refine c_region ?_
        refine o_y (y_fieldAddr0 rfl) rfl ?_
        refine o_y (y_load rfl rfl rfl) rfl ?_
        refine o_y (y_geq_t rfl rfl (by omega)) rfl ?_
        refine o_y (y_move rfl) rfl ?_
        refine o_want rfl ?_
        refine o_y (y_fieldAddr0 rfl) rfl ?_
        refine o_want rfl ?_
        refine o_y (y_load rfl rfl rfl) rfl ?_
        refine o_want rfl ?_
        refine o_y (y_fieldAddr0 rfl) rfl ?_
        refine o_want rfl ?_
        refine o_y (y_load rfl rfl rfl) rfl ?_
        refine o_want rfl ?_
        refine o_y (y_len_slice rfl) rfl ?_
        refine o_want rfl ?_
        refine o_y (y_lss_f rfl rfl (by omega)) rfl ?_
        refine o_y (y_pick_t rfl rfl) rfl ?_
        refine o_y (y_assign rfl) rfl ?_
        refine o_nil ?_
        exact f_cut () (by repeat (first | with_reducible exact Ent.nil | (apply Ent.one; focus (repeat (first | with_reducible exact Rem.here | apply Rem.there))))) (by repeat (first | exact trivial | refine ⟨rfl, ?_⟩))
    · rw [decide_eq_false (show ¬ (0 ≤ page ∧ page < last.length) from fun h => p0 h.1)]
      refine c_region ?_
      refine o_y (y_fieldAddr0 rfl) rfl ?_
      refine o_y (y_load rfl rfl rfl) rfl ?_
      refine o_y (y_geq_f rfl rfl (by omega)) rfl ?_
      refine o_y (y_move rfl) rfl ?_
      refine o_skip rfl rfl ?_
      refine o_skip rfl rfl ?_
      refine o_skip rfl rfl ?_
      refine o_skip rfl rfl ?_
      refine o_skip rfl rfl ?_
      refine o_skip rfl rfl ?_
      refine o_y (y_pick_f rfl rfl) rfl ?_
      refine o_y (y_assign rfl) rfl ?_
      refine o_nil ?_
      exact f_cut () (by repeat (first | with_reducible exact Ent.nil | (apply Ent.one; focus (repeat (first | with_reducible exact Rem.here | apply Rem.there))))) (by repeat (first | exact trivial | refine ⟨rfl, ?_⟩))
  intro _
  refine c_seq ?_
  refine c_cut (X := Unit) (fun _ => [Blk rb (.cells ⟨[.int .i64 0, .slice none 0 0, .slice none 0 0, .bool false, .int .i64 0]⟩ 46 (0, 0)),
      Blk xb (.cells ⟨[.int .i64 kind, .int .i64 n, .int .i64 page, .int .i64 at_, str s, .slice ka ks.length kc]⟩ 49 (0, 0)),
      Blk mb (.cells ⟨[.int .i64 most, .slice la last.length lc, .slice wa loose.length wc, .bool burns, .int .i64 fuse]⟩ 46 (0, 0)),
      RowA false strC 1 la last, RowA false wrC 2 wa loose, RowA false TK.cells 2 ka ks])
    (fun _ => [(2, .pointer (some ⟨mb, 0, none⟩)), (3, .pointer (some ⟨xb, 0, none⟩)), (4, .pointer (some ⟨rb, 0, none⟩)), (5, .int .i64 0), (6, .bool (decide (0 ≤ page ∧ page < last.length))), (7, .bool (burns && decide (fuse = 0)))]) ?_ ?_
  · cases burns with
    | false =>
      refine c_region ?_
      refine o_y (y_fieldAddr0 rfl) rfl ?_
      refine o_y (y_load rfl rfl rfl) rfl ?_
      refine o_y (y_move rfl) rfl ?_
      refine o_skip rfl rfl ?_
      refine o_skip rfl rfl ?_
      refine o_skip rfl rfl ?_
      refine o_y (y_pick_f rfl rfl) rfl ?_
      refine o_y (y_assign rfl) rfl ?_
      refine o_nil ?_
      exact f_cut () (by repeat (first | with_reducible exact Ent.nil | (apply Ent.one; focus (repeat (first | with_reducible exact Rem.here | apply Rem.there))))) (by repeat (first | exact trivial | refine ⟨rfl, ?_⟩))
    | true =>
      by_cases f0 : fuse = 0
      · rw [decide_eq_true f0]
        refine c_region ?_
        refine o_y (y_fieldAddr0 rfl) rfl ?_
        refine o_y (y_load rfl rfl rfl) rfl ?_
        refine o_y (y_move rfl) rfl ?_
        refine o_want rfl ?_
        refine o_y (y_fieldAddr0 rfl) rfl ?_
        refine o_want rfl ?_
        refine o_y (y_load rfl rfl rfl) rfl ?_
        refine o_want rfl ?_
        refine o_y (y_eql_t rfl rfl (by omega)) rfl ?_
        refine o_y (y_pick_t rfl rfl) rfl ?_
        refine o_y (y_assign rfl) rfl ?_
        refine o_nil ?_
        exact f_cut () (by repeat (first | with_reducible exact Ent.nil | (apply Ent.one; focus (repeat (first | with_reducible exact Rem.here | apply Rem.there))))) (by repeat (first | exact trivial | refine ⟨rfl, ?_⟩))
      · rw [decide_eq_false f0]
        refine c_region ?_
        refine o_y (y_fieldAddr0 rfl) rfl ?_
        refine o_y (y_load rfl rfl rfl) rfl ?_
        refine o_y (y_move rfl) rfl ?_
        refine o_want rfl ?_
        refine o_y (y_fieldAddr0 rfl) rfl ?_
        refine o_want rfl ?_
        refine o_y (y_load rfl rfl rfl) rfl ?_
        refine o_want rfl ?_
        refine o_y (y_eql_f rfl rfl (by omega)) rfl ?_
        refine o_y (y_pick_t rfl rfl) rfl ?_
        refine o_y (y_assign rfl) rfl ?_
        refine o_nil ?_
        exact f_cut () (by repeat (first | with_reducible exact Ent.nil | (apply Ent.one; focus (repeat (first | with_reducible exact Rem.here | apply Rem.there))))) (by repeat (first | exact trivial | refine ⟨rfl, ?_⟩))
  intro _

  have hact : RM.act ⟨most, last, loose, burns, fuse⟩ ⟨kind, n, page, at_, s, ka, kc, ks⟩ = (⟨most, (ks.foldl RM.keep ⟨most, last, loose, burns, fuse⟩).last, [], false, fuse⟩, 0) := by
    have hr := RK.keeps hW ks ⟨rfl, rfl, rfl, rfl, rfl, hW.last⟩
    simp only [RM.act, hk]
    have h1 := hr.most
    have h2 := hr.fuse
    generalize ks.foldl RM.keep ⟨most, last, loose, burns, fuse⟩ = T at h1 h2
    dsimp only at h1 h2
    subst h1; subst h2; rfl
  rw [hact]
  have hR0 : RK ⟨most, last, loose, burns, fuse⟩ ⟨most, last, loose, burns, fuse⟩ := ⟨rfl, rfl, rfl, rfl, rfl, hW.last⟩
  refine c_seq ?_
  refine c_seq ?_
  refine c_region ?_
  refine o_y (y_fieldAddr0 rfl) rfl ?_
  refine o_y (y_load rfl rfl rfl) rfl ?_
  refine o_nil ?_
  refine f_seq ?_
  refine c_block ?_
  refine c_seq ?_
  refine c_region ?_
  refine o_y (y_eql_f rfl rfl (by omega)) rfl ?_
  refine o_y (y_assign rfl) rfl ?_
  refine o_nil ?_
  refine f_seq ?_
  refine c_false rfl ?_
  refine c_seq ?_
  refine c_region ?_
  refine o_y (y_eql_f rfl rfl (by omega)) rfl ?_
  refine o_y (y_assign rfl) rfl ?_
  refine o_nil ?_
  refine f_seq ?_
  refine c_false rfl ?_
  refine c_seq ?_
  refine c_region ?_
  refine o_y (y_eql_f rfl rfl (by omega)) rfl ?_
  refine o_y (y_assign rfl) rfl ?_
  refine o_nil ?_
  refine f_seq ?_
  refine c_false rfl ?_
  refine c_seq ?_
  refine c_region ?_
  refine o_y (y_eql_t rfl rfl (by omega)) rfl ?_
  refine o_y (y_assign rfl) rfl ?_
  refine o_nil ?_
  refine f_seq ?_
  refine c_true rfl ?_
  refine c_seq ?_
  refine c_seq ?_
  refine c_region ?_
  refine o_y (y_assign rfl) rfl ?_
  refine o_nil ?_
  refine f_seq ?_
  refine c_block ?_
  rw [show RowA false strC 1 la last = RowA false strC 1 la ((ks.take 0).foldl RM.keep ⟨most, last, loose, burns, fuse⟩).last from rfl]
  refine c_loop_inv (X := Nat × Option Addr × Nat) (fun y => y.1 ≤ ks.length) (fun y => ks.length - y.1)
    (fun y => [Blk rb (.cells ⟨[.int .i64 0, .slice none 0 0, .slice none 0 0, .bool false, .int .i64 0]⟩ 46 (0, 0)), Blk xb (.cells ⟨[.int .i64 kind, .int .i64 n, .int .i64 page, .int .i64 at_, str s, .slice ka ks.length kc]⟩ 49 (0, 0)), Blk mb (.cells ⟨[.int .i64 most, .slice y.2.1 last.length y.2.2, .slice wa loose.length wc, .bool burns, .int .i64 fuse]⟩ 46 (0, 0)), RowA false strC 1 y.2.1 ((ks.take y.1).foldl RM.keep ⟨most, last, loose, burns, fuse⟩).last, RowA false wrC 2 wa loose, RowA false TK.cells 2 ka ks])
    (fun y => [(2, .pointer (some ⟨mb, 0, none⟩)), (3, .pointer (some ⟨xb, 0, none⟩)), (4, .pointer (some ⟨rb, 0, none⟩)), (5, .int .i64 0), (9, .int .i64 (y.1 : Int))]) (0, la, lc) (Nat.zero_le _) (by repeat (first | with_reducible exact Ent.nil | (apply Ent.one; focus (repeat (first | with_reducible exact Rem.here | apply Rem.there))))) (by repeat (first | exact trivial | refine ⟨rfl, ?_⟩)) ?_
  rintro ⟨i, a1, c1⟩ hi ih
  dsimp only at hi ih ⊢
  by_cases hlt : i < ks.length
  case neg =>
    clear ih
    have : i = ks.length := by omega
    subst this
    rw [List.take_length]
    have hr := RK.keeps hW ks hR0
    generalize ks.foldl RM.keep ⟨most, last, loose, burns, fuse⟩ = T at hr
    have hlen := hr.len
    dsimp only at hlen
    refine c_seq ?_
    refine c_seq ?_
    refine c_region ?_
    refine o_y (y_move rfl) rfl ?_
    refine o_y (y_fieldAddr0 rfl) rfl ?_
    refine o_y (y_load rfl rfl rfl) rfl ?_
    refine o_y (y_len_slice rfl) rfl ?_
    refine o_y (y_lss_f rfl rfl (by omega)) rfl ?_
    refine o_nil ?_
    refine f_seq ?_
    refine c_false rfl ?_
    refine c_exit ?_
    refine f_seq_exit ?_
    refine f_seq_exit ?_
    refine f_block_here ?_
    refine f_seq ?_
    refine c_region ?_
    refine o_y (y_fieldAddr0 rfl) rfl ?_
    refine o_store rfl rfl rfl frz0 ?_
    refine o_y (y_fieldAddr0 rfl) rfl ?_
    refine o_store rfl rfl rfl frz0 ?_
    refine o_nil ?_
    refine f_block ?_
    refine f_seq ?_
    refine c_seq ?_
    refine c_region ?_
    refine o_y (y_loadN rfl rfl rfl) rfl ?_
    refine o_store rfl rfl rfl frz0 ?_
    refine o_y (y_assign rfl) rfl ?_
    refine o_nil ?_
    refine f_seq ?_
    refine c_ret ?_
    refine f_retc rfl rfl rfl rfl rfl (Ent.one (by repeat (first | with_reducible exact Rem.here | apply Rem.there)) (Ent.put (P := []) (by repeat (first | with_reducible exact Takes.nil | (apply Takes.cons; focus (repeat (first | with_reducible exact Rem.here | apply Rem.there))))) RowA.empty (by repeat (first | with_reducible exact Ent.nil | (apply Ent.one; focus (repeat (first | with_reducible exact Rem.here | apply Rem.there))))))) ⟨⟨a1, c1, none, 0⟩, ?_, rfl⟩
    simp [RM.val, RM.cells, tup, hlen]
  case pos =>
  have hkk : ks[i]? = some ks[i] := List.getElem?_eq_getElem hlt
  have hsec := hok _ (List.getElem_mem hlt)
  generalize ks[i] = k at hkk hsec
  have hnk : ks ≠ [] := by intro h; rw [h] at hlt; exact absurd hlt (by simp)
  have hr := RK.keeps hW (ks.take i) hR0
  have hsn : (ks.take (i + 1)).foldl RM.keep ⟨most, last, loose, burns, fuse⟩ = ((ks.take i).foldl RM.keep ⟨most, last, loose, burns, fuse⟩).keep k := by
    rw [take_snoc' hkk, List.foldl_append]; rfl
  obtain ⟨S, hS⟩ : ∃ S, S = (ks.take i).foldl RM.keep ⟨most, last, loose, burns, fuse⟩ := ⟨_, rfl⟩
  rw [← hS] at hr hsn ⊢
  clear hS
  have hlen := hr.len
  have hlo := hr.loose
  dsimp only at hlen hlo
  refine c_open (h := RowA.opens (f := TK.cells) hnk) (by repeat (first | with_reducible exact Rem.here | apply Rem.there)) (fun y hy2 => ?_)
  obtain ⟨kb, ko, cs, T, fz⟩ := y
  obtain ⟨e1, e2⟩ := hy2
  dsimp only at e1 e2
  subst e1
  have g0 := getN_sub e2 (flat_get TK.cells 2 (fun _ => rfl) hkk)
  have g1 : cs[ko + i * 2 + 0]? = some (.int .i64 k.wr) := by
    have := (takeN_get g0).2 0 (by decide)
    rw [List.getElem?_drop] at this
    exact this
  have g2 : cs[ko + i * 2 + 1]? = some (.int .u8 (k.sec : Int)) := by
    have := (takeN_get g0).2 1 (by decide)
    rw [List.getElem?_drop] at this
    exact this
  simp only [List.append_eq, List.cons_append, List.nil_append, List.append_nil, tup]
  refine c_seq ?_
  refine c_seq ?_
  refine c_region ?_
  refine o_y (y_move rfl) rfl ?_
  refine o_y (y_fieldAddr0 rfl) rfl ?_
  refine o_y (y_load rfl rfl rfl) rfl ?_
  refine o_y (y_len_slice rfl) rfl ?_
  refine o_y (y_lss_t rfl rfl (by omega)) rfl ?_
  refine o_nil ?_
  refine f_seq ?_
  refine c_true rfl ?_
  refine c_skip ?_
  refine f_seq ?_
  refine c_seq ?_
  refine c_block ?_
  refine c_seq ?_
  refine c_region ?_
  refine o_y (y_fieldAddr0 rfl) rfl ?_
  refine o_y (y_load rfl rfl rfl) rfl ?_
  refine o_y (y_move rfl) rfl ?_
  refine o_y (y_indexAddr i rfl rfl rfl hlt) rfl ?_
  refine o_y (y_fieldAddr rfl) rfl ?_
  refine o_y (y_load rfl rfl g1) rfl ?_
  by_cases hin : 0 ≤ k.wr ∧ k.wr < loose.length
  case neg =>
    have hkeep : S.keep k = S := by unfold RM.keep; rw [hlo, if_neg hin]
    rw [hkeep] at hsn
    rw [← hsn]
    by_cases h0 : 0 ≤ k.wr
    · have h1 : ¬ k.wr < loose.length := fun h => hin ⟨h0, h⟩
      refine o_y (y_assign rfl) rfl ?_
      refine o_nil ?_
      refine f_seq ?_
      refine c_seq ?_
      refine c_region ?_
      refine o_y (y_move rfl) rfl ?_
      refine o_y (y_geq_t rfl rfl (by omega)) rfl ?_
      refine o_y (y_move rfl) rfl ?_
      refine o_want rfl ?_
      refine o_y (y_move rfl) rfl ?_
      refine o_want rfl ?_
      refine o_y (y_fieldAddr0 rfl) rfl ?_
      refine o_want rfl ?_
      refine o_y (y_load rfl rfl rfl) rfl ?_
      refine o_want rfl ?_
      refine o_y (y_len_slice rfl) rfl ?_
      refine o_want rfl ?_
      refine o_y (y_lss_f rfl rfl (by omega)) rfl ?_
      refine o_y (y_pick_t rfl rfl) rfl ?_
      refine o_nil ?_
      refine f_seq ?_
      refine c_false rfl ?_
      refine c_skip ?_
      refine f_block ?_
      refine f_seq ?_
      refine c_region ?_
      refine o_y (y_move rfl) rfl ?_
      refine o_y (y_arith64 rfl rfl rfl (by omega)) rfl ?_
      refine o_y (y_assign rfl) rfl ?_
      refine o_nil ?_
      exact f_next (Ent.one (by repeat (first | with_reducible exact Rem.here | apply Rem.there)) (Ent.one (by repeat (first | with_reducible exact Rem.here | apply Rem.there)) (Ent.one (by repeat (first | with_reducible exact Rem.here | apply Rem.there)) (Ent.one (by repeat (first | with_reducible exact Rem.here | apply Rem.there)) (Ent.one (by repeat (first | with_reducible exact Rem.here | apply Rem.there)) (Ent.put (P := [Bkp false kb (.cells ⟨cs⟩ T fz)]) (by repeat (first | with_reducible exact Takes.nil | (apply Takes.cons; focus (repeat (first | with_reducible exact Rem.here | apply Rem.there))))) (RowA.shut rfl e2) (by repeat (first | with_reducible exact Ent.nil | (apply Ent.one; focus (repeat (first | with_reducible exact Rem.here | apply Rem.there))))))))))) (by repeat (first | exact trivial | refine ⟨rfl, ?_⟩)) (ih (i + 1, a1, c1) hlt (by dsimp only; omega))
    · refine o_y (y_assign rfl) rfl ?_
      refine o_nil ?_
      refine f_seq ?_
      refine c_seq ?_
      refine c_region ?_
      refine o_y (y_move rfl) rfl ?_
      refine o_y (y_geq_f rfl rfl (by omega)) rfl ?_
      refine o_y (y_move rfl) rfl ?_
      refine o_skip rfl rfl ?_
      refine o_skip rfl rfl ?_
      refine o_skip rfl rfl ?_
      refine o_skip rfl rfl ?_
      refine o_skip rfl rfl ?_
      refine o_y (y_pick_f rfl rfl) rfl ?_
      refine o_nil ?_
      refine f_seq ?_
      refine c_false rfl ?_
      refine c_skip ?_
      refine f_block ?_
      refine f_seq ?_
      refine c_region ?_
      refine o_y (y_move rfl) rfl ?_
      refine o_y (y_arith64 rfl rfl rfl (by omega)) rfl ?_
      refine o_y (y_assign rfl) rfl ?_
      refine o_nil ?_
      exact f_next (Ent.one (by repeat (first | with_reducible exact Rem.here | apply Rem.there)) (Ent.one (by repeat (first | with_reducible exact Rem.here | apply Rem.there)) (Ent.one (by repeat (first | with_reducible exact Rem.here | apply Rem.there)) (Ent.one (by repeat (first | with_reducible exact Rem.here | apply Rem.there)) (Ent.one (by repeat (first | with_reducible exact Rem.here | apply Rem.there)) (Ent.put (P := [Bkp false kb (.cells ⟨cs⟩ T fz)]) (by repeat (first | with_reducible exact Takes.nil | (apply Takes.cons; focus (repeat (first | with_reducible exact Rem.here | apply Rem.there))))) (RowA.shut rfl e2) (by repeat (first | with_reducible exact Ent.nil | (apply Ent.one; focus (repeat (first | with_reducible exact Rem.here | apply Rem.there))))))))))) (by repeat (first | exact trivial | refine ⟨rfl, ?_⟩)) (ih (i + 1, a1, c1) hlt (by dsimp only; omega))
  case pos =>
  have hwl : k.wr.toNat < loose.length := by omega
  have hww : loose[k.wr.toNat]? = some loose[k.wr.toNat] := List.getElem?_eq_getElem hwl
  have hwi := hW.loose _ (List.getElem_mem hwl)
  have hkeep : S.keep k = { S with last := setM S.last (loose[k.wr.toNat]).1 (tornM (getM S.last (loose[k.wr.toNat]).1) (loose[k.wr.toNat]).2 k.sec) } := by
    have e : loose.getD k.wr.toNat (0, []) = loose[k.wr.toNat] := by rw [List.getD_eq_getElem?_getD, hww]; rfl
    unfold RM.keep
    rw [hlo, if_pos hin, e]
  rw [hkeep] at hsn
  clear hkeep
  generalize loose[k.wr.toNat] = w at hww hwi hsn
  have hsl := congrArg RM.last hsn
  dsimp only at hsl
  have hw0 : 0 ≤ w.1 ∧ w.1 < (last.length : Int) := hwi.1
  have hw1 : w.2.length = 256 := hwi.2
  have hw2 : 0 ≤ w.1 ∧ w.1 < (S.last.length : Int) := by rw [hlen]; exact hw0
  have hnw : loose ≠ [] := by intro h; rw [h] at hwl; exact absurd hwl (by simp)
  have hnl : S.last ≠ [] := by intro h; rw [h] at hw2; simp only [List.length_nil] at hw2; omega
  refine o_y (y_assign rfl) rfl ?_
  refine o_nil ?_
  refine f_seq ?_
  refine c_seq ?_
  refine c_region ?_
  refine o_y (y_move rfl) rfl ?_
  refine o_y (y_geq_t rfl rfl (by omega)) rfl ?_
  refine o_y (y_move rfl) rfl ?_
  refine o_want rfl ?_
  refine o_y (y_move rfl) rfl ?_
  refine o_want rfl ?_
  refine o_y (y_fieldAddr0 rfl) rfl ?_
  refine o_want rfl ?_
  refine o_y (y_load rfl rfl rfl) rfl ?_
  refine o_want rfl ?_
  refine o_y (y_len_slice rfl) rfl ?_
  refine o_want rfl ?_
  refine o_y (y_lss_t rfl rfl (by omega)) rfl ?_
  refine o_y (y_pick_t rfl rfl) rfl ?_
  refine o_nil ?_
  refine f_seq ?_
  refine c_true rfl ?_
  refine c_seq ?_
  refine c_region ?_
  refine o_y (y_fieldAddr0 rfl) rfl ?_
  refine o_y (y_load rfl rfl rfl) rfl ?_
  refine o_y (y_move rfl) rfl ?_
  refine o_open (h := RowA.opens (f := wrC) hnw) (by repeat (first | with_reducible exact Rem.here | apply Rem.there)) (fun y hy2 => ?_)
  obtain ⟨kb2, ko2, cs2, T2, fz2⟩ := y
  obtain ⟨e3, e4⟩ := hy2
  dsimp only at e3 e4
  subst e3
  obtain ⟨q0, q1, q2⟩ := roww_get e4 hww
  simp only [List.append_eq, List.cons_append, List.nil_append, List.append_nil, tup]
  skip
  refine o_y (y_indexAddr k.wr.toNat rfl rfl (by omega) hwl) rfl ?_
  refine o_y (y_loadN rfl rfl q0) rfl ?_
  refine o_alloc rfl (fun nb => ?_)
  refine o_store rfl rfl rfl frz0 ?_
  refine o_nil ?_
  refine f_seq ?_
  rename Nat => nb
  dsimp only [putE]
  refine c_ent (Ent.trans (M := [RowA false strC 1 a1 S.last, Blk nb (.cells ⟨[.int .i64 w.1, str w.2]⟩ 72 (0, 0)), Bkp false kb (.cells ⟨cs⟩ T fz), Blk xb (.cells ⟨[.int .i64 kind, .int .i64 n, .int .i64 page, .int .i64 at_, str s, .slice (some ⟨kb, ko, none⟩) ks.length kc]⟩ 49 (0, 0)), Blk mb (.cells ⟨[.int .i64 most, .slice a1 last.length c1, .slice (some ⟨kb2, ko2, none⟩) loose.length wc, .bool burns, .int .i64 fuse]⟩ 46 (0, 0)), Bkp false kb2 (.cells ⟨cs2⟩ T2 fz2), Blk rb (.cells ⟨[.int .i64 0, .slice none 0 0, .slice none 0 0, .bool false, .int .i64 0]⟩ 46 (0, 0))]) (by repeat (first | with_reducible exact Ent.nil | (apply Ent.one; focus (repeat (first | with_reducible exact Rem.here | apply Rem.there))))) RowA.dup) ?_
  refine c_open (h := RowA.opens (f := strC) hnl) (by repeat (first | with_reducible exact Rem.here | apply Rem.there)) (fun y hy2 => ?_)
  obtain ⟨lb, lo, cs3, T3, fz3⟩ := y
  obtain ⟨e5, e6⟩ := hy2
  dsimp only at e5 e6
  subst e5
  have hg := rowl_get e6 hw2
  simp only [List.append_eq, List.cons_append, List.nil_append, List.append_nil, tup]
  refine pl_start [18, 19, 21] Try.mixed ?_; intro hd
  refine pl_lock (A := Bkp _ _ _) Rem.here rfl ?_ hd; intro hb0
  refine pl_lock (A := Bkp _ _ _) (Rem.there Rem.here) rfl ?_ hd; intro hb1
  refine pl_lock (A := Bkp _ _ _) (Rem.there Rem.here) rfl ?_ hd; intro hb2
  refine pl_lock (A := Bkp _ _ _) (Rem.there Rem.here) rfl ?_ hd; intro hb3
  refine pl_lock (A := Bkp _ _ _) (Rem.there Rem.here) rfl ?_ hd; intro hb4
  refine pl_take (i := 0) rfl (by kernel_rfl) (y_fieldAddr0 rfl) ?_ hd; clear hd; intro hd
  refine pl_take (i := 1) rfl (by kernel_rfl) (y_load rfl rfl rfl) ?_ hd; clear hd; intro hd
  refine pl_take (i := 2) rfl (by kernel_rfl) (y_fieldAddr0 rfl) ?_ hd; clear hd; intro hd
  refine pl_take (i := 3) rfl (by kernel_rfl) (y_load rfl rfl rfl) ?_ hd; clear hd; intro hd
  refine pl_take (i := 4) rfl (by kernel_rfl) (y_fieldAddr0 rfl) ?_ hd; clear hd; intro hd
  refine pl_take (i := 5) rfl (by kernel_rfl) (y_load rfl rfl rfl) ?_ hd; clear hd; intro hd
  refine pl_take (i := 6) rfl (by kernel_rfl) (y_fieldAddr0 rfl) ?_ hd; clear hd; intro hd
  refine pl_take (i := 7) rfl (by kernel_rfl) (y_load rfl rfl rfl) ?_ hd; clear hd; intro hd
  refine pl_take (i := 8) rfl (by kernel_rfl) (y_indexAddr w.1.toNat rfl rfl (by omega) (by omega)) ?_ hd; clear hd; intro hd
  refine pl_take (i := 9) rfl (by kernel_rfl) (y_load rfl rfl hg) ?_ hd; clear hd; intro hd
  refine pl_take (i := 10) rfl (by kernel_rfl) (y_fieldAddr0 rfl) ?_ hd; clear hd; intro hd
  refine pl_take (i := 11) rfl (by kernel_rfl) (y_load rfl rfl rfl) ?_ hd; clear hd; intro hd
  refine pl_take (i := 12) rfl (by kernel_rfl) (y_fieldAddr0 rfl) ?_ hd; clear hd; intro hd
  refine pl_take (i := 13) rfl (by kernel_rfl) (y_load rfl rfl rfl) ?_ hd; clear hd; intro hd
  refine pl_take (i := 14) rfl (by kernel_rfl) (y_move rfl) ?_ hd; clear hd; intro hd
  refine pl_take (i := 15) rfl (by kernel_rfl) (y_indexAddr i rfl rfl rfl hlt) ?_ hd; clear hd; intro hd
  refine pl_take (i := 16) rfl (by kernel_rfl) (y_fieldAddr rfl) ?_ hd; clear hd; intro hd
  refine pl_take (i := 17) rfl (by kernel_rfl) (y_load rfl rfl g2) ?_ hd; clear hd; intro hd
  refine pl_sole (i := 18) (by kernel_rfl) rfl ?_ hd; clear hd; intro hd
  refine o_call rfl (torn_f (getM S.last w.1) w.2 k.sec (getM_len hr.whole hw2) hw1 hsec) (by repeat (first | with_reducible exact Takes.nil | (apply Takes.cons; focus (repeat (first | with_reducible exact Rem.here | apply Rem.there))))) rfl ?_
  rintro _ _ ⟨rfl, rfl⟩
  simp only [List.append_eq, List.cons_append, List.nil_append, List.append_nil, tup]
  refine pl_back (by repeat (first | with_reducible exact Owes.nil | with_reducible refine Owes.same ?_ | with_reducible refine Owes.any ?_ | refine Owes.waived 18 (by kernel_rfl) ?_)) ?_ hd; clear hd; intro hd
  refine pl_sole (i := 19) (by kernel_rfl) rfl ?_ hd; clear hd; intro hd
  refine o_call rfl (with_f (some ⟨lb, lo, none⟩) c1 S.last w.1 (tornM (getM S.last w.1) w.2 k.sec) last.length hlen.symm hw2 (by omega)) (by repeat (first | with_reducible exact Takes.nil | (apply Takes.cons; focus (repeat (first | with_reducible exact Rem.here | apply Rem.there))))) rfl ?_
  rintro _ _ ⟨a2, c2, rfl, rfl⟩
  simp only [List.append_eq, List.cons_append, List.nil_append, List.append_nil, tup]
  refine pl_back (by repeat (first | with_reducible exact Owes.nil | with_reducible refine Owes.same ?_ | with_reducible refine Owes.any ?_ | refine Owes.waived 19 (by kernel_rfl) ?_ | refine Owes.waived 18 (by kernel_rfl) ?_)) ?_ hd; clear hd; intro hd
  refine pl_take (i := 20) rfl (by kernel_rfl) (y_fieldAddr0 rfl) ?_ hd; clear hd; intro hd
  refine pl_sole (i := 21) (by kernel_rfl) rfl ?_ hd; clear hd; intro hd
  refine o_unlock (A := Bkp _ _ _) ?_
  refine o_unlock (A := Bkp _ _ _) ?_
  refine o_unlock (A := Bkp _ _ _) ?_
  refine o_unlock (A := Bkp _ _ _) ?_
  refine o_unlock (A := Bkp _ _ _) ?_
  refine o_store rfl rfl rfl frz0 ?_
  refine pl_back (by repeat (first | with_reducible exact Owes.nil | with_reducible refine Owes.same ?_ | with_reducible refine Owes.any ?_ | refine Owes.waived 21 (by kernel_rfl) ?_ | refine Owes.waived 19 (by kernel_rfl) ?_ | refine Owes.waived 18 (by kernel_rfl) ?_)) ?_ hd; clear hd; intro hd
  refine pl_done (by kernel_rfl) ?_ hd
  refine f_block ?_
  refine f_seq ?_
  refine c_region ?_
  refine o_y (y_move rfl) rfl ?_
  refine o_y (y_arith64 rfl rfl rfl (by omega)) rfl ?_
  refine o_y (y_assign rfl) rfl ?_
  refine o_nil ?_
  rw [← hsl]
  exact f_next (Ent.one (by repeat (first | with_reducible exact Rem.here | apply Rem.there)) (Ent.one (by repeat (first | with_reducible exact Rem.here | apply Rem.there)) (Ent.one (by repeat (first | with_reducible exact Rem.here | apply Rem.there)) (Ent.one (by repeat (first | with_reducible exact Rem.here | apply Rem.there)) (Ent.put (P := [Bkp false kb2 (.cells ⟨cs2⟩ T2 fz2)]) (by repeat (first | with_reducible exact Takes.nil | (apply Takes.cons; focus (repeat (first | with_reducible exact Rem.here | apply Rem.there))))) (RowA.shut rfl e4) (Ent.put (P := [Bkp false kb (.cells ⟨cs⟩ T fz)]) (by repeat (first | with_reducible exact Takes.nil | (apply Takes.cons; focus (repeat (first | with_reducible exact Rem.here | apply Rem.there))))) (RowA.shut rfl e2) (by repeat (first | with_reducible exact Ent.nil | (apply Ent.one; focus (repeat (first | with_reducible exact Rem.here | apply Rem.there))))))))))) (by repeat (first | exact trivial | refine ⟨rfl, ?_⟩)) (ih (i + 1, a2, c2) hlt (by dsimp only; omega))
end Go.Lun

/- The document's disk: reading it. -/
import Derived.Test.YtijahemmbooblaaRef1
namespace Go.Lun
open Go.Proofs

set_option maxHeartbeats 1600000 in
theorem rread_f (M : RM) (A : MA) (p : Int) (hn : M.loose.length ≤ 1000000) :
    Fn Try.prog 36 [M.val A, .int .i64 p] [RowL M A, RowW M A] (fun v L => ∃ s e, v = .tuple ⟨[str s, .int .i64 e]⟩ ∧ L = [RowL M A, RowW M A] ∧ (if M.there p then s = M.read p ∧ e = 0 else s = [] ∧ e = 30)) := by
  refine fn_start Try.func36 rfl rfl rfl fun F => ?_
  by_cases h0 : p < 0
  · refine c_seq ?_
    refine c_region ?_
    refine o_box rfl rfl (fun nb => ?_)
    refine o_y (y_assign rfl) rfl ?_
    refine o_y (y_assign rfl) rfl ?_
    refine o_nil ?_
    refine f_seq ?_
    refine c_seq ?_
    refine c_seq ?_
    refine c_region ?_
    refine o_y (y_move rfl) rfl ?_
    refine o_y (y_lss_t rfl rfl (by omega)) rfl ?_
    refine o_y (y_move rfl) rfl ?_
    refine o_skip rfl rfl ?_
    refine o_skip rfl rfl ?_
    refine o_skip rfl rfl ?_
    refine o_skip rfl rfl ?_
    refine o_skip rfl rfl ?_
    refine o_y (y_pick_t rfl rfl) rfl ?_
    refine o_nil ?_
    refine f_seq ?_
    refine c_true rfl ?_
    refine c_seq ?_
    refine c_region ?_
    refine o_y (y_assign rfl) rfl ?_
    refine o_y (y_assign rfl) rfl ?_
    refine o_nil ?_
    refine f_seq ?_
    refine c_ret ?_
    refine f_seq_ret ?_
    refine f_ent (by repeat (first | with_reducible exact Ent.nil | (apply Ent.one; focus (repeat (first | with_reducible exact Rem.here | apply Rem.there))))) (f_ret (vs := [str [], .int .i64 30]) rfl ⟨[], 30, rfl, rfl, ?_⟩)
    rw [if_neg (fun h => by have := h.1; omega)]; exact ⟨rfl, rfl⟩
  by_cases h1 : p < M.last.length
  case neg =>
    refine c_seq ?_
    refine c_region ?_
    refine o_box rfl rfl (fun nb => ?_)
    refine o_y (y_assign rfl) rfl ?_
    refine o_y (y_assign rfl) rfl ?_
    refine o_nil ?_
    refine f_seq ?_
    refine c_seq ?_
    refine c_seq ?_
    refine c_region ?_
    refine o_y (y_move rfl) rfl ?_
    refine o_y (y_lss_f rfl rfl (by omega)) rfl ?_
    refine o_y (y_move rfl) rfl ?_
    refine o_want rfl ?_
    refine o_y (y_move rfl) rfl ?_
    refine o_want rfl ?_
    refine o_y (y_fieldAddr0 rfl) rfl ?_
    refine o_want rfl ?_
    refine o_y (y_load rfl rfl rfl) rfl ?_
    refine o_want rfl ?_
    refine o_y (y_len_slice rfl) rfl ?_
    refine o_want rfl ?_
    refine o_y (y_geq_t rfl rfl (by omega)) rfl ?_
    refine o_y (y_pick_f rfl rfl) rfl ?_
    refine o_nil ?_
    refine f_seq ?_
    refine c_true rfl ?_
    refine c_seq ?_
    refine c_region ?_
    refine o_y (y_assign rfl) rfl ?_
    refine o_y (y_assign rfl) rfl ?_
    refine o_nil ?_
    refine f_seq ?_
    refine c_ret ?_
    refine f_seq_ret ?_
    refine f_ent (by repeat (first | with_reducible exact Ent.nil | (apply Ent.one; focus (repeat (first | with_reducible exact Rem.here | apply Rem.there))))) (f_ret (vs := [str [], .int .i64 30]) rfl ⟨[], 30, rfl, rfl, ?_⟩)
    rw [if_neg (fun h => h1 h.2)]; exact ⟨rfl, rfl⟩
  have ht : M.there p := ⟨by omega, h1⟩
  have hne : M.last ≠ [] := by intro h; rw [h] at h1; simp only [List.length_nil] at h1; omega
  refine c_open (h := RowA.opens (f := strC) hne) (by repeat (first | with_reducible exact Rem.here | apply Rem.there)) (fun y hy2 => ?_)
  obtain ⟨kb, ko, cs, T, fz⟩ := y
  obtain ⟨e1, e2⟩ := hy2
  dsimp only at e1 e2
  have hg := rowl_get e2 ht
  obtain ⟨la, lc, wa, wc⟩ := A
  dsimp only at e1 hg ⊢
  subst e1
  simp only [List.append_eq, List.cons_append, List.nil_append, List.append_nil, tup]
  refine c_seq ?_
  refine c_region ?_
  refine o_box rfl rfl (fun nb => ?_)
  refine o_y (y_assign rfl) rfl ?_
  refine o_y (y_assign rfl) rfl ?_
  refine o_nil ?_
  refine f_seq ?_
  refine c_seq ?_
  refine c_seq ?_
  refine c_region ?_
  refine o_y (y_move rfl) rfl ?_
  refine o_y (y_lss_f rfl rfl (by omega)) rfl ?_
  refine o_y (y_move rfl) rfl ?_
  refine o_want rfl ?_
  refine o_y (y_move rfl) rfl ?_
  refine o_want rfl ?_
  refine o_y (y_fieldAddr0 rfl) rfl ?_
  refine o_want rfl ?_
  refine o_y (y_load rfl rfl rfl) rfl ?_
  refine o_want rfl ?_
  refine o_y (y_len_slice rfl) rfl ?_
  refine o_want rfl ?_
  refine o_y (y_geq_f rfl rfl (by omega)) rfl ?_
  refine o_y (y_pick_f rfl rfl) rfl ?_
  refine o_nil ?_
  refine f_seq ?_
  refine c_false rfl ?_
  refine c_skip ?_
  refine f_seq ?_
  refine c_seq ?_
  refine c_region ?_
  refine o_y (y_fieldAddr0 rfl) rfl ?_
  refine o_y (y_load rfl rfl rfl) rfl ?_
  refine o_y (y_move rfl) rfl ?_
  rename Nat => nb
  refine o_y (y_indexAddr p.toNat rfl rfl (by omega) (by omega)) rfl ?_
  refine o_y (y_load rfl rfl hg) rfl ?_
  refine o_y (y_assign rfl) rfl ?_
  refine o_nil ?_
  refine f_seq ?_
  refine c_seq ?_
  refine c_seq ?_
  refine c_region ?_
  refine o_y (y_assign rfl) rfl ?_
  refine o_nil ?_
  refine f_seq ?_
  refine c_block ?_
  refine c_loop_inv (X := Nat) (fun i => i ≤ M.loose.length) (fun i => M.loose.length - i)
    (fun _ => [Blk nb (.cells ⟨M.cells ⟨some ⟨kb, ko, none⟩, lc, wa, wc⟩⟩ 46 (0, 0)), Bkp false kb (.cells ⟨cs⟩ T fz), RowW M ⟨some ⟨kb, ko, none⟩, lc, wa, wc⟩])
    (fun i => [(1, .int .i64 p), (2, .pointer (some ⟨nb, 0, none⟩)), (6, str ((M.loose.take i).foldl (fun s w => if w.1 = p then w.2 else s) (getM M.last p))), (7, .int .i64 (i : Int))]) 0 (Nat.zero_le _) (by repeat (first | with_reducible exact Ent.nil | (apply Ent.one; focus (repeat (first | with_reducible exact Rem.here | apply Rem.there))))) (by repeat (first | exact trivial | refine ⟨rfl, ?_⟩)) ?_
  intro i hi ih
  by_cases hlt : i < M.loose.length
  case neg =>
    have : i = M.loose.length := by omega
    subst this
    rw [List.take_length]
    refine c_seq ?_
    refine c_seq ?_
    refine c_region ?_
    refine o_y (y_move rfl) rfl ?_
    refine o_y (y_fieldAddr0 rfl) rfl ?_
    refine o_y (y_load rfl rfl rfl) rfl ?_
    refine o_y (y_len_slice rfl) rfl ?_
    refine o_y (y_lss_f rfl rfl (by omega)) rfl ?_
    refine o_nil ?_
    refine f_seq ?_
    refine c_false rfl ?_
    refine c_exit ?_
    refine f_seq_exit ?_
    refine f_seq_exit ?_
    refine f_block_here ?_
    refine f_seq ?_
    refine c_seq ?_
    refine c_region ?_
    refine o_y (y_move rfl) rfl ?_
    refine o_y (y_assign rfl) rfl ?_
    refine o_y (y_assign rfl) rfl ?_
    refine o_nil ?_
    refine f_seq ?_
    refine c_ret ?_
    refine f_ent (Ent.put (P := [Bkp false kb (.cells ⟨cs⟩ T fz)]) (by repeat (first | with_reducible exact Takes.nil | (apply Takes.cons; focus (repeat (first | with_reducible exact Rem.here | apply Rem.there))))) (RowA.shut rfl e2) (by repeat (first | with_reducible exact Ent.nil | (apply Ent.one; focus (repeat (first | with_reducible exact Rem.here | apply Rem.there)))))) (f_ret rfl ⟨_, 0, rfl, rfl, ?_⟩)
    rw [if_pos ht]; exact ⟨rfl, rfl⟩
  case pos =>
    have hww : M.loose[i]? = some M.loose[i] := List.getElem?_eq_getElem hlt
    generalize M.loose[i] = w at hww
    have hnw : M.loose ≠ [] := by intro h; rw [h] at hlt; exact absurd hlt (by simp)
    refine c_open (h := RowA.opens (f := wrC) hnw) (by repeat (first | with_reducible exact Rem.here | apply Rem.there)) (fun y hy2 => ?_)
    obtain ⟨kb2, ko2, cs2, T2, fz2⟩ := y
    obtain ⟨e3, e4⟩ := hy2
    dsimp only at e3 e4
    subst e3
    obtain ⟨g0, g1, g2⟩ := roww_get e4 hww
    have htk : (M.loose.take (i + 1)).foldl (fun s w => if w.1 = p then w.2 else s) (getM M.last p) = if w.1 = p then w.2 else (M.loose.take i).foldl (fun s w => if w.1 = p then w.2 else s) (getM M.last p) := by
      rw [take_snoc' hww, List.foldl_append]; rfl
    simp only [List.append_eq, List.cons_append, List.nil_append, List.append_nil, tup]
    refine c_seq ?_
    refine c_seq ?_
    refine c_region ?_
    refine o_y (y_move rfl) rfl ?_
    refine o_y (y_fieldAddr0 rfl) rfl ?_
    refine o_y (y_load rfl rfl rfl) rfl ?_
    refine o_y (y_len_slice rfl) rfl ?_
    refine o_y (y_lss_t rfl rfl (by omega)) rfl ?_
    refine o_nil ?_
    refine f_seq ?_
    refine c_true rfl ?_
    refine c_skip ?_
    refine f_seq ?_
    refine c_seq ?_
    refine c_block ?_
    refine c_seq ?_
    refine c_region ?_
    refine o_y (y_fieldAddr0 rfl) rfl ?_
    refine o_y (y_load rfl rfl rfl) rfl ?_
    refine o_y (y_move rfl) rfl ?_
    refine o_y (y_indexAddr i rfl rfl rfl hlt) rfl ?_
    refine o_y (y_fieldAddr rfl) rfl ?_
    refine o_y (y_load rfl rfl g1) rfl ?_
    by_cases hp : w.1 = p
    · rw [if_pos hp] at htk
      refine o_y (y_move rfl) rfl ?_
      refine o_y (y_eql_t rfl rfl (by omega)) rfl ?_
      refine o_nil ?_
      refine f_seq ?_
      refine c_true rfl ?_
      refine c_region ?_
      refine o_y (y_fieldAddr0 rfl) rfl ?_
      refine o_y (y_load rfl rfl rfl) rfl ?_
      refine o_y (y_move rfl) rfl ?_
      refine o_y (y_indexAddr i rfl rfl rfl hlt) rfl ?_
      refine o_y (y_fieldAddr rfl) rfl ?_
      refine o_y (y_load rfl rfl g2) rfl ?_
      rw [← htk]
      refine o_y (y_assign rfl) rfl ?_
      refine o_nil ?_
      refine f_block ?_
      refine f_seq ?_
      refine c_region ?_
      refine o_y (y_move rfl) rfl ?_
      refine o_y (y_arith64 rfl rfl rfl (by omega)) rfl ?_
      refine o_y (y_assign rfl) rfl ?_
      refine o_nil ?_
      refine f_next (Ent.one (by repeat (first | with_reducible exact Rem.here | apply Rem.there)) (Ent.one (by repeat (first | with_reducible exact Rem.here | apply Rem.there)) (Ent.put (P := [Bkp false kb2 (.cells ⟨cs2⟩ T2 fz2)]) (by repeat (first | with_reducible exact Takes.nil | (apply Takes.cons; focus (repeat (first | with_reducible exact Rem.here | apply Rem.there))))) (RowA.shut rfl e4) (by repeat (first | with_reducible exact Ent.nil | (apply Ent.one; focus (repeat (first | with_reducible exact Rem.here | apply Rem.there)))))))) (by repeat (first | exact trivial | refine ⟨rfl, ?_⟩)) (ih (i + 1) hlt (by omega))
    · rw [if_neg hp] at htk
      rw [← htk]
      refine o_y (y_move rfl) rfl ?_
      refine o_y (y_eql_f rfl rfl (by omega)) rfl ?_
      refine o_nil ?_
      refine f_seq ?_
      refine c_false rfl ?_
      refine c_skip ?_
      refine f_block ?_
      refine f_seq ?_
      refine c_region ?_
      refine o_y (y_move rfl) rfl ?_
      refine o_y (y_arith64 rfl rfl rfl (by omega)) rfl ?_
      refine o_y (y_assign rfl) rfl ?_
      refine o_nil ?_
      refine f_next (Ent.one (by repeat (first | with_reducible exact Rem.here | apply Rem.there)) (Ent.one (by repeat (first | with_reducible exact Rem.here | apply Rem.there)) (Ent.put (P := [Bkp false kb2 (.cells ⟨cs2⟩ T2 fz2)]) (by repeat (first | with_reducible exact Takes.nil | (apply Takes.cons; focus (repeat (first | with_reducible exact Rem.here | apply Rem.there))))) (RowA.shut rfl e4) (by repeat (first | with_reducible exact Ent.nil | (apply Ent.one; focus (repeat (first | with_reducible exact Rem.here | apply Rem.there)))))))) (by repeat (first | exact trivial | refine ⟨rfl, ?_⟩)) (ih (i + 1) hlt (by omega))

def RDo (M : RM) (A : MA) (x : ActM) : Prop :=
  Fn Try.prog 23 [M.val A, x.val] [RowL M A, RowW M A, KA x] (fun v L => ∃ A', v = .tuple ⟨[(M.act x).1.val A', .int .i64 (M.act x).2]⟩ ∧ L = [RowL (M.act x).1 A', RowW (M.act x).1 A', KA x])
structure RIn (M : RM) (x : ActM) : Prop where
  few : x.few = true
  ok : x.ok
  wm : WM M
  loose : M.loose.length ≤ 1000000
  last : M.last.length ≤ 1000000
  low : -9223372036854775808 < M.fuse
  high : M.fuse ≤ 9223372036854775807
end Go.Lun

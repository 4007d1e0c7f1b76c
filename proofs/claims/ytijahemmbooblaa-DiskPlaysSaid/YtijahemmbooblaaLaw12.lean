/- The law that a disk plays as the document's, walked. -/
import Derived.Test.YtijahemmbooblaaRef11
namespace Go.Lun
open Go.Proofs

set_option maxHeartbeats 3200000 in
theorem plays_f (most : Int) (a : Option Addr) (ac : Nat) (xs : List ActM) (hok : ∀ x ∈ xs, x.ok) :
    Fn Try.prog 5 [.int .i64 most, .slice a xs.length ac] [RowA false ActM.cells 6 a xs, Star (xs.map KA)] (fun v L => v = .bool true ∧ L = []) := by
  refine fn_start Try.func5 rfl rfl rfl fun F => ?_
  refine c_seq ?_
  refine c_region ?_
  refine o_y (y_assign rfl) rfl ?_
  refine o_nil ?_
  refine f_seq ?_
  refine c_seq ?_
  refine c_region ?_
  refine o_y (y_move rfl) rfl ?_
  refine o_call rfl (new_d most) (by repeat (first | with_reducible exact Takes.nil | (apply Takes.cons; focus (repeat (first | with_reducible exact Rem.here | apply Rem.there))))) rfl ?_
  rintro _ _ (⟨h, rfl, rfl⟩ | ⟨hm, d, rfl, rfl⟩)
  · simp only [List.append_eq, List.cons_append, List.nil_append, List.append_nil, tup]
    by_cases h1 : most < 1
    · refine o_y (y_move rfl) rfl ?_
      refine o_y (y_extract rfl rfl) rfl ?_
      refine o_y (y_extract rfl rfl) rfl ?_
      refine o_y (y_assign rfl) rfl ?_
      refine o_y (y_assign rfl) rfl ?_
      refine o_nil ?_
      refine f_seq ?_
      refine c_seq ?_
      refine c_seq ?_
      refine c_region ?_
      refine o_y (y_move rfl) rfl ?_
      refine o_y (y_lss_t rfl rfl (by omega)) rfl ?_
      refine o_y (y_move rfl) rfl ?_
      refine o_skip rfl rfl ?_
      refine o_skip rfl rfl ?_
      refine o_y (y_pick_t rfl rfl) rfl ?_
      refine o_nil ?_
      refine f_seq ?_
      refine c_true rfl ?_
      refine c_seq ?_
      refine c_region ?_
      refine o_call rfl awake_f (by repeat (first | with_reducible exact Takes.nil | (apply Takes.cons; focus (repeat (first | with_reducible exact Rem.here | apply Rem.there))))) rfl ?_
      rintro _ _ ⟨rfl, rfl⟩
      simp only [List.append_eq, List.cons_append, List.nil_append, List.append_nil, tup]
      refine o_y (y_move rfl) rfl ?_
      refine o_want rfl ?_
      refine o_y (y_move rfl) rfl ?_
      refine o_want rfl ?_
      refine o_y (y_eql_nil rfl rfl) rfl ?_
      refine o_y (y_pick_t rfl rfl) rfl ?_
      refine o_y (y_move rfl) rfl ?_
      refine o_want rfl ?_
      refine o_y (y_move rfl) rfl ?_
      refine o_want rfl ?_
      refine o_y (y_eql_t rfl rfl (by omega)) rfl ?_
      refine o_y (y_pick_t rfl rfl) rfl ?_
      refine o_y (y_assign rfl) rfl ?_
      refine o_nil ?_
      refine f_seq ?_
      refine c_ret ?_
      refine f_seq_ret ?_
      exact f_ent Ent.nil (f_ret rfl ⟨rfl, rfl⟩)
    · have h2 : 4096 < most := by omega
      refine o_y (y_move rfl) rfl ?_
      refine o_y (y_extract rfl rfl) rfl ?_
      refine o_y (y_extract rfl rfl) rfl ?_
      refine o_y (y_assign rfl) rfl ?_
      refine o_y (y_assign rfl) rfl ?_
      refine o_nil ?_
      refine f_seq ?_
      refine c_seq ?_
      refine c_seq ?_
      refine c_region ?_
      refine o_y (y_move rfl) rfl ?_
      refine o_y (y_lss_f rfl rfl (by omega)) rfl ?_
      refine o_y (y_move rfl) rfl ?_
      refine o_want rfl ?_
      refine o_y (y_move rfl) rfl ?_
      refine o_want rfl ?_
      refine o_y (y_gtr_t rfl rfl (by omega)) rfl ?_
      refine o_y (y_pick_f rfl rfl) rfl ?_
      refine o_nil ?_
      refine f_seq ?_
      refine c_true rfl ?_
      refine c_seq ?_
      refine c_region ?_
      refine o_call rfl awake_f (by repeat (first | with_reducible exact Takes.nil | (apply Takes.cons; focus (repeat (first | with_reducible exact Rem.here | apply Rem.there))))) rfl ?_
      rintro _ _ ⟨rfl, rfl⟩
      simp only [List.append_eq, List.cons_append, List.nil_append, List.append_nil, tup]
      refine o_y (y_move rfl) rfl ?_
      refine o_want rfl ?_
      refine o_y (y_move rfl) rfl ?_
      refine o_want rfl ?_
      refine o_y (y_eql_nil rfl rfl) rfl ?_
      refine o_y (y_pick_t rfl rfl) rfl ?_
      refine o_y (y_move rfl) rfl ?_
      refine o_want rfl ?_
      refine o_y (y_move rfl) rfl ?_
      refine o_want rfl ?_
      refine o_y (y_eql_t rfl rfl (by omega)) rfl ?_
      refine o_y (y_pick_t rfl rfl) rfl ?_
      refine o_y (y_assign rfl) rfl ?_
      refine o_nil ?_
      refine f_seq ?_
      refine c_ret ?_
      refine f_seq_ret ?_
      exact f_ent Ent.nil (f_ret rfl ⟨rfl, rfl⟩)
  simp only [List.append_eq, List.cons_append, List.nil_append, List.append_nil, tup]
  have h1 : ¬ most < 1 := by omega
  have h2 : ¬ 4096 < most := by omega
  refine o_y (y_move rfl) rfl ?_
  refine o_y (y_extract rfl rfl) rfl ?_
  refine o_y (y_extract rfl rfl) rfl ?_
  refine o_y (y_assign rfl) rfl ?_
  refine o_y (y_assign rfl) rfl ?_
  refine o_nil ?_
  refine f_seq ?_
  refine c_seq ?_
  refine c_seq ?_
  refine c_region ?_
  refine o_y (y_move rfl) rfl ?_
  refine o_y (y_lss_f rfl rfl (by omega)) rfl ?_
  refine o_y (y_move rfl) rfl ?_
  refine o_want rfl ?_
  refine o_y (y_move rfl) rfl ?_
  refine o_want rfl ?_
  refine o_y (y_gtr_f rfl rfl (by omega)) rfl ?_
  refine o_y (y_pick_f rfl rfl) rfl ?_
  refine o_nil ?_
  refine f_seq ?_
  refine c_false rfl ?_
  refine c_skip ?_
  refine f_seq ?_
  refine c_seq ?_
  refine c_seq ?_
  refine c_region ?_
  refine o_call rfl awake_f (by repeat (first | with_reducible exact Takes.nil | (apply Takes.cons; focus (repeat (first | with_reducible exact Rem.here | apply Rem.there))))) rfl ?_
  rintro _ _ ⟨rfl, rfl⟩
  simp only [List.append_eq, List.cons_append, List.nil_append, List.append_nil, tup]
  refine o_y (y_not rfl) rfl ?_
  refine o_y (y_move rfl) rfl ?_
  refine o_want rfl ?_
  refine o_y (y_move rfl) rfl ?_
  refine o_want rfl ?_
  refine o_y (y_neq_f rfl rfl (by omega)) rfl ?_
  refine o_y (y_pick_f rfl rfl) rfl ?_
  refine o_y (y_move rfl) rfl ?_
  refine o_want rfl ?_
  refine o_y (y_move rfl) rfl ?_
  refine o_want rfl ?_
  refine o_y (y_eql_nil rfl rfl) rfl ?_
  refine o_y (y_pick_f rfl rfl) rfl ?_
  refine o_nil ?_
  refine f_seq ?_
  refine c_false rfl ?_
  refine c_skip ?_
  refine f_seq ?_
  refine c_seq ?_
  refine c_region ?_
  refine o_y (y_move rfl) rfl ?_
  refine o_y (y_build rfl) rfl ?_
  refine o_alloc rfl (fun nb => ?_)
  refine o_store rfl rfl rfl frz0 ?_
  refine o_nil ?_
  refine f_seq ?_
  refine c_seq ?_
  refine c_seq ?_
  refine c_region ?_
  refine o_y (y_assign rfl) rfl ?_
  refine o_nil ?_
  refine f_seq ?_
  refine c_block ?_
  rename Nat => mb
  rw [show ([.int .i64 most, .slice none 0 0, .slice none 0 0, .bool false, .int .i64 0] : List Value) = (DS.new most).doc.cells ⟨none, 0, none, 0⟩ from rfl]
  refine c_ent (Ent.put (P := []) (by repeat (first | with_reducible exact Takes.nil | (apply Takes.cons; focus (repeat (first | with_reducible exact Rem.here | apply Rem.there))))) (show ∀ r, sep [] r → RowL (DS.new most).doc ⟨none, 0, none, 0⟩ r from RowA.empty) (Ent.put (P := []) (by repeat (first | with_reducible exact Takes.nil | (apply Takes.cons; focus (repeat (first | with_reducible exact Rem.here | apply Rem.there))))) (show ∀ r, sep [] r → RowW (DS.new most).doc ⟨none, 0, none, 0⟩ r from RowA.empty) (Ent.refl _))) ?_
  refine c_loop_inv (X := Nat × DS × MA) (fun y => y.1 ≤ 60 ∧ AI (2 * y.1) y.2.1) (fun y => 60 - y.1)
    (fun y => [DRep d y.2.1, Blk mb (.cells ⟨y.2.1.doc.cells y.2.2⟩ 46 (0, 0)), RowL y.2.1.doc y.2.2, RowW y.2.1.doc y.2.2, RowA false ActM.cells 6 a xs, Star (xs.map KA)])
    (fun y => [(1, .slice a xs.length ac), (5, .pointer (some ⟨d, 0, none⟩)), (7, .pointer (some ⟨mb, 0, none⟩)), (8, .int .i64 (y.1 : Int))]) (0, DS.new most, ⟨none, 0, none, 0⟩)
    ⟨Nat.zero_le _, AI.new hm.2 hm.1⟩ (by repeat (first | with_reducible exact Ent.nil | (apply Ent.one; focus (repeat (first | with_reducible exact Rem.here | apply Rem.there))))) (by repeat (first | exact trivial | refine ⟨rfl, ?_⟩)) ?_
  rintro ⟨i, S, A⟩ ⟨hi, hA⟩ ih
  dsimp only at hi hA ih ⊢
  refine c_seq ?_
  refine c_seq ?_
  refine c_cut (X := Unit) (fun _ => [DRep d S, Blk mb (.cells ⟨S.doc.cells A⟩ 46 (0, 0)), RowL S.doc A, RowW S.doc A, RowA false ActM.cells 6 a xs, Star (xs.map KA)])
    (fun _ => [(1, .slice a xs.length ac), (5, .pointer (some ⟨d, 0, none⟩)), (7, .pointer (some ⟨mb, 0, none⟩)), (8, .int .i64 (i : Int)), (50, .bool (decide (i < xs.length ∧ i < 60)))]) ?_ ?_
  · by_cases hl1 : i < xs.length
    · by_cases hl2 : i < 60
      · rw [decide_eq_true (show i < xs.length ∧ i < 60 from ⟨hl1, hl2⟩)]
        refine c_region ?_
        refine o_y (y_move rfl) rfl ?_
        refine o_y (y_move rfl) rfl ?_
        refine o_y (y_len_slice rfl) rfl ?_
        refine o_y (y_lss_t rfl rfl (by omega)) rfl ?_
        refine o_y (y_move rfl) rfl ?_
        refine o_want rfl ?_
        refine o_y (y_move rfl) rfl ?_
        refine o_want rfl ?_
        refine o_y (y_lss_t rfl rfl (by omega)) rfl ?_
        refine o_y (y_pick_t rfl rfl) rfl ?_
        refine o_nil ?_
        exact f_cut () (by repeat (first | with_reducible exact Ent.nil | (apply Ent.one; focus (repeat (first | with_reducible exact Rem.here | apply Rem.there))))) (by repeat (first | exact trivial | refine ⟨rfl, ?_⟩))
      · rw [decide_eq_false (fun h : i < xs.length ∧ i < 60 => hl2 h.2)]
        refine c_region ?_
        refine o_y (y_move rfl) rfl ?_
        refine o_y (y_move rfl) rfl ?_
        refine o_y (y_len_slice rfl) rfl ?_
        refine o_y (y_lss_t rfl rfl (by omega)) rfl ?_
        refine o_y (y_move rfl) rfl ?_
        refine o_want rfl ?_
        refine o_y (y_move rfl) rfl ?_
        refine o_want rfl ?_
        refine o_y (y_lss_f rfl rfl (by omega)) rfl ?_
        refine o_y (y_pick_t rfl rfl) rfl ?_
        refine o_nil ?_
        exact f_cut () (by repeat (first | with_reducible exact Ent.nil | (apply Ent.one; focus (repeat (first | with_reducible exact Rem.here | apply Rem.there))))) (by repeat (first | exact trivial | refine ⟨rfl, ?_⟩))
    · rw [decide_eq_false (fun h : i < xs.length ∧ i < 60 => hl1 h.1)]
      refine c_region ?_
      refine o_y (y_move rfl) rfl ?_
      refine o_y (y_move rfl) rfl ?_
      refine o_y (y_len_slice rfl) rfl ?_
      refine o_y (y_lss_f rfl rfl (by omega)) rfl ?_
      refine o_y (y_move rfl) rfl ?_
      refine o_skip rfl rfl ?_
      refine o_skip rfl rfl ?_
      refine o_y (y_pick_f rfl rfl) rfl ?_
      refine o_nil ?_
      exact f_cut () (by repeat (first | with_reducible exact Ent.nil | (apply Ent.one; focus (repeat (first | with_reducible exact Rem.here | apply Rem.there))))) (by repeat (first | exact trivial | refine ⟨rfl, ?_⟩))
  intro _
  by_cases hlt : i < xs.length ∧ i < 60
  case neg =>
    rw [decide_eq_false hlt]
    refine c_false rfl ?_
    refine c_exit ?_
    refine f_seq_exit ?_
    refine f_seq_exit ?_
    refine f_block_here ?_
    refine f_seq ?_
    refine c_seq ?_
    refine c_region ?_
    refine o_y (y_assign rfl) rfl ?_
    refine o_nil ?_
    refine f_seq ?_
    refine c_ret ?_
    exact f_ent Ent.nil (f_ret rfl ⟨rfl, rfl⟩)
  case pos =>
  rw [decide_eq_true hlt]
  obtain ⟨hl1, hl2⟩ := hlt
  have hxx : xs[i]? = some xs[i] := List.getElem?_eq_getElem hl1
  have hxo : xs[i].ok := hok _ (List.getElem_mem hl1)
  generalize xs[i] = x at hxx hxo
  have hne : xs ≠ [] := by intro h; rw [h] at hl1; exact absurd hl1 (by simp)
  refine c_open (h := RowA.opens (f := ActM.cells) hne) (by repeat (first | with_reducible exact Rem.here | apply Rem.there)) (fun y hy2 => ?_)
  obtain ⟨kb, ko, cs, T, fz⟩ := y
  obtain ⟨e1, e2⟩ := hy2
  dsimp only at e1 e2
  subst e1
  have hxg := act_get e2 hxx
  have back : ∀ {S' : DS} {A' : MA}, Ent [Bkp false kb (.cells ⟨cs⟩ T fz), DRep d S', Blk mb (.cells ⟨S'.doc.cells A'⟩ 46 (0, 0)), RowL S'.doc A', RowW S'.doc A', Star (xs.map KA)]
      [DRep d S', Blk mb (.cells ⟨S'.doc.cells A'⟩ 46 (0, 0)), RowL S'.doc A', RowW S'.doc A', RowA false ActM.cells 6 (some ⟨kb, ko, none⟩) xs, Star (xs.map KA)] := by
    intro S' A'
    refine Ent.one (by repeat (first | with_reducible exact Rem.here | apply Rem.there)) ?_
    refine Ent.one (by repeat (first | with_reducible exact Rem.here | apply Rem.there)) ?_
    refine Ent.one (by repeat (first | with_reducible exact Rem.here | apply Rem.there)) ?_
    refine Ent.one (by repeat (first | with_reducible exact Rem.here | apply Rem.there)) ?_
    refine Ent.put (P := [Bkp false kb (.cells ⟨cs⟩ T fz)]) (by repeat (first | with_reducible exact Takes.nil | (apply Takes.cons; focus (repeat (first | with_reducible exact Rem.here | apply Rem.there))))) (RowA.shut rfl e2) ?_
    repeat (first | with_reducible exact Ent.nil | (apply Ent.one; focus (repeat (first | with_reducible exact Rem.here | apply Rem.there))))
  simp only [List.append_eq, List.cons_append, List.nil_append, List.append_nil, tup]
  refine c_true rfl ?_
  refine c_skip ?_
  refine f_seq ?_
  refine c_seq ?_
  refine c_block ?_
  refine c_seq ?_
  refine c_seq ?_
  refine c_region ?_
  refine o_y (y_move rfl) rfl ?_
  refine o_y (y_move rfl) rfl ?_
  refine o_y (y_indexAddr i rfl rfl rfl hl1) rfl ?_
  refine o_y (y_loadN rfl rfl hxg) rfl ?_
  refine o_call rfl (few_f x) (by repeat (first | with_reducible exact Takes.nil | (apply Takes.cons; focus (repeat (first | with_reducible exact Rem.here | apply Rem.there))))) rfl ?_
  rintro _ _ ⟨rfl, rfl⟩
  simp only [List.append_eq, List.cons_append, List.nil_append, List.append_nil, tup]
  by_cases hf : x.few = true
  case neg =>
    rw [Bool.not_eq_true] at hf
    rw [hf]
    refine o_y (y_not rfl) rfl ?_
    refine o_nil ?_
    refine f_seq ?_
    refine c_true rfl ?_
    refine c_exit ?_
    refine f_seq_exit ?_
    refine f_block_here ?_
    refine f_seq ?_
    refine c_region ?_
    refine o_y (y_move rfl) rfl ?_
    refine o_y (y_arith64 rfl rfl rfl (by omega)) rfl ?_
    refine o_y (y_assign rfl) rfl ?_
    refine o_nil ?_
    exact f_next (Ent.trans (by repeat (first | with_reducible exact Ent.nil | (apply Ent.one; focus (repeat (first | with_reducible exact Rem.here | apply Rem.there))))) back) (by repeat (first | exact trivial | refine ⟨rfl, ?_⟩)) (ih (i + 1, S, A) ⟨hl2, hA.mono (by omega)⟩ (by dsimp only; omega))
  case pos =>
  rw [hf]
  refine o_y (y_not rfl) rfl ?_
  refine o_nil ?_
  refine f_seq ?_
  refine c_false rfl ?_
  refine c_skip ?_
  refine f_seq ?_
  refine c_seq ?_
  obtain ⟨rs, s1, s2⟩ := star_at KA hxx
  have a1 := hA.di.low
  have a2 := hA.di.high
  have a3 := hA.di.loose
  have hA2 : AI (2 * i + 1) (S.act x).1 := hA.act hf (Nat.le_refl _)
  refine c_ent (Takes.ent_of (P := [Star (xs.map KA)]) (by repeat (first | with_reducible exact Takes.nil | (apply Takes.cons; focus (repeat (first | with_reducible exact Rem.here | apply Rem.there))))) s1) ?_
  simp only [List.append_eq, List.cons_append, List.nil_append, List.append_nil, tup]
  refine c_ent (M := [Blk mb (.cells ⟨S.doc.cells A⟩ 46 (0, 0)), Bkp false kb (.cells ⟨cs⟩ T fz), DRep d S, RowL S.doc A, RowW S.doc A, KA x, Star (rs.map KA)]) (by repeat (first | with_reducible exact Ent.nil | (apply Ent.one; focus (repeat (first | with_reducible exact Rem.here | apply Rem.there))))) ?_
  refine c_cut (X := MA × Nat) (fun t => [Blk t.2 (.cells ⟨(S.act x).1.doc.cells t.1⟩ 46 (0, 0)), Blk mb (.cells ⟨S.doc.cells A⟩ 46 (0, 0)), Bkp false kb (.cells ⟨cs⟩ T fz), DRep d S, RowL (S.act x).1.doc t.1, RowW (S.act x).1.doc t.1, KA x, Star (rs.map KA)])
    (fun t => [(1, .slice (some ⟨kb, ko, none⟩) xs.length ac), (5, .pointer (some ⟨d, 0, none⟩)), (7, .pointer (some ⟨mb, 0, none⟩)), (8, .int .i64 (i : Int)), (9, .pointer (some ⟨t.2, 0, none⟩)), (10, .int .i64 (S.act x).2)]) ?_ ?_
  ·
    refine pl_start [5, 9, 10] Try.mixed ?_; intro hd
    refine pl_lock (A := Bkp _ _ _) Rem.here rfl ?_ hd; intro hb0
    refine pl_lock (A := Bkp _ _ _) Rem.here rfl ?_ hd; intro hb1
    refine pl_take (i := 0) rfl (by kernel_rfl) (y_loadN rfl rfl rfl) ?_ hd; clear hd; intro hd
    refine pl_take (i := 1) rfl (by kernel_rfl) (y_move rfl) ?_ hd; clear hd; intro hd
    refine pl_take (i := 2) rfl (by kernel_rfl) (y_move rfl) ?_ hd; clear hd; intro hd
    refine pl_take (i := 3) rfl (by kernel_rfl) (y_indexAddr i rfl rfl rfl hl1) ?_ hd; clear hd; intro hd
    refine pl_take (i := 4) rfl (by kernel_rfl) (y_loadN rfl rfl hxg) ?_ hd; clear hd; intro hd
    refine pl_two (i := 5) (j := 9) (by kernel_rfl) rfl rfl ?_ ?_ hd
    · clear hd; intro hd
      refine o_call rfl (rdo_doc S A x (2 * i) (by omega) hA hf hxo) (by repeat (first | with_reducible exact Takes.nil | (apply Takes.cons; focus (repeat (first | with_reducible exact Rem.here | apply Rem.there))))) rfl ?_
      rintro _ _ ⟨A', rfl, rfl⟩
      simp only [List.append_eq, List.cons_append, List.nil_append, List.append_nil, tup]
      refine pl_back (by repeat (first | with_reducible exact Owes.nil | with_reducible refine Owes.same ?_ | with_reducible refine Owes.any ?_ | refine Owes.waived 5 (by kernel_rfl) ?_)) ?_ hd; clear hd; intro hd
      refine pl_take (i := 6) rfl (by kernel_rfl) (y_move rfl) ?_ hd; clear hd; intro hd
      refine pl_take (i := 7) rfl (by kernel_rfl) (y_extract rfl rfl) ?_ hd; clear hd; intro hd
      refine pl_take (i := 8) rfl (by kernel_rfl) (y_extract rfl rfl) ?_ hd; clear hd; intro hd
      refine pl_sole (i := 9) (by kernel_rfl) rfl ?_ hd; clear hd; intro hd
      refine o_alloc rfl (fun nb9 => ?_)
      refine pl_back (by repeat (first | with_reducible exact Owes.nil | with_reducible refine Owes.same ?_ | with_reducible refine Owes.any ?_ | refine Owes.waived 9 (by kernel_rfl) ?_ | refine Owes.waived 5 (by kernel_rfl) ?_)) ?_ hd; clear hd; intro hd
      refine pl_sole (i := 10) (by kernel_rfl) rfl ?_ hd; clear hd; intro hd
      refine o_store rfl rfl rfl frz0 ?_
      refine pl_back (by repeat (first | with_reducible exact Owes.nil | with_reducible refine Owes.same ?_ | with_reducible refine Owes.any ?_ | refine Owes.waived 10 (by kernel_rfl) ?_ | refine Owes.waived 9 (by kernel_rfl) ?_ | refine Owes.waived 5 (by kernel_rfl) ?_)) ?_ hd; clear hd; intro hd
      refine pl_take (i := 11) rfl (by kernel_rfl) (y_assign rfl) ?_ hd; clear hd; intro hd
      refine pl_done (by kernel_rfl) ?_ hd
      refine f_unlock (A := Bkp _ _ _) ?_
      refine f_unlock (A := Bkp _ _ _) ?_
      exact f_cut (A', nb9) (by repeat (first | with_reducible exact Ent.nil | (apply Ent.one; focus (repeat (first | with_reducible exact Rem.here | apply Rem.there))))) (by repeat (first | exact trivial | refine ⟨rfl, ?_⟩))
    · clear hd; intro hd
      refine o_alloc rfl (fun nb9 => ?_)
      refine pl_back (by repeat (first | with_reducible exact Owes.nil | with_reducible refine Owes.same ?_ | with_reducible refine Owes.any ?_ | refine Owes.waived 9 (by kernel_rfl) ?_)) ?_ hd; clear hd; intro hd
      refine pl_sole (i := 5) (by kernel_rfl) rfl ?_ hd; clear hd; intro hd
      refine o_call rfl (rdo_doc S A x (2 * i) (by omega) hA hf hxo) (by repeat (first | with_reducible exact Takes.nil | (apply Takes.cons; focus (repeat (first | with_reducible exact Rem.here | apply Rem.there))))) rfl ?_
      rintro _ _ ⟨A', rfl, rfl⟩
      simp only [List.append_eq, List.cons_append, List.nil_append, List.append_nil, tup]
      refine pl_back (by repeat (first | with_reducible exact Owes.nil | with_reducible refine Owes.same ?_ | with_reducible refine Owes.any ?_ | refine Owes.waived 5 (by kernel_rfl) ?_ | refine Owes.waived 9 (by kernel_rfl) ?_)) ?_ hd; clear hd; intro hd
      refine pl_take (i := 6) rfl (by kernel_rfl) (y_move rfl) ?_ hd; clear hd; intro hd
      refine pl_take (i := 7) rfl (by kernel_rfl) (y_extract rfl rfl) ?_ hd; clear hd; intro hd
      refine pl_take (i := 8) rfl (by kernel_rfl) (y_extract rfl rfl) ?_ hd; clear hd; intro hd
      refine pl_sole (i := 10) (by kernel_rfl) rfl ?_ hd; clear hd; intro hd
      refine o_store rfl rfl rfl frz0 ?_
      refine pl_back (by repeat (first | with_reducible exact Owes.nil | with_reducible refine Owes.same ?_ | with_reducible refine Owes.any ?_ | refine Owes.waived 10 (by kernel_rfl) ?_ | refine Owes.waived 5 (by kernel_rfl) ?_ | refine Owes.waived 9 (by kernel_rfl) ?_)) ?_ hd; clear hd; intro hd
      refine pl_take (i := 11) rfl (by kernel_rfl) (y_assign rfl) ?_ hd; clear hd; intro hd
      refine pl_done (by kernel_rfl) ?_ hd
      refine f_unlock (A := Bkp _ _ _) ?_
      refine f_unlock (A := Bkp _ _ _) ?_
      exact f_cut (A', nb9) (by repeat (first | with_reducible exact Ent.nil | (apply Ent.one; focus (repeat (first | with_reducible exact Rem.here | apply Rem.there))))) (by repeat (first | exact trivial | refine ⟨rfl, ?_⟩))
  rintro ⟨A', nb9⟩
  dsimp only
  refine c_seq ?_
  refine c_region ?_
  refine o_y (y_loadN rfl rfl rfl) rfl ?_
  refine o_store rfl rfl rfl frz0 ?_
  refine o_nil ?_
  refine f_seq ?_
  refine c_seq ?_
  refine c_region ?_
  refine o_y (y_move rfl) rfl ?_
  refine o_y (y_move rfl) rfl ?_
  refine o_y (y_move rfl) rfl ?_
  refine o_y (y_indexAddr i rfl rfl rfl hl1) rfl ?_
  refine o_y (y_loadN rfl rfl hxg) rfl ?_
  refine o_call rfl (do_d d S x hf hxo (by omega) (by omega) (by omega)) (by repeat (first | with_reducible exact Takes.nil | (apply Takes.cons; focus (repeat (first | with_reducible exact Rem.here | apply Rem.there))))) rfl ?_
  rintro _ _ ⟨rfl, rfl⟩
  simp only [List.append_eq, List.cons_append, List.nil_append, List.append_nil, tup]
  refine o_y (y_move rfl) rfl ?_
  refine o_y (y_neq_f rfl rfl (by omega)) rfl ?_
  refine o_y (y_move rfl) rfl ?_
  refine o_want rfl ?_
  refine o_y (y_move rfl) rfl ?_
  refine o_want rfl ?_
  refine o_y (y_loadN rfl rfl rfl) rfl ?_
  refine o_want rfl ?_
  refine o_call rfl (same_f d (S.act x).1 A' (2 * i + 1) (by omega) hA2) (by repeat (first | with_reducible exact Takes.nil | (apply Takes.cons; focus (repeat (first | with_reducible exact Rem.here | apply Rem.there))))) rfl ?_
  rintro _ _ ⟨rfl, rfl⟩
  simp only [List.append_eq, List.cons_append, List.nil_append, List.append_nil, tup]
  refine o_ent (Takes.ent_of (P := [KA x, Star (rs.map KA)]) (by repeat (first | with_reducible exact Takes.nil | (apply Takes.cons; focus (repeat (first | with_reducible exact Rem.here | apply Rem.there))))) s2) ?_
  try simp only [List.append_eq, List.cons_append, List.nil_append, List.append_nil, tup]
  refine o_want rfl ?_
  refine o_y (y_not rfl) rfl ?_
  refine o_y (y_pick_f rfl rfl) rfl ?_
  refine o_nil ?_
  refine f_seq ?_
  refine c_false rfl ?_
  refine c_skip ?_
  refine f_block ?_
  refine f_seq ?_
  refine c_region ?_
  refine o_y (y_move rfl) rfl ?_
  refine o_y (y_arith64 rfl rfl rfl (by omega)) rfl ?_
  refine o_y (y_assign rfl) rfl ?_
  refine o_nil ?_
  exact f_next (Ent.trans (by repeat (first | with_reducible exact Ent.nil | (apply Ent.one; focus (repeat (first | with_reducible exact Rem.here | apply Rem.there))))) back) (by repeat (first | exact trivial | refine ⟨rfl, ?_⟩)) (ih (i + 1, (S.act x).1, A') ⟨hl2, hA2.mono (by omega)⟩ (by dsimp only; omega))
end Go.Lun

/- The law that two disks are two, walked. -/
import Derived.Test.YtijahemmbooblaaRef11
import Derived.Test.YtijahemmbooblaaPl2
namespace Go.Lun
open Go.Proofs

set_option maxHeartbeats 6400000 in
theorem copies_f (a b c : Option Addr) (ac bc cc : Nat) (xs ys zs : List ActM) (hxs : ∀ x ∈ xs, x.ok) (hys : ∀ x ∈ ys, x.ok) (hzs : ∀ x ∈ zs, x.ok) :
    Fn Try.prog 6 [.slice a xs.length ac, .slice b ys.length bc, .slice c zs.length cc] [RowA false ActM.cells 6 a xs, Star (xs.map KA), RowA false ActM.cells 6 b ys, Star (ys.map KA), RowA false ActM.cells 6 c zs, Star (zs.map KA)] (fun v L => v = .bool true ∧ L = []) := by
  refine fn_start Try.func6 rfl rfl rfl fun F => ?_
  refine c_seq ?_
  refine c_region ?_
  refine o_y (y_assign rfl) rfl ?_
  refine o_nil ?_
  refine f_seq ?_
  refine c_seq ?_
  refine c_region ?_
  refine o_call rfl (new_d 20) (by repeat (first | with_reducible exact Takes.nil | (apply Takes.cons; focus (repeat (first | with_reducible exact Rem.here | apply Rem.there))))) rfl ?_
  rintro _ _ (⟨h, -⟩ | ⟨-, d, rfl, rfl⟩)
  · omega
  simp only [List.append_eq, List.cons_append, List.nil_append, List.append_nil, tup]
  refine o_y (y_move rfl) rfl ?_
  refine o_y (y_extract rfl rfl) rfl ?_
  refine o_y (y_extract rfl rfl) rfl ?_
  refine o_y (y_assign rfl) rfl ?_
  refine o_y (y_assign rfl) rfl ?_
  refine o_nil ?_
  refine f_seq ?_
  refine c_seq ?_
  refine c_seq ?_
  refine c_region ?_
  refine o_call rfl awake_f (by repeat (first | with_reducible exact Takes.nil | (apply Takes.cons; focus (repeat (first | with_reducible exact Rem.here | apply Rem.there))))) rfl ?_
  rintro _ _ ⟨rfl, rfl⟩
  simp only [List.append_eq, List.cons_append, List.nil_append, List.append_nil, tup]
  refine o_y (y_not rfl) rfl ?_
  refine o_y (y_move rfl) rfl ?_
  refine o_want rfl ?_
  refine o_y (y_move rfl) rfl ?_
  refine o_want rfl ?_
  refine o_y (y_neq_f rfl rfl (by omega)) rfl ?_
  refine o_y (y_pick_f rfl rfl) rfl ?_
  refine o_y (y_move rfl) rfl ?_
  refine o_want rfl ?_
  refine o_y (y_move rfl) rfl ?_
  refine o_want rfl ?_
  refine o_y (y_eql_nil rfl rfl) rfl ?_
  refine o_y (y_pick_f rfl rfl) rfl ?_
  refine o_nil ?_
  refine f_seq ?_
  refine c_false rfl ?_
  refine c_skip ?_
  refine f_seq ?_
  refine c_seq ?_
  refine c_region ?_
  refine o_y (y_build rfl) rfl ?_
  refine o_alloc rfl (fun nb => ?_)
  refine o_store rfl rfl rfl frz0 ?_
  refine o_nil ?_
  refine f_seq ?_
  refine c_seq ?_
  refine c_seq ?_
  refine c_region ?_
  refine o_y (y_assign rfl) rfl ?_
  refine o_nil ?_
  refine f_seq ?_
  refine c_block ?_
  rename Nat => mb
  rw [show ([.int .i64 20, .slice none 0 0, .slice none 0 0, .bool false, .int .i64 0] : List Value) = (DS.new 20).doc.cells ⟨none, 0, none, 0⟩ from rfl]
  refine c_ent (Ent.put (P := []) (by repeat (first | with_reducible exact Takes.nil | (apply Takes.cons; focus (repeat (first | with_reducible exact Rem.here | apply Rem.there))))) (show ∀ r, sep [] r → RowL (DS.new 20).doc ⟨none, 0, none, 0⟩ r from RowA.empty) (Ent.put (P := []) (by repeat (first | with_reducible exact Takes.nil | (apply Takes.cons; focus (repeat (first | with_reducible exact Rem.here | apply Rem.there))))) (show ∀ r, sep [] r → RowW (DS.new 20).doc ⟨none, 0, none, 0⟩ r from RowA.empty) (Ent.refl _))) ?_
  refine c_loop_inv (X := Nat × DS × MA) (fun y => y.1 ≤ 30 ∧ AI (0 + 2 * y.1) y.2.1) (fun y => 30 - y.1)
    (fun y => [DRep d y.2.1, Blk mb (.cells ⟨y.2.1.doc.cells y.2.2⟩ 46 (0, 0)), RowL y.2.1.doc y.2.2, RowW y.2.1.doc y.2.2, RowA false ActM.cells 6 a xs, Star (xs.map KA), RowA false ActM.cells 6 b ys, Star (ys.map KA), RowA false ActM.cells 6 c zs, Star (zs.map KA)])
    (fun y => [(0, .slice a xs.length ac), (7, .pointer (some ⟨d, 0, none⟩)), (9, .pointer (some ⟨mb, 0, none⟩)), (10, .int .i64 (y.1 : Int)), (1, .slice b ys.length bc), (2, .slice c zs.length cc)]) (0, DS.new 20, ⟨none, 0, none, 0⟩)
    ⟨Nat.zero_le _, AI.new (by decide) (by decide)⟩ (by repeat (first | with_reducible exact Ent.nil | (apply Ent.one; focus (repeat (first | with_reducible exact Rem.here | apply Rem.there))))) (by repeat (first | exact trivial | refine ⟨rfl, ?_⟩)) ?_
  rintro ⟨i, S0, A0⟩ ⟨hi, hA⟩ ih
  dsimp only at hi hA ih ⊢
  refine c_seq ?_
  refine c_seq ?_
  refine c_cut (X := Unit) (fun _ => [DRep d S0, Blk mb (.cells ⟨S0.doc.cells A0⟩ 46 (0, 0)), RowL S0.doc A0, RowW S0.doc A0, RowA false ActM.cells 6 a xs, Star (xs.map KA), RowA false ActM.cells 6 b ys, Star (ys.map KA), RowA false ActM.cells 6 c zs, Star (zs.map KA)])
    (fun _ => [(0, .slice a xs.length ac), (7, .pointer (some ⟨d, 0, none⟩)), (9, .pointer (some ⟨mb, 0, none⟩)), (10, .int .i64 (i : Int)), (1, .slice b ys.length bc), (2, .slice c zs.length cc), (37, .bool (decide (i < xs.length ∧ i < 30)))]) ?_ ?_
  · by_cases hl1 : i < xs.length
    · by_cases hl2 : i < 30
      · rw [decide_eq_true (show i < xs.length ∧ i < 30 from ⟨hl1, hl2⟩)]
        refine c_region ?_
        refine o_y (y_move rfl) rfl ?_
        refine o_y (y_move rfl) rfl ?_
        refine o_y (y_len_slice rfl) rfl ?_
        refine o_y (y_lss_t rfl rfl (by omega)) rfl ?_
        refine o_y (y_move rfl) rfl ?_
        refine o_want rfl ?_
        refine o_y (y_move rfl) rfl ?_
        refine o_want rfl ?_
        refine o_y (y_lss_t rfl rfl (by omega)) rfl ?_
        refine o_y (y_pick_t rfl rfl) rfl ?_
        refine o_nil ?_
        exact f_cut () (by repeat (first | with_reducible exact Ent.nil | (apply Ent.one; focus (repeat (first | with_reducible exact Rem.here | apply Rem.there))))) (by repeat (first | exact trivial | refine ⟨rfl, ?_⟩))
      · rw [decide_eq_false (fun h : i < xs.length ∧ i < 30 => hl2 h.2)]
        refine c_region ?_
        refine o_y (y_move rfl) rfl ?_
        refine o_y (y_move rfl) rfl ?_
        refine o_y (y_len_slice rfl) rfl ?_
        refine o_y (y_lss_t rfl rfl (by omega)) rfl ?_
        refine o_y (y_move rfl) rfl ?_
        refine o_want rfl ?_
        refine o_y (y_move rfl) rfl ?_
        refine o_want rfl ?_
        refine o_y (y_lss_f rfl rfl (by omega)) rfl ?_
        refine o_y (y_pick_t rfl rfl) rfl ?_
        refine o_nil ?_
        exact f_cut () (by repeat (first | with_reducible exact Ent.nil | (apply Ent.one; focus (repeat (first | with_reducible exact Rem.here | apply Rem.there))))) (by repeat (first | exact trivial | refine ⟨rfl, ?_⟩))
    · rw [decide_eq_false (fun h : i < xs.length ∧ i < 30 => hl1 h.1)]
      refine c_region ?_
      refine o_y (y_move rfl) rfl ?_
      refine o_y (y_move rfl) rfl ?_
      refine o_y (y_len_slice rfl) rfl ?_
      refine o_y (y_lss_f rfl rfl (by omega)) rfl ?_
      refine o_y (y_move rfl) rfl ?_
      refine o_skip rfl rfl ?_
      refine o_skip rfl rfl ?_
      refine o_y (y_pick_f rfl rfl) rfl ?_
      refine o_nil ?_
      exact f_cut () (by repeat (first | with_reducible exact Ent.nil | (apply Ent.one; focus (repeat (first | with_reducible exact Rem.here | apply Rem.there))))) (by repeat (first | exact trivial | refine ⟨rfl, ?_⟩))
  intro _
  by_cases hlt : i < xs.length ∧ i < 30
  case pos =>
    rw [decide_eq_true hlt]
    obtain ⟨hl1, hl2⟩ := hlt
    have hxx : xs[i]? = some xs[i] := List.getElem?_eq_getElem hl1
    have hxo : xs[i].ok := hxs _ (List.getElem_mem hl1)
    generalize xs[i] = x at hxx hxo
    have hne : xs ≠ [] := by intro h; rw [h] at hl1; exact absurd hl1 (by simp)
    refine c_open (A := RowA false ActM.cells 6 a xs) (h := RowA.opens (f := ActM.cells) hne) (by repeat (first | with_reducible exact Rem.here | apply Rem.there)) (fun y hy2 => ?_)
    obtain ⟨kb, ko, cs, T, fz⟩ := y
    obtain ⟨e1, e2⟩ := hy2
    dsimp only at e1 e2
    subst e1
    have hxg := act_get e2 hxx
    have back : ∀ {S0' : DS} {A0' : MA}, Ent [Bkp false kb (.cells ⟨cs⟩ T fz), DRep d S0', Blk mb (.cells ⟨S0'.doc.cells A0'⟩ 46 (0, 0)), RowL S0'.doc A0', RowW S0'.doc A0', Star (xs.map KA), RowA false ActM.cells 6 b ys, Star (ys.map KA), RowA false ActM.cells 6 c zs, Star (zs.map KA)]
        [DRep d S0', Blk mb (.cells ⟨S0'.doc.cells A0'⟩ 46 (0, 0)), RowL S0'.doc A0', RowW S0'.doc A0', RowA false ActM.cells 6 (some ⟨kb, ko, none⟩) xs, Star (xs.map KA), RowA false ActM.cells 6 b ys, Star (ys.map KA), RowA false ActM.cells 6 c zs, Star (zs.map KA)] := by
      intro S0' A0'
      refine Ent.one (by repeat (first | with_reducible exact Rem.here | apply Rem.there)) ?_
      refine Ent.one (by repeat (first | with_reducible exact Rem.here | apply Rem.there)) ?_
      refine Ent.one (by repeat (first | with_reducible exact Rem.here | apply Rem.there)) ?_
      refine Ent.one (by repeat (first | with_reducible exact Rem.here | apply Rem.there)) ?_
      refine Ent.put (P := [Bkp false kb (.cells ⟨cs⟩ T fz)]) (by repeat (first | with_reducible exact Takes.nil | (apply Takes.cons; focus (repeat (first | with_reducible exact Rem.here | apply Rem.there))))) (RowA.shut rfl e2) ?_
      repeat (first | with_reducible exact Ent.nil | (apply Ent.one; focus (repeat (first | with_reducible exact Rem.here | apply Rem.there))))
    simp only [List.append_eq, List.cons_append, List.nil_append, List.append_nil, tup]
    refine c_true rfl ?_
    refine c_skip ?_
    refine f_seq ?_
    refine c_seq ?_
    refine c_block ?_
    refine c_seq ?_
    refine c_region ?_
    refine o_y (y_move rfl) rfl ?_
    refine o_y (y_move rfl) rfl ?_
    refine o_y (y_indexAddr i rfl rfl rfl hl1) rfl ?_
    refine o_y (y_loadN rfl rfl hxg) rfl ?_
    refine o_call rfl (few_f x) (by repeat (first | with_reducible exact Takes.nil | (apply Takes.cons; focus (repeat (first | with_reducible exact Rem.here | apply Rem.there))))) rfl ?_
    rintro _ _ ⟨rfl, rfl⟩
    simp only [List.append_eq, List.cons_append, List.nil_append, List.append_nil, tup]
    by_cases hf : x.few = true
    case neg =>
      rw [Bool.not_eq_true] at hf
      rw [hf]
      refine o_nil ?_
      refine f_seq ?_
      refine c_false rfl ?_
      refine c_skip ?_
      refine f_block ?_
      refine f_seq ?_
      refine c_region ?_
      refine o_y (y_move rfl) rfl ?_
      refine o_y (y_arith64 rfl rfl rfl (by omega)) rfl ?_
      refine o_y (y_assign rfl) rfl ?_
      refine o_nil ?_
      exact f_next (Ent.trans (by repeat (first | with_reducible exact Ent.nil | (apply Ent.one; focus (repeat (first | with_reducible exact Rem.here | apply Rem.there))))) back) (by repeat (first | exact trivial | refine ⟨rfl, ?_⟩)) (ih (i + 1, S0, A0) ⟨hl2, hA.mono (by omega)⟩ (by dsimp only; omega))
    case pos =>
    rw [hf]
    refine o_nil ?_
    refine f_seq ?_
    refine c_true rfl ?_
    refine c_seq ?_
    obtain ⟨rs, s1, s2⟩ := star_at KA hxx
    have a1 := hA.di.low
    have a2 := hA.di.high
    have a3 := hA.di.loose
    have hA2 : AI (0 + 2 * i + 1) (S0.act x).1 := hA.act hf (Nat.le_refl _)
    refine c_ent (Takes.ent_of (P := [Star (xs.map KA)]) (by repeat (first | with_reducible exact Takes.nil | (apply Takes.cons; focus (repeat (first | with_reducible exact Rem.here | apply Rem.there))))) s1) ?_
    simp only [List.append_eq, List.cons_append, List.nil_append, List.append_nil, tup]
    refine c_ent (M := [Blk mb (.cells ⟨S0.doc.cells A0⟩ 46 (0, 0)), Bkp false kb (.cells ⟨cs⟩ T fz), DRep d S0, RowL S0.doc A0, RowW S0.doc A0, KA x, Star (rs.map KA), RowA false ActM.cells 6 b ys, Star (ys.map KA), RowA false ActM.cells 6 c zs, Star (zs.map KA)]) (by repeat (first | with_reducible exact Ent.nil | (apply Ent.one; focus (repeat (first | with_reducible exact Rem.here | apply Rem.there))))) ?_
    refine pl_start [5, 9] Try.mixed ?_; intro hd
    refine pl_lock (A := Bkp _ _ _) Rem.here rfl ?_ hd; intro hb0
    refine pl_lock (A := Bkp _ _ _) Rem.here rfl ?_ hd; intro hb1
    refine pl_take (i := 0) rfl (by kernel_rfl) (y_loadN rfl rfl rfl) ?_ hd; clear hd; intro hd
    refine pl_take (i := 1) rfl (by kernel_rfl) (y_move rfl) ?_ hd; clear hd; intro hd
    refine pl_take (i := 2) rfl (by kernel_rfl) (y_move rfl) ?_ hd; clear hd; intro hd
    refine pl_take (i := 3) rfl (by kernel_rfl) (y_indexAddr i rfl rfl rfl hl1) ?_ hd; clear hd; intro hd
    refine pl_take (i := 4) rfl (by kernel_rfl) (y_loadN rfl rfl hxg) ?_ hd; clear hd; intro hd
    refine pl_sole (i := 5) (by kernel_rfl) rfl ?_ hd; clear hd; intro hd
    refine o_call rfl (rdo_doc S0 A0 x (0 + 2 * i) (by omega) hA hf hxo) (by repeat (first | with_reducible exact Takes.nil | (apply Takes.cons; focus (repeat (first | with_reducible exact Rem.here | apply Rem.there))))) rfl ?_
    rintro _ _ ⟨A0', rfl, rfl⟩
    simp only [List.append_eq, List.cons_append, List.nil_append, List.append_nil, tup]
    refine pl_back (by repeat (first | with_reducible exact Owes.nil | with_reducible refine Owes.same ?_ | with_reducible refine Owes.any ?_ | refine Owes.waived 5 (by kernel_rfl) ?_)) ?_ hd; clear hd; intro hd
    refine pl_take (i := 6) rfl (by kernel_rfl) (y_move rfl) ?_ hd; clear hd; intro hd
    refine pl_take (i := 7) rfl (by kernel_rfl) (y_extract rfl rfl) ?_ hd; clear hd; intro hd
    refine pl_pure (i := 8) rfl (by kernel_rfl) (fun _ => y_extract rfl rfl) ?_ hd; clear hd; intro hd
    refine pl_sole (i := 9) (by kernel_rfl) rfl ?_ hd; clear hd; intro hd
    refine o_unlock (A := Bkp _ _ _) ?_
    refine o_unlock (A := Bkp _ _ _) ?_
    refine o_store rfl rfl rfl frz0 ?_
    refine pl_back (by repeat (first | with_reducible exact Owes.nil | with_reducible refine Owes.same ?_ | with_reducible refine Owes.any ?_ | refine Owes.waived 9 (by kernel_rfl) ?_ | refine Owes.waived 5 (by kernel_rfl) ?_)) ?_ hd; clear hd; intro hd
    refine pl_done (by kernel_rfl) ?_ hd
    refine f_seq ?_
    refine c_region ?_
    refine o_y (y_move rfl) rfl ?_
    refine o_y (y_move rfl) rfl ?_
    refine o_y (y_move rfl) rfl ?_
    refine o_y (y_indexAddr i rfl rfl rfl hl1) rfl ?_
    refine o_y (y_loadN rfl rfl hxg) rfl ?_
    refine o_call rfl (do_d d S0 x hf hxo (by omega) (by omega) (by omega)) (by repeat (first | with_reducible exact Takes.nil | (apply Takes.cons; focus (repeat (first | with_reducible exact Rem.here | apply Rem.there))))) rfl ?_
    rintro _ _ ⟨rfl, rfl⟩
    simp only [List.append_eq, List.cons_append, List.nil_append, List.append_nil, tup]
    refine o_ent (Takes.ent_of (P := [KA x, Star (rs.map KA)]) (by repeat (first | with_reducible exact Takes.nil | (apply Takes.cons; focus (repeat (first | with_reducible exact Rem.here | apply Rem.there))))) s2) ?_
    try simp only [List.append_eq, List.cons_append, List.nil_append, List.append_nil, tup]
    refine o_nil ?_
    refine f_block ?_
    refine f_seq ?_
    refine c_region ?_
    refine o_y (y_move rfl) rfl ?_
    refine o_y (y_arith64 rfl rfl rfl (by omega)) rfl ?_
    refine o_y (y_assign rfl) rfl ?_
    refine o_nil ?_
    exact f_next (Ent.trans (by repeat (first | with_reducible exact Ent.nil | (apply Ent.one; focus (repeat (first | with_reducible exact Rem.here | apply Rem.there))))) back) (by repeat (first | exact trivial | refine ⟨rfl, ?_⟩)) (ih (i + 1, (S0.act x).1, A0') ⟨hl2, hA2.mono (by omega)⟩ (by dsimp only; omega))
  case neg =>
  clear ih
  rw [decide_eq_false hlt]
  have a3 := hA.di.loose
  refine c_false rfl ?_
  refine c_exit ?_
  refine f_seq_exit ?_
  refine f_seq_exit ?_
  refine f_block_here ?_
  refine f_seq ?_
  refine c_seq ?_
  refine c_region ?_
  refine o_y (y_move rfl) rfl ?_
  refine o_call rfl (copy_d d S0 (by omega)) (by repeat (first | with_reducible exact Takes.nil | (apply Takes.cons; focus (repeat (first | with_reducible exact Rem.here | apply Rem.there))))) rfl ?_
  rintro _ _ ⟨o, rfl, rfl⟩
  simp only [List.append_eq, List.cons_append, List.nil_append, List.append_nil, tup]
  refine o_y (y_assign rfl) rfl ?_
  refine o_nil ?_
  refine f_seq ?_
  refine c_seq ?_
  refine c_seq ?_
  refine c_region ?_
  refine o_y (y_move rfl) rfl ?_
  refine o_y (y_eql_nil rfl rfl) rfl ?_
  refine o_nil ?_
  refine f_seq ?_
  refine c_false rfl ?_
  refine c_skip ?_
  refine f_seq ?_
  refine c_seq ?_
  refine c_region ?_
  refine o_y (y_loadN rfl rfl rfl) rfl ?_
  refine o_alloc rfl (fun nb => ?_)
  refine o_store rfl rfl rfl frz0 ?_
  refine o_nil ?_
  refine f_seq ?_
  refine c_seq ?_
  refine c_seq ?_
  refine c_region ?_
  refine o_y (y_assign rfl) rfl ?_
  refine o_nil ?_
  refine f_seq ?_
  refine c_block ?_
  rename Nat => nb
  have hA0 : AI 60 S0 := hA.mono (by omega)
  clear hA hi hlt a3
  refine c_ent (Ent.trans (M := [RowL S0.doc A0, RowW S0.doc A0, DRep d S0, DRep o S0, Blk mb (.cells ⟨S0.doc.cells A0⟩ 46 (0, 0)), Blk nb (.cells ⟨S0.doc.cells A0⟩ 46 (0, 0)), RowA false ActM.cells 6 b ys, Star (ys.map KA), RowA false ActM.cells 6 c zs, Star (zs.map KA)]) (by repeat (first | with_reducible exact Ent.nil | (apply Ent.one; focus (repeat (first | with_reducible exact Rem.here | apply Rem.there))))) (Ent.trans RowA.dup (Ent.trans (M := [RowW S0.doc A0, RowL S0.doc A0, RowL S0.doc A0, DRep d S0, DRep o S0, Blk mb (.cells ⟨S0.doc.cells A0⟩ 46 (0, 0)), Blk nb (.cells ⟨S0.doc.cells A0⟩ 46 (0, 0)), RowA false ActM.cells 6 b ys, Star (ys.map KA), RowA false ActM.cells 6 c zs, Star (zs.map KA)]) (by repeat (first | with_reducible exact Ent.nil | (apply Ent.one; focus (repeat (first | with_reducible exact Rem.here | apply Rem.there))))) RowA.dup))) ?_
  refine c_loop_inv (X := Nat × DS × MA) (fun y => y.1 ≤ 30 ∧ AI (60 + 2 * y.1) y.2.1) (fun y => 30 - y.1)
    (fun y => [DRep d y.2.1, Blk mb (.cells ⟨y.2.1.doc.cells y.2.2⟩ 46 (0, 0)), RowL y.2.1.doc y.2.2, RowW y.2.1.doc y.2.2, RowA false ActM.cells 6 b ys, Star (ys.map KA), DRep o S0, Blk nb (.cells ⟨S0.doc.cells A0⟩ 46 (0, 0)), RowL S0.doc A0, RowW S0.doc A0, RowA false ActM.cells 6 c zs, Star (zs.map KA)])
    (fun y => [(1, .slice b ys.length bc), (7, .pointer (some ⟨d, 0, none⟩)), (9, .pointer (some ⟨mb, 0, none⟩)), (13, .int .i64 (y.1 : Int)), (2, .slice c zs.length cc), (11, .pointer (some ⟨o, 0, none⟩)), (12, .pointer (some ⟨nb, 0, none⟩))]) (0, S0, A0)
    ⟨Nat.zero_le _, hA0⟩ (by repeat (first | with_reducible exact Ent.nil | (apply Ent.one; focus (repeat (first | with_reducible exact Rem.here | apply Rem.there))))) (by repeat (first | exact trivial | refine ⟨rfl, ?_⟩)) ?_
  rintro ⟨i, S1, A1⟩ ⟨hi, hA⟩ ih
  dsimp only at hi hA ih ⊢
  refine c_seq ?_
  refine c_seq ?_
  refine c_cut (X := Unit) (fun _ => [DRep d S1, Blk mb (.cells ⟨S1.doc.cells A1⟩ 46 (0, 0)), RowL S1.doc A1, RowW S1.doc A1, RowA false ActM.cells 6 b ys, Star (ys.map KA), DRep o S0, Blk nb (.cells ⟨S0.doc.cells A0⟩ 46 (0, 0)), RowL S0.doc A0, RowW S0.doc A0, RowA false ActM.cells 6 c zs, Star (zs.map KA)])
    (fun _ => [(1, .slice b ys.length bc), (7, .pointer (some ⟨d, 0, none⟩)), (9, .pointer (some ⟨mb, 0, none⟩)), (13, .int .i64 (i : Int)), (2, .slice c zs.length cc), (11, .pointer (some ⟨o, 0, none⟩)), (12, .pointer (some ⟨nb, 0, none⟩)), (72, .bool (decide (i < ys.length ∧ i < 30)))]) ?_ ?_
  · by_cases hl1 : i < ys.length
    · by_cases hl2 : i < 30
      · rw [decide_eq_true (show i < ys.length ∧ i < 30 from ⟨hl1, hl2⟩)]
        refine c_region ?_
        refine o_y (y_move rfl) rfl ?_
        refine o_y (y_move rfl) rfl ?_
        refine o_y (y_len_slice rfl) rfl ?_
        refine o_y (y_lss_t rfl rfl (by omega)) rfl ?_
        refine o_y (y_move rfl) rfl ?_
        refine o_want rfl ?_
        refine o_y (y_move rfl) rfl ?_
        refine o_want rfl ?_
        refine o_y (y_lss_t rfl rfl (by omega)) rfl ?_
        refine o_y (y_pick_t rfl rfl) rfl ?_
        refine o_nil ?_
        exact f_cut () (by repeat (first | with_reducible exact Ent.nil | (apply Ent.one; focus (repeat (first | with_reducible exact Rem.here | apply Rem.there))))) (by repeat (first | exact trivial | refine ⟨rfl, ?_⟩))
      · rw [decide_eq_false (fun h : i < ys.length ∧ i < 30 => hl2 h.2)]
        refine c_region ?_
        refine o_y (y_move rfl) rfl ?_
        refine o_y (y_move rfl) rfl ?_
        refine o_y (y_len_slice rfl) rfl ?_
        refine o_y (y_lss_t rfl rfl (by omega)) rfl ?_
        refine o_y (y_move rfl) rfl ?_
        refine o_want rfl ?_
        refine o_y (y_move rfl) rfl ?_
        refine o_want rfl ?_
        refine o_y (y_lss_f rfl rfl (by omega)) rfl ?_
        refine o_y (y_pick_t rfl rfl) rfl ?_
        refine o_nil ?_
        exact f_cut () (by repeat (first | with_reducible exact Ent.nil | (apply Ent.one; focus (repeat (first | with_reducible exact Rem.here | apply Rem.there))))) (by repeat (first | exact trivial | refine ⟨rfl, ?_⟩))
    · rw [decide_eq_false (fun h : i < ys.length ∧ i < 30 => hl1 h.1)]
      refine c_region ?_
      refine o_y (y_move rfl) rfl ?_
      refine o_y (y_move rfl) rfl ?_
      refine o_y (y_len_slice rfl) rfl ?_
      refine o_y (y_lss_f rfl rfl (by omega)) rfl ?_
      refine o_y (y_move rfl) rfl ?_
      refine o_skip rfl rfl ?_
      refine o_skip rfl rfl ?_
      refine o_y (y_pick_f rfl rfl) rfl ?_
      refine o_nil ?_
      exact f_cut () (by repeat (first | with_reducible exact Ent.nil | (apply Ent.one; focus (repeat (first | with_reducible exact Rem.here | apply Rem.there))))) (by repeat (first | exact trivial | refine ⟨rfl, ?_⟩))
  intro _
  by_cases hlt : i < ys.length ∧ i < 30
  case pos =>
    rw [decide_eq_true hlt]
    obtain ⟨hl1, hl2⟩ := hlt
    have hxx : ys[i]? = some ys[i] := List.getElem?_eq_getElem hl1
    have hxo : ys[i].ok := hys _ (List.getElem_mem hl1)
    generalize ys[i] = x at hxx hxo
    have hne : ys ≠ [] := by intro h; rw [h] at hl1; exact absurd hl1 (by simp)
    refine c_open (A := RowA false ActM.cells 6 b ys) (h := RowA.opens (f := ActM.cells) hne) (by repeat (first | with_reducible exact Rem.here | apply Rem.there)) (fun y hy2 => ?_)
    obtain ⟨kb, ko, cs, T, fz⟩ := y
    obtain ⟨e1, e2⟩ := hy2
    dsimp only at e1 e2
    subst e1
    have hxg := act_get e2 hxx
    have back : ∀ {S1' : DS} {A1' : MA}, Ent [Bkp false kb (.cells ⟨cs⟩ T fz), DRep d S1', Blk mb (.cells ⟨S1'.doc.cells A1'⟩ 46 (0, 0)), RowL S1'.doc A1', RowW S1'.doc A1', Star (ys.map KA), DRep o S0, Blk nb (.cells ⟨S0.doc.cells A0⟩ 46 (0, 0)), RowL S0.doc A0, RowW S0.doc A0, RowA false ActM.cells 6 c zs, Star (zs.map KA)]
        [DRep d S1', Blk mb (.cells ⟨S1'.doc.cells A1'⟩ 46 (0, 0)), RowL S1'.doc A1', RowW S1'.doc A1', RowA false ActM.cells 6 (some ⟨kb, ko, none⟩) ys, Star (ys.map KA), DRep o S0, Blk nb (.cells ⟨S0.doc.cells A0⟩ 46 (0, 0)), RowL S0.doc A0, RowW S0.doc A0, RowA false ActM.cells 6 c zs, Star (zs.map KA)] := by
      intro S1' A1'
      refine Ent.one (by repeat (first | with_reducible exact Rem.here | apply Rem.there)) ?_
      refine Ent.one (by repeat (first | with_reducible exact Rem.here | apply Rem.there)) ?_
      refine Ent.one (by repeat (first | with_reducible exact Rem.here | apply Rem.there)) ?_
      refine Ent.one (by repeat (first | with_reducible exact Rem.here | apply Rem.there)) ?_
      refine Ent.put (P := [Bkp false kb (.cells ⟨cs⟩ T fz)]) (by repeat (first | with_reducible exact Takes.nil | (apply Takes.cons; focus (repeat (first | with_reducible exact Rem.here | apply Rem.there))))) (RowA.shut rfl e2) ?_
      repeat (first | with_reducible exact Ent.nil | (apply Ent.one; focus (repeat (first | with_reducible exact Rem.here | apply Rem.there))))
    simp only [List.append_eq, List.cons_append, List.nil_append, List.append_nil, tup]
    refine c_true rfl ?_
    refine c_skip ?_
    refine f_seq ?_
    refine c_seq ?_
    refine c_block ?_
    refine c_seq ?_
    refine c_region ?_
    refine o_y (y_move rfl) rfl ?_
    refine o_y (y_move rfl) rfl ?_
    refine o_y (y_indexAddr i rfl rfl rfl hl1) rfl ?_
    refine o_y (y_loadN rfl rfl hxg) rfl ?_
    refine o_call rfl (few_f x) (by repeat (first | with_reducible exact Takes.nil | (apply Takes.cons; focus (repeat (first | with_reducible exact Rem.here | apply Rem.there))))) rfl ?_
    rintro _ _ ⟨rfl, rfl⟩
    simp only [List.append_eq, List.cons_append, List.nil_append, List.append_nil, tup]
    by_cases hf : x.few = true
    case neg =>
      rw [Bool.not_eq_true] at hf
      rw [hf]
      refine o_nil ?_
      refine f_seq ?_
      refine c_false rfl ?_
      refine c_skip ?_
      refine f_block ?_
      refine f_seq ?_
      refine c_region ?_
      refine o_y (y_move rfl) rfl ?_
      refine o_y (y_arith64 rfl rfl rfl (by omega)) rfl ?_
      refine o_y (y_assign rfl) rfl ?_
      refine o_nil ?_
      exact f_next (Ent.trans (by repeat (first | with_reducible exact Ent.nil | (apply Ent.one; focus (repeat (first | with_reducible exact Rem.here | apply Rem.there))))) back) (by repeat (first | exact trivial | refine ⟨rfl, ?_⟩)) (ih (i + 1, S1, A1) ⟨hl2, hA.mono (by omega)⟩ (by dsimp only; omega))
    case pos =>
    rw [hf]
    refine o_nil ?_
    refine f_seq ?_
    refine c_true rfl ?_
    refine c_seq ?_
    obtain ⟨rs, s1, s2⟩ := star_at KA hxx
    have a1 := hA.di.low
    have a2 := hA.di.high
    have a3 := hA.di.loose
    have hA2 : AI (60 + 2 * i + 1) (S1.act x).1 := hA.act hf (Nat.le_refl _)
    refine c_ent (Takes.ent_of (P := [Star (ys.map KA)]) (by repeat (first | with_reducible exact Takes.nil | (apply Takes.cons; focus (repeat (first | with_reducible exact Rem.here | apply Rem.there))))) s1) ?_
    simp only [List.append_eq, List.cons_append, List.nil_append, List.append_nil, tup]
    refine c_ent (M := [Blk mb (.cells ⟨S1.doc.cells A1⟩ 46 (0, 0)), Bkp false kb (.cells ⟨cs⟩ T fz), DRep d S1, RowL S1.doc A1, RowW S1.doc A1, KA x, Star (rs.map KA), DRep o S0, Blk nb (.cells ⟨S0.doc.cells A0⟩ 46 (0, 0)), RowL S0.doc A0, RowW S0.doc A0, RowA false ActM.cells 6 c zs, Star (zs.map KA)]) (by repeat (first | with_reducible exact Ent.nil | (apply Ent.one; focus (repeat (first | with_reducible exact Rem.here | apply Rem.there))))) ?_
    refine pl_start [5, 9] Try.mixed ?_; intro hd
    refine pl_lock (A := Bkp _ _ _) Rem.here rfl ?_ hd; intro hb0
    refine pl_lock (A := Bkp _ _ _) Rem.here rfl ?_ hd; intro hb1
    refine pl_take (i := 0) rfl (by kernel_rfl) (y_loadN rfl rfl rfl) ?_ hd; clear hd; intro hd
    refine pl_take (i := 1) rfl (by kernel_rfl) (y_move rfl) ?_ hd; clear hd; intro hd
    refine pl_take (i := 2) rfl (by kernel_rfl) (y_move rfl) ?_ hd; clear hd; intro hd
    refine pl_take (i := 3) rfl (by kernel_rfl) (y_indexAddr i rfl rfl rfl hl1) ?_ hd; clear hd; intro hd
    refine pl_take (i := 4) rfl (by kernel_rfl) (y_loadN rfl rfl hxg) ?_ hd; clear hd; intro hd
    refine pl_sole (i := 5) (by kernel_rfl) rfl ?_ hd; clear hd; intro hd
    refine o_call rfl (rdo_doc S1 A1 x (60 + 2 * i) (by omega) hA hf hxo) (by repeat (first | with_reducible exact Takes.nil | (apply Takes.cons; focus (repeat (first | with_reducible exact Rem.here | apply Rem.there))))) rfl ?_
    rintro _ _ ⟨A1', rfl, rfl⟩
    simp only [List.append_eq, List.cons_append, List.nil_append, List.append_nil, tup]
    refine pl_back (by repeat (first | with_reducible exact Owes.nil | with_reducible refine Owes.same ?_ | with_reducible refine Owes.any ?_ | refine Owes.waived 5 (by kernel_rfl) ?_)) ?_ hd; clear hd; intro hd
    refine pl_take (i := 6) rfl (by kernel_rfl) (y_move rfl) ?_ hd; clear hd; intro hd
    refine pl_take (i := 7) rfl (by kernel_rfl) (y_extract rfl rfl) ?_ hd; clear hd; intro hd
    refine pl_pure (i := 8) rfl (by kernel_rfl) (fun _ => y_extract rfl rfl) ?_ hd; clear hd; intro hd
    refine pl_sole (i := 9) (by kernel_rfl) rfl ?_ hd; clear hd; intro hd
    refine o_unlock (A := Bkp _ _ _) ?_
    refine o_unlock (A := Bkp _ _ _) ?_
    refine o_store rfl rfl rfl frz0 ?_
    refine pl_back (by repeat (first | with_reducible exact Owes.nil | with_reducible refine Owes.same ?_ | with_reducible refine Owes.any ?_ | refine Owes.waived 9 (by kernel_rfl) ?_ | refine Owes.waived 5 (by kernel_rfl) ?_)) ?_ hd; clear hd; intro hd
    refine pl_done (by kernel_rfl) ?_ hd
    refine f_seq ?_
    refine c_region ?_
    refine o_y (y_move rfl) rfl ?_
    refine o_y (y_move rfl) rfl ?_
    refine o_y (y_move rfl) rfl ?_
    refine o_y (y_indexAddr i rfl rfl rfl hl1) rfl ?_
    refine o_y (y_loadN rfl rfl hxg) rfl ?_
    refine o_call rfl (do_d d S1 x hf hxo (by omega) (by omega) (by omega)) (by repeat (first | with_reducible exact Takes.nil | (apply Takes.cons; focus (repeat (first | with_reducible exact Rem.here | apply Rem.there))))) rfl ?_
    rintro _ _ ⟨rfl, rfl⟩
    simp only [List.append_eq, List.cons_append, List.nil_append, List.append_nil, tup]
    refine o_ent (Takes.ent_of (P := [KA x, Star (rs.map KA)]) (by repeat (first | with_reducible exact Takes.nil | (apply Takes.cons; focus (repeat (first | with_reducible exact Rem.here | apply Rem.there))))) s2) ?_
    try simp only [List.append_eq, List.cons_append, List.nil_append, List.append_nil, tup]
    refine o_nil ?_
    refine f_block ?_
    refine f_seq ?_
    refine c_region ?_
    refine o_y (y_move rfl) rfl ?_
    refine o_y (y_arith64 rfl rfl rfl (by omega)) rfl ?_
    refine o_y (y_assign rfl) rfl ?_
    refine o_nil ?_
    exact f_next (Ent.trans (by repeat (first | with_reducible exact Ent.nil | (apply Ent.one; focus (repeat (first | with_reducible exact Rem.here | apply Rem.there))))) back) (by repeat (first | exact trivial | refine ⟨rfl, ?_⟩)) (ih (i + 1, (S1.act x).1, A1') ⟨hl2, hA2.mono (by omega)⟩ (by dsimp only; omega))
  case neg =>
  clear ih
  rw [decide_eq_false hlt]
  refine c_false rfl ?_
  refine c_exit ?_
  refine f_seq_exit ?_
  refine f_seq_exit ?_
  refine f_block_here ?_
  refine f_seq ?_
  refine c_seq ?_
  refine c_seq ?_
  refine c_region ?_
  refine o_y (y_assign rfl) rfl ?_
  refine o_nil ?_
  refine f_seq ?_
  refine c_block ?_
  have hA1 : AI 120 S1 := hA.mono (by omega)
  clear hA hi hlt
  refine c_loop_inv (X := Nat × DS × MA) (fun y => y.1 ≤ 30 ∧ AI (60 + 2 * y.1) y.2.1) (fun y => 30 - y.1)
    (fun y => [DRep o y.2.1, Blk nb (.cells ⟨y.2.1.doc.cells y.2.2⟩ 46 (0, 0)), RowL y.2.1.doc y.2.2, RowW y.2.1.doc y.2.2, RowA false ActM.cells 6 c zs, Star (zs.map KA), DRep d S1, Blk mb (.cells ⟨S1.doc.cells A1⟩ 46 (0, 0)), RowL S1.doc A1, RowW S1.doc A1])
    (fun y => [(2, .slice c zs.length cc), (11, .pointer (some ⟨o, 0, none⟩)), (12, .pointer (some ⟨nb, 0, none⟩)), (14, .int .i64 (y.1 : Int)), (7, .pointer (some ⟨d, 0, none⟩)), (9, .pointer (some ⟨mb, 0, none⟩))]) (0, S0, A0)
    ⟨Nat.zero_le _, hA0⟩ (by repeat (first | with_reducible exact Ent.nil | (apply Ent.one; focus (repeat (first | with_reducible exact Rem.here | apply Rem.there))))) (by repeat (first | exact trivial | refine ⟨rfl, ?_⟩)) ?_
  rintro ⟨i, S, A⟩ ⟨hi, hA⟩ ih
  dsimp only at hi hA ih ⊢
  refine c_seq ?_
  refine c_seq ?_
  refine c_cut (X := Unit) (fun _ => [DRep o S, Blk nb (.cells ⟨S.doc.cells A⟩ 46 (0, 0)), RowL S.doc A, RowW S.doc A, RowA false ActM.cells 6 c zs, Star (zs.map KA), DRep d S1, Blk mb (.cells ⟨S1.doc.cells A1⟩ 46 (0, 0)), RowL S1.doc A1, RowW S1.doc A1])
    (fun _ => [(2, .slice c zs.length cc), (11, .pointer (some ⟨o, 0, none⟩)), (12, .pointer (some ⟨nb, 0, none⟩)), (14, .int .i64 (i : Int)), (7, .pointer (some ⟨d, 0, none⟩)), (9, .pointer (some ⟨mb, 0, none⟩)), (102, .bool (decide (i < zs.length ∧ i < 30)))]) ?_ ?_
  · by_cases hl1 : i < zs.length
    · by_cases hl2 : i < 30
      · rw [decide_eq_true (show i < zs.length ∧ i < 30 from ⟨hl1, hl2⟩)]
        refine c_region ?_
        refine o_y (y_move rfl) rfl ?_
        refine o_y (y_move rfl) rfl ?_
        refine o_y (y_len_slice rfl) rfl ?_
        refine o_y (y_lss_t rfl rfl (by omega)) rfl ?_
        refine o_y (y_move rfl) rfl ?_
        refine o_want rfl ?_
        refine o_y (y_move rfl) rfl ?_
        refine o_want rfl ?_
        refine o_y (y_lss_t rfl rfl (by omega)) rfl ?_
        refine o_y (y_pick_t rfl rfl) rfl ?_
        refine o_nil ?_
        exact f_cut () (by repeat (first | with_reducible exact Ent.nil | (apply Ent.one; focus (repeat (first | with_reducible exact Rem.here | apply Rem.there))))) (by repeat (first | exact trivial | refine ⟨rfl, ?_⟩))
      · rw [decide_eq_false (fun h : i < zs.length ∧ i < 30 => hl2 h.2)]
        refine c_region ?_
        refine o_y (y_move rfl) rfl ?_
        refine o_y (y_move rfl) rfl ?_
        refine o_y (y_len_slice rfl) rfl ?_
        refine o_y (y_lss_t rfl rfl (by omega)) rfl ?_
        refine o_y (y_move rfl) rfl ?_
        refine o_want rfl ?_
        refine o_y (y_move rfl) rfl ?_
        refine o_want rfl ?_
        refine o_y (y_lss_f rfl rfl (by omega)) rfl ?_
        refine o_y (y_pick_t rfl rfl) rfl ?_
        refine o_nil ?_
        exact f_cut () (by repeat (first | with_reducible exact Ent.nil | (apply Ent.one; focus (repeat (first | with_reducible exact Rem.here | apply Rem.there))))) (by repeat (first | exact trivial | refine ⟨rfl, ?_⟩))
    · rw [decide_eq_false (fun h : i < zs.length ∧ i < 30 => hl1 h.1)]
      refine c_region ?_
      refine o_y (y_move rfl) rfl ?_
      refine o_y (y_move rfl) rfl ?_
      refine o_y (y_len_slice rfl) rfl ?_
      refine o_y (y_lss_f rfl rfl (by omega)) rfl ?_
      refine o_y (y_move rfl) rfl ?_
      refine o_skip rfl rfl ?_
      refine o_skip rfl rfl ?_
      refine o_y (y_pick_f rfl rfl) rfl ?_
      refine o_nil ?_
      exact f_cut () (by repeat (first | with_reducible exact Ent.nil | (apply Ent.one; focus (repeat (first | with_reducible exact Rem.here | apply Rem.there))))) (by repeat (first | exact trivial | refine ⟨rfl, ?_⟩))
  intro _
  by_cases hlt : i < zs.length ∧ i < 30
  case pos =>
    rw [decide_eq_true hlt]
    obtain ⟨hl1, hl2⟩ := hlt
    have hxx : zs[i]? = some zs[i] := List.getElem?_eq_getElem hl1
    have hxo : zs[i].ok := hzs _ (List.getElem_mem hl1)
    generalize zs[i] = x at hxx hxo
    have hne : zs ≠ [] := by intro h; rw [h] at hl1; exact absurd hl1 (by simp)
    refine c_open (A := RowA false ActM.cells 6 c zs) (h := RowA.opens (f := ActM.cells) hne) (by repeat (first | with_reducible exact Rem.here | apply Rem.there)) (fun y hy2 => ?_)
    obtain ⟨kb, ko, cs, T, fz⟩ := y
    obtain ⟨e1, e2⟩ := hy2
    dsimp only at e1 e2
    subst e1
    have hxg := act_get e2 hxx
    have back : ∀ {S' : DS} {A' : MA}, Ent [Bkp false kb (.cells ⟨cs⟩ T fz), DRep o S', Blk nb (.cells ⟨S'.doc.cells A'⟩ 46 (0, 0)), RowL S'.doc A', RowW S'.doc A', Star (zs.map KA), DRep d S1, Blk mb (.cells ⟨S1.doc.cells A1⟩ 46 (0, 0)), RowL S1.doc A1, RowW S1.doc A1]
        [DRep o S', Blk nb (.cells ⟨S'.doc.cells A'⟩ 46 (0, 0)), RowL S'.doc A', RowW S'.doc A', RowA false ActM.cells 6 (some ⟨kb, ko, none⟩) zs, Star (zs.map KA), DRep d S1, Blk mb (.cells ⟨S1.doc.cells A1⟩ 46 (0, 0)), RowL S1.doc A1, RowW S1.doc A1] := by
      intro S' A'
      refine Ent.one (by repeat (first | with_reducible exact Rem.here | apply Rem.there)) ?_
      refine Ent.one (by repeat (first | with_reducible exact Rem.here | apply Rem.there)) ?_
      refine Ent.one (by repeat (first | with_reducible exact Rem.here | apply Rem.there)) ?_
      refine Ent.one (by repeat (first | with_reducible exact Rem.here | apply Rem.there)) ?_
      refine Ent.put (P := [Bkp false kb (.cells ⟨cs⟩ T fz)]) (by repeat (first | with_reducible exact Takes.nil | (apply Takes.cons; focus (repeat (first | with_reducible exact Rem.here | apply Rem.there))))) (RowA.shut rfl e2) ?_
      repeat (first | with_reducible exact Ent.nil | (apply Ent.one; focus (repeat (first | with_reducible exact Rem.here | apply Rem.there))))
    simp only [List.append_eq, List.cons_append, List.nil_append, List.append_nil, tup]
    refine c_true rfl ?_
    refine c_skip ?_
    refine f_seq ?_
    refine c_seq ?_
    refine c_block ?_
    refine c_seq ?_
    refine c_region ?_
    refine o_y (y_move rfl) rfl ?_
    refine o_y (y_move rfl) rfl ?_
    refine o_y (y_indexAddr i rfl rfl rfl hl1) rfl ?_
    refine o_y (y_loadN rfl rfl hxg) rfl ?_
    refine o_call rfl (few_f x) (by repeat (first | with_reducible exact Takes.nil | (apply Takes.cons; focus (repeat (first | with_reducible exact Rem.here | apply Rem.there))))) rfl ?_
    rintro _ _ ⟨rfl, rfl⟩
    simp only [List.append_eq, List.cons_append, List.nil_append, List.append_nil, tup]
    by_cases hf : x.few = true
    case neg =>
      rw [Bool.not_eq_true] at hf
      rw [hf]
      refine o_nil ?_
      refine f_seq ?_
      refine c_false rfl ?_
      refine c_skip ?_
      refine f_block ?_
      refine f_seq ?_
      refine c_region ?_
      refine o_y (y_move rfl) rfl ?_
      refine o_y (y_arith64 rfl rfl rfl (by omega)) rfl ?_
      refine o_y (y_assign rfl) rfl ?_
      refine o_nil ?_
      exact f_next (Ent.trans (by repeat (first | with_reducible exact Ent.nil | (apply Ent.one; focus (repeat (first | with_reducible exact Rem.here | apply Rem.there))))) back) (by repeat (first | exact trivial | refine ⟨rfl, ?_⟩)) (ih (i + 1, S, A) ⟨hl2, hA.mono (by omega)⟩ (by dsimp only; omega))
    case pos =>
    rw [hf]
    refine o_nil ?_
    refine f_seq ?_
    refine c_true rfl ?_
    refine c_seq ?_
    obtain ⟨rs, s1, s2⟩ := star_at KA hxx
    have a1 := hA.di.low
    have a2 := hA.di.high
    have a3 := hA.di.loose
    have hA2 : AI (60 + 2 * i + 1) (S.act x).1 := hA.act hf (Nat.le_refl _)
    refine c_ent (Takes.ent_of (P := [Star (zs.map KA)]) (by repeat (first | with_reducible exact Takes.nil | (apply Takes.cons; focus (repeat (first | with_reducible exact Rem.here | apply Rem.there))))) s1) ?_
    simp only [List.append_eq, List.cons_append, List.nil_append, List.append_nil, tup]
    refine c_ent (M := [Blk nb (.cells ⟨S.doc.cells A⟩ 46 (0, 0)), Bkp false kb (.cells ⟨cs⟩ T fz), DRep o S, RowL S.doc A, RowW S.doc A, KA x, Star (rs.map KA), DRep d S1, Blk mb (.cells ⟨S1.doc.cells A1⟩ 46 (0, 0)), RowL S1.doc A1, RowW S1.doc A1]) (by repeat (first | with_reducible exact Ent.nil | (apply Ent.one; focus (repeat (first | with_reducible exact Rem.here | apply Rem.there))))) ?_
    refine pl_start [5, 9] Try.mixed ?_; intro hd
    refine pl_lock (A := Bkp _ _ _) Rem.here rfl ?_ hd; intro hb0
    refine pl_lock (A := Bkp _ _ _) Rem.here rfl ?_ hd; intro hb1
    refine pl_take (i := 0) rfl (by kernel_rfl) (y_loadN rfl rfl rfl) ?_ hd; clear hd; intro hd
    refine pl_take (i := 1) rfl (by kernel_rfl) (y_move rfl) ?_ hd; clear hd; intro hd
    refine pl_take (i := 2) rfl (by kernel_rfl) (y_move rfl) ?_ hd; clear hd; intro hd
    refine pl_take (i := 3) rfl (by kernel_rfl) (y_indexAddr i rfl rfl rfl hl1) ?_ hd; clear hd; intro hd
    refine pl_take (i := 4) rfl (by kernel_rfl) (y_loadN rfl rfl hxg) ?_ hd; clear hd; intro hd
    refine pl_sole (i := 5) (by kernel_rfl) rfl ?_ hd; clear hd; intro hd
    refine o_call rfl (rdo_doc S A x (60 + 2 * i) (by omega) hA hf hxo) (by repeat (first | with_reducible exact Takes.nil | (apply Takes.cons; focus (repeat (first | with_reducible exact Rem.here | apply Rem.there))))) rfl ?_
    rintro _ _ ⟨A', rfl, rfl⟩
    simp only [List.append_eq, List.cons_append, List.nil_append, List.append_nil, tup]
    refine pl_back (by repeat (first | with_reducible exact Owes.nil | with_reducible refine Owes.same ?_ | with_reducible refine Owes.any ?_ | refine Owes.waived 5 (by kernel_rfl) ?_)) ?_ hd; clear hd; intro hd
    refine pl_take (i := 6) rfl (by kernel_rfl) (y_move rfl) ?_ hd; clear hd; intro hd
    refine pl_take (i := 7) rfl (by kernel_rfl) (y_extract rfl rfl) ?_ hd; clear hd; intro hd
    refine pl_pure (i := 8) rfl (by kernel_rfl) (fun _ => y_extract rfl rfl) ?_ hd; clear hd; intro hd
    refine pl_sole (i := 9) (by kernel_rfl) rfl ?_ hd; clear hd; intro hd
    refine o_unlock (A := Bkp _ _ _) ?_
    refine o_unlock (A := Bkp _ _ _) ?_
    refine o_store rfl rfl rfl frz0 ?_
    refine pl_back (by repeat (first | with_reducible exact Owes.nil | with_reducible refine Owes.same ?_ | with_reducible refine Owes.any ?_ | refine Owes.waived 9 (by kernel_rfl) ?_ | refine Owes.waived 5 (by kernel_rfl) ?_)) ?_ hd; clear hd; intro hd
    refine pl_done (by kernel_rfl) ?_ hd
    refine f_seq ?_
    refine c_region ?_
    refine o_y (y_move rfl) rfl ?_
    refine o_y (y_move rfl) rfl ?_
    refine o_y (y_move rfl) rfl ?_
    refine o_y (y_indexAddr i rfl rfl rfl hl1) rfl ?_
    refine o_y (y_loadN rfl rfl hxg) rfl ?_
    refine o_call rfl (do_d o S x hf hxo (by omega) (by omega) (by omega)) (by repeat (first | with_reducible exact Takes.nil | (apply Takes.cons; focus (repeat (first | with_reducible exact Rem.here | apply Rem.there))))) rfl ?_
    rintro _ _ ⟨rfl, rfl⟩
    simp only [List.append_eq, List.cons_append, List.nil_append, List.append_nil, tup]
    refine o_ent (Takes.ent_of (P := [KA x, Star (rs.map KA)]) (by repeat (first | with_reducible exact Takes.nil | (apply Takes.cons; focus (repeat (first | with_reducible exact Rem.here | apply Rem.there))))) s2) ?_
    try simp only [List.append_eq, List.cons_append, List.nil_append, List.append_nil, tup]
    refine o_nil ?_
    refine f_block ?_
    refine f_seq ?_
    refine c_region ?_
    refine o_y (y_move rfl) rfl ?_
    refine o_y (y_arith64 rfl rfl rfl (by omega)) rfl ?_
    refine o_y (y_assign rfl) rfl ?_
    refine o_nil ?_
    exact f_next (Ent.trans (by repeat (first | with_reducible exact Ent.nil | (apply Ent.one; focus (repeat (first | with_reducible exact Rem.here | apply Rem.there))))) back) (by repeat (first | exact trivial | refine ⟨rfl, ?_⟩)) (ih (i + 1, (S.act x).1, A') ⟨hl2, hA2.mono (by omega)⟩ (by dsimp only; omega))
  case neg =>
  clear ih
  rw [decide_eq_false hlt]
  have hA2 : AI 120 S := hA.mono (by omega)
  refine c_false rfl ?_
  refine c_exit ?_
  refine f_seq_exit ?_
  refine f_seq_exit ?_
  refine f_block_here ?_
  refine f_seq ?_
  refine c_seq ?_
  refine c_region ?_
  refine o_y (y_move rfl) rfl ?_
  refine o_y (y_loadN rfl rfl rfl) rfl ?_
  refine o_call rfl (same_f d S1 A1 120 (by omega) hA1) (by repeat (first | with_reducible exact Takes.nil | (apply Takes.cons; focus (repeat (first | with_reducible exact Rem.here | apply Rem.there))))) rfl ?_
  rintro _ _ ⟨rfl, rfl⟩
  simp only [List.append_eq, List.cons_append, List.nil_append, List.append_nil, tup]
  refine o_y (y_move rfl) rfl ?_
  refine o_want rfl ?_
  refine o_y (y_move rfl) rfl ?_
  refine o_want rfl ?_
  refine o_y (y_loadN rfl rfl rfl) rfl ?_
  refine o_want rfl ?_
  refine o_call rfl (same_f o S A 120 (by omega) hA2) (by repeat (first | with_reducible exact Takes.nil | (apply Takes.cons; focus (repeat (first | with_reducible exact Rem.here | apply Rem.there))))) rfl ?_
  rintro _ _ ⟨rfl, rfl⟩
  simp only [List.append_eq, List.cons_append, List.nil_append, List.append_nil, tup]
  refine o_y (y_pick_t rfl rfl) rfl ?_
  refine o_y (y_assign rfl) rfl ?_
  refine o_nil ?_
  refine f_seq ?_
  refine c_ret ?_
  exact f_ent Ent.nil (f_ret rfl ⟨rfl, rfl⟩)
end Go.Lun

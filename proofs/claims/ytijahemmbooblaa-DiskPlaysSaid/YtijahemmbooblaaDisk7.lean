/- The disk's Crash, walked. -/
import Derived.Test.YtijahemmbooblaaDisk6
namespace Go.Lun
open Go.Proofs

theorem crash_d (d : Nat) (S : DS) (a : Option Addr) (cap : Nat) (q : Bool) (ks : List TK) (hk : ks.length ≤ 1000000) (hsec : ∀ k ∈ ks, k.sec < 256) (hn : S.loose.length ≤ 1000000) :
    Fn Try.prog 16 [.pointer (some ⟨d, 0, none⟩), .slice a ks.length cap] [DRep d S, RowA q TK.cells 2 a ks]
      (fun v L => v = .tuple ⟨[]⟩ ∧ L = [DRep d (S.crash ks), RowA q TK.cells 2 a ks]) := by
  refine fn_open (A := DRep d S) Rem.here (fun x hx => ?_)
  obtain ⟨lm, nm, la, lc, ws⟩ := x
  have hwl : ws.length = S.loose.length := by rw [← hx.abs, List.length_map]
  refine fn_open (A := PM lm S.last) (.there .here) (fun y hy => ?_)
  obtain ⟨es, ck⟩ := y
  simp only [List.append_eq, List.cons_append, List.nil_append, List.append_nil, tup]
  refine fn_start Try.func16 rfl rfl rfl fun F => ?_
  refine c_seq ?_
  refine c_seq ?_
  refine c_region ?_
  refine o_y (y_move rfl) rfl ?_
  refine o_y (y_len_slice rfl) rfl ?_
  refine o_y (y_move rfl) rfl ?_
  refine o_nil ?_
  refine f_seq ?_
  refine c_block ?_
  refine c_loop_inv (X := Nat × List PE × Nat) (fun x => x.1 ≤ ks.length ∧ PMok x.2.1 x.2.2 ((ks.take x.1).foldl DS.keep S).last) (fun x => ks.length - x.1)
        (fun x => [Blk d (dobj S.most S.pages lm (.slice la ws.length lc) nm S.fuse S.burns), Blk lm (.map (pents x.2.1) x.2.2), Star (x.2.1.map PE.asrt), Sl 68 2 la ws.length lc (wcells ws), Star (ws.map WE.asrt), RowA q TK.cells 2 a ks, PM nm S.now])
        (fun x => [(0, .pointer (some ⟨d, 0, none⟩)), (9, .slice a ks.length cap), (10, .int .i64 (ks.length : Int)), (11, .int .i64 (x.1 : Int))]) (0, es, ck) ⟨Nat.zero_le _, hy⟩ (by repeat (first | with_reducible exact Ent.nil | (apply Ent.one; focus (repeat (first | with_reducible exact Rem.here | apply Rem.there))))) (by repeat (first | exact trivial | refine ⟨rfl, ?_⟩)) ?_
  rintro ⟨i, es, ck⟩ ⟨hi, hy⟩ ih
  dsimp only at hi hy ih ⊢
  by_cases hlt : i < ks.length
  case neg =>
    have hi' : i = ks.length := by omega
    subst hi'
    rw [List.take_length] at hy
    refine c_seq ?_
    refine c_region ?_
    refine o_y (y_lss_f rfl rfl (by omega)) rfl ?_
    refine o_nil ?_
    refine f_seq ?_
    refine c_seq ?_
    refine c_false rfl ?_
    refine c_exit ?_
    refine f_seq_exit ?_
    refine f_seq_exit ?_
    refine f_block_here ?_
    refine f_seq ?_
    refine c_seq ?_
    refine c_region ?_
    refine o_y (y_move rfl) rfl ?_
    refine o_y (y_nilCheck rfl) rfl ?_
    refine o_y (y_fieldAddr0 rfl) rfl ?_
    refine o_store rfl rfl rfl frz0 ?_
    refine o_nil ?_
    refine f_seq ?_
    refine c_region ?_
    refine o_y (y_move rfl) rfl ?_
    refine o_call rfl (done_f d S.most S.pages S.fuse lm nm ws.length lc la false S.now) (by repeat (first | with_reducible exact Takes.nil | (apply Takes.cons; focus (repeat (first | with_reducible exact Rem.here | apply Rem.there))))) rfl ?_
    rintro _ _ ⟨rfl, rfl⟩
    simp only [List.append_eq, List.cons_append, List.nil_append, List.append_nil, tup]
    refine o_nil ?_
    refine f_ent ?_ (f_end rfl ⟨rfl, rfl⟩)
    have hcr : (S.crash ks).most = S.most ∧ (S.crash ks).pages = S.pages ∧ (S.crash ks).fuse = S.fuse := by
      have : ∀ (ks : List TK) (S : DS), (ks.foldl DS.keep S).most = S.most ∧ (ks.foldl DS.keep S).pages = S.pages ∧ (ks.foldl DS.keep S).fuse = S.fuse := by
        intro ks
        induction ks with
        | nil => intro S; exact ⟨rfl, rfl, rfl⟩
        | cons k ks ih =>
          intro S
          have h1 : (S.keep k).most = S.most ∧ (S.keep k).pages = S.pages ∧ (S.keep k).fuse = S.fuse := by
            unfold DS.keep; split
            · split <;> exact ⟨rfl, rfl, rfl⟩
            · exact ⟨rfl, rfl, rfl⟩
          rw [List.foldl_cons]
          obtain ⟨a, b, c⟩ := ih (S.keep k)
          exact ⟨a.trans h1.1, b.trans h1.2.1, c.trans h1.2.2⟩
      exact this ks S
    refine (Ent.shut (A := PM lm (ks.foldl DS.keep S).last) (by repeat (first | with_reducible exact Takes.nil | (apply Takes.cons; focus (repeat (first | with_reducible exact Rem.here | apply Rem.there))))) (PM.shut hy)).trans ?_
    refine (Ent.shut (A := Sl 68 2 none 0 0 []) (P := []) (by repeat (first | with_reducible exact Takes.nil | (apply Takes.cons; focus (repeat (first | with_reducible exact Rem.here | apply Rem.there))))) Sl.shut_nil).trans ?_
    refine (Ent.shut (A := Star (([] : List WE).map WE.asrt)) (P := []) (by repeat (first | with_reducible exact Takes.nil | (apply Takes.cons; focus (repeat (first | with_reducible exact Rem.here | apply Rem.there))))) (fun _ _ => trivial)).trans ?_
    refine Ent.put (by repeat (first | with_reducible exact Takes.nil | (apply Takes.cons; focus (repeat (first | with_reducible exact Rem.here | apply Rem.there))))) (DRep.mk (S := S.crash ks) [] ⟨rfl, by simp⟩ ?_ ?_ ?_) ?_
    rotate_left 3
    · repeat (first | with_reducible exact Ent.nil | (apply Ent.one; focus (repeat (first | with_reducible exact Rem.here | apply Rem.there))))
    · exact ⟨hcr.1.symm, hcr.2.1.symm, hcr.2.2.symm, rfl, rfl, rfl⟩
    · rfl
    · rfl
  case pos =>
    have hkk : ks[i]? = some ks[i] := List.getElem?_eq_getElem hlt
    have hsc : ks[i].sec < 256 := hsec _ (List.getElem_mem hlt)
    generalize ks[i] = k at hkk hsc
    have hkeep : ((ks.take (i + 1)).foldl DS.keep S) = ((ks.take i).foldl DS.keep S).keep k := by rw [take_snoc' hkk, List.foldl_append]; rfl
    have hne : ks ≠ [] := by intro e; rw [e] at hlt; exact absurd hlt (by simp)
    refine c_open (h := RowA.opens hne) (by repeat (first | with_reducible exact Rem.here | apply Rem.there)) (fun y hy2 => ?_)
    obtain ⟨kb, ko, cs, T, fz⟩ := y
    obtain ⟨e1, e2⟩ := hy2
    dsimp only at e1 e2
    subst e1
    have hg : getN cs ko (ks.length * 2) = some (tcells ks) := e2
    simp only [List.append_eq, List.cons_append, List.nil_append, List.append_nil, tup]
    refine c_seq ?_
    refine c_region ?_
    refine o_y (y_lss_t rfl rfl (by omega)) rfl ?_
    refine o_nil ?_
    refine f_seq ?_
    refine c_seq ?_
    refine c_true rfl ?_
    refine c_skip ?_
    refine f_seq ?_
    refine c_seq ?_
    refine c_block ?_
    refine c_seq ?_
    refine c_region ?_
    refine o_y (y_indexAddr i rfl rfl rfl hlt) rfl ?_
    refine o_y (y_loadN rfl rfl (getN_sub hg (tcells_get hkk))) rfl ?_
    refine o_alloc rfl (fun nb => ?_)
    refine o_store rfl rfl rfl frz0 ?_
    refine o_nil ?_
    refine f_seq ?_
    refine c_seq ?_
    refine c_seq ?_
    rename Nat => kx
    have hlo := keep_loose (ks.take i) S
    have hnext : ∀ es' ck', PMok es' ck' (((ks.take i).foldl DS.keep S).keep k).last → CodeJ _ _ _ _ _ _ _ _ := fun es' ck' h => ih (i + 1, es', ck') ⟨hlt, by dsimp only; rw [hkeep]; exact h⟩ (by dsimp only; omega)
    dsimp only at hnext
    by_cases h0 : 0 ≤ k.wr
    case neg =>
      have hko := keep_out (S := (ks.take i).foldl DS.keep S) (k := k) (by rw [hlo]; omega)
      refine pl_start [] Try.mixed ?_; intro hd
      refine pl_lock (A := Blk _ _) Rem.here rfl ?_ hd; intro hb0
      refine pl_lock (A := Blk _ _) (Rem.there Rem.here) rfl ?_ hd; intro hb1
      refine pl_take (i := 0) rfl (by kernel_rfl) (y_fieldAddr0 rfl) ?_ hd; clear hd; intro hd
      refine pl_take (i := 1) rfl (by kernel_rfl) (y_load rfl rfl rfl) ?_ hd; clear hd; intro hd
      refine pl_take (i := 2) rfl (by kernel_rfl) (y_lss_t rfl rfl (by omega)) ?_ hd; clear hd; intro hd
      refine pl_take (i := 3) rfl (by kernel_rfl) (y_move rfl) ?_ hd; clear hd; intro hd
      refine pl_skip (i := 4) rfl (by kernel_rfl) rfl ?_ hd; clear hd; intro hd
      refine pl_skip (i := 5) rfl (by kernel_rfl) rfl ?_ hd; clear hd; intro hd
      refine pl_skip (i := 6) rfl (by kernel_rfl) rfl ?_ hd; clear hd; intro hd
      refine pl_skip (i := 7) rfl (by kernel_rfl) rfl ?_ hd; clear hd; intro hd
      refine pl_skip (i := 8) rfl (by kernel_rfl) rfl ?_ hd; clear hd; intro hd
      refine pl_skip (i := 9) rfl (by kernel_rfl) rfl ?_ hd; clear hd; intro hd
      refine pl_skip (i := 10) rfl (by kernel_rfl) rfl ?_ hd; clear hd; intro hd
      refine pl_skip (i := 11) rfl (by kernel_rfl) rfl ?_ hd; clear hd; intro hd
      refine pl_take (i := 12) rfl (by kernel_rfl) (y_pick_t rfl rfl) ?_ hd; clear hd; intro hd
      refine pl_done (by kernel_rfl) ?_ hd
      refine f_unlock (A := Blk _ _) ?_
      refine f_unlock (A := Blk _ _) ?_
      refine f_seq ?_
      refine c_true rfl ?_
      refine c_exit ?_
      refine f_seq_exit ?_
      refine f_block_here ?_
      refine f_seq ?_
      refine c_region ?_
      refine o_y (y_arith64 rfl rfl rfl (by omega)) rfl ?_
      refine o_y (y_move rfl) rfl ?_
      refine o_nil ?_
      refine f_next ?_ ?_ (hnext es ck (by rw [hko]; exact hy))
      · refine (Ent.shut (A := RowA q TK.cells 2 (some ⟨kb, ko, none⟩) ks) (by repeat (first | with_reducible exact Takes.nil | (apply Takes.cons; focus (repeat (first | with_reducible exact Rem.here | apply Rem.there))))) (RowA.shut rfl e2)).trans ?_
        repeat (first | with_reducible exact Ent.nil | (apply Ent.one; focus (repeat (first | with_reducible exact Rem.here | apply Rem.there))))
      · repeat (first | exact trivial | refine ⟨rfl, ?_⟩)
    case pos =>
    by_cases h1 : k.wr < ws.length
    case neg =>
      have hko := keep_out (S := (ks.take i).foldl DS.keep S) (k := k) (by rw [hlo]; omega)
      refine pl_start [] Try.mixed ?_; intro hd
      refine pl_lock (A := Blk _ _) Rem.here rfl ?_ hd; intro hb0
      refine pl_lock (A := Blk _ _) (Rem.there Rem.here) rfl ?_ hd; intro hb1
      refine pl_take (i := 0) rfl (by kernel_rfl) (y_fieldAddr0 rfl) ?_ hd; clear hd; intro hd
      refine pl_take (i := 1) rfl (by kernel_rfl) (y_load rfl rfl rfl) ?_ hd; clear hd; intro hd
      refine pl_take (i := 2) rfl (by kernel_rfl) (y_lss_f rfl rfl (by omega)) ?_ hd; clear hd; intro hd
      refine pl_take (i := 3) rfl (by kernel_rfl) (y_move rfl) ?_ hd; clear hd; intro hd
      refine pl_want (i := 4) rfl (by kernel_rfl) rfl (y_fieldAddr0 rfl) ?_ hd; clear hd; intro hd
      refine pl_want (i := 5) rfl (by kernel_rfl) rfl (y_load rfl rfl rfl) ?_ hd; clear hd; intro hd
      refine pl_want (i := 6) rfl (by kernel_rfl) rfl (y_move rfl) ?_ hd; clear hd; intro hd
      refine pl_want (i := 7) rfl (by kernel_rfl) rfl (y_nilCheck rfl) ?_ hd; clear hd; intro hd
      refine pl_want (i := 8) rfl (by kernel_rfl) rfl (y_fieldAddr0 rfl) ?_ hd; clear hd; intro hd
      refine pl_want (i := 9) rfl (by kernel_rfl) rfl (y_load rfl rfl rfl) ?_ hd; clear hd; intro hd
      refine pl_want (i := 10) rfl (by kernel_rfl) rfl (y_len_slice rfl) ?_ hd; clear hd; intro hd
      refine pl_want (i := 11) rfl (by kernel_rfl) rfl (y_geq_t rfl rfl (by omega)) ?_ hd; clear hd; intro hd
      refine pl_take (i := 12) rfl (by kernel_rfl) (y_pick_f rfl rfl) ?_ hd; clear hd; intro hd
      refine pl_done (by kernel_rfl) ?_ hd
      refine f_unlock (A := Blk _ _) ?_
      refine f_unlock (A := Blk _ _) ?_
      refine f_seq ?_
      refine c_true rfl ?_
      refine c_exit ?_
      refine f_seq_exit ?_
      refine f_block_here ?_
      refine f_seq ?_
      refine c_region ?_
      refine o_y (y_arith64 rfl rfl rfl (by omega)) rfl ?_
      refine o_y (y_move rfl) rfl ?_
      refine o_nil ?_
      refine f_next ?_ ?_ (hnext es ck (by rw [hko]; exact hy))
      · refine (Ent.shut (A := RowA q TK.cells 2 (some ⟨kb, ko, none⟩) ks) (by repeat (first | with_reducible exact Takes.nil | (apply Takes.cons; focus (repeat (first | with_reducible exact Rem.here | apply Rem.there))))) (RowA.shut rfl e2)).trans ?_
        repeat (first | with_reducible exact Ent.nil | (apply Ent.one; focus (repeat (first | with_reducible exact Rem.here | apply Rem.there))))
      · repeat (first | exact trivial | refine ⟨rfl, ?_⟩)
    case pos =>
    obtain ⟨wi, hwi⟩ : ∃ wi : Nat, k.wr = (wi : Int) := ⟨k.wr.toNat, by omega⟩
    have hwlt : wi < ws.length := by omega
    have hww : ws[wi]? = some ws[wi] := List.getElem?_eq_getElem hwlt
    have hwb : ws[wi].bs.length = 256 := hx.len _ (List.getElem_mem hwlt)
    generalize ws[wi] = w at hww hwb
    have hkp := keep_in (S := (ks.take i).foldl DS.keep S) (w := w.abs) hwi (by rw [hlo, ← hx.abs, List.getElem?_map, hww]; rfl)
    refine pl_start [] Try.mixed ?_; intro hd
    refine pl_lock (A := Blk _ _) Rem.here rfl ?_ hd; intro hb0
    refine pl_lock (A := Blk _ _) (Rem.there Rem.here) rfl ?_ hd; intro hb1
    refine pl_take (i := 0) rfl (by kernel_rfl) (y_fieldAddr0 rfl) ?_ hd; clear hd; intro hd
    refine pl_take (i := 1) rfl (by kernel_rfl) (y_load rfl rfl rfl) ?_ hd; clear hd; intro hd
    refine pl_take (i := 2) rfl (by kernel_rfl) (y_lss_f rfl rfl (by omega)) ?_ hd; clear hd; intro hd
    refine pl_take (i := 3) rfl (by kernel_rfl) (y_move rfl) ?_ hd; clear hd; intro hd
    refine pl_want (i := 4) rfl (by kernel_rfl) rfl (y_fieldAddr0 rfl) ?_ hd; clear hd; intro hd
    refine pl_want (i := 5) rfl (by kernel_rfl) rfl (y_load rfl rfl rfl) ?_ hd; clear hd; intro hd
    refine pl_want (i := 6) rfl (by kernel_rfl) rfl (y_move rfl) ?_ hd; clear hd; intro hd
    refine pl_want (i := 7) rfl (by kernel_rfl) rfl (y_nilCheck rfl) ?_ hd; clear hd; intro hd
    refine pl_want (i := 8) rfl (by kernel_rfl) rfl (y_fieldAddr0 rfl) ?_ hd; clear hd; intro hd
    refine pl_want (i := 9) rfl (by kernel_rfl) rfl (y_load rfl rfl rfl) ?_ hd; clear hd; intro hd
    refine pl_want (i := 10) rfl (by kernel_rfl) rfl (y_len_slice rfl) ?_ hd; clear hd; intro hd
    refine pl_want (i := 11) rfl (by kernel_rfl) rfl (y_geq_f rfl rfl (by omega)) ?_ hd; clear hd; intro hd
    refine pl_take (i := 12) rfl (by kernel_rfl) (y_pick_f rfl rfl) ?_ hd; clear hd; intro hd
    refine pl_done (by kernel_rfl) ?_ hd
    refine f_unlock (A := Blk _ _) ?_
    refine f_unlock (A := Blk _ _) ?_
    refine f_seq ?_
    refine c_false rfl ?_
    refine c_skip ?_
    refine f_seq ?_
    refine c_seq ?_
    refine c_openSl (by repeat (first | with_reducible exact Rem.here | apply Rem.there)) (fun _ _ h _ => absurd h (by omega)) (fun rb rs hl e1 h2 h3 => ?_)
    subst e1
    refine pl_start [8, 9] Try.mixed ?_; intro hd
    refine pl_lock (A := Blk _ _) Rem.here rfl ?_ hd; intro hb0
    refine pl_lock (A := Blk _ _) Rem.here rfl ?_ hd; intro hb1
    refine pl_lock (A := Blk _ _) Rem.here rfl ?_ hd; intro hb2
    refine pl_take (i := 0) rfl (by kernel_rfl) (y_move rfl) ?_ hd; clear hd; intro hd
    refine pl_take (i := 1) rfl (by kernel_rfl) (y_nilCheck rfl) ?_ hd; clear hd; intro hd
    refine pl_take (i := 2) rfl (by kernel_rfl) (y_fieldAddr0 rfl) ?_ hd; clear hd; intro hd
    refine pl_take (i := 3) rfl (by kernel_rfl) (y_load rfl rfl rfl) ?_ hd; clear hd; intro hd
    refine pl_take (i := 4) rfl (by kernel_rfl) (y_fieldAddr0 rfl) ?_ hd; clear hd; intro hd
    refine pl_take (i := 5) rfl (by kernel_rfl) (y_load rfl rfl rfl) ?_ hd; clear hd; intro hd
    refine pl_take (i := 6) rfl (by kernel_rfl) (y_indexAddr wi rfl rfl hwi hwlt) ?_ hd; clear hd; intro hd
    refine pl_take (i := 7) rfl (by kernel_rfl) (y_loadN rfl rfl (by rw [Nat.zero_add]; exact wcells_get hww)) ?_ hd; clear hd; intro hd
    refine pl_sole (i := 8) (by kernel_rfl) rfl ?_ hd; clear hd; intro hd
    refine o_alloc rfl (fun nb => ?_)
    refine pl_back (by repeat (first | with_reducible exact Owes.nil | with_reducible refine Owes.same ?_ | with_reducible refine Owes.any ?_ | refine Owes.waived 8 (by kernel_rfl) ?_)) ?_ hd; clear hd; intro hd
    refine pl_sole (i := 9) (by kernel_rfl) rfl ?_ hd; clear hd; intro hd
    refine o_store rfl rfl rfl frz0 ?_
    refine pl_back (by repeat (first | with_reducible exact Owes.nil | with_reducible refine Owes.same ?_ | with_reducible refine Owes.any ?_ | refine Owes.waived 9 (by kernel_rfl) ?_ | refine Owes.waived 8 (by kernel_rfl) ?_)) ?_ hd; clear hd; intro hd
    refine pl_done (by kernel_rfl) ?_ hd
    refine f_unlock (A := Blk _ _) ?_
    refine f_unlock (A := Blk _ _) ?_
    refine f_unlock (A := Blk _ _) ?_
    rename Nat => nw
    refine f_seq ?_
    refine c_seq ?_
    obtain ⟨rws, hw1, hw2⟩ := we_open hww
    refine pl_start [7] Try.mixed ?_; intro hd
    refine pl_lock (A := Blk _ _) (Rem.there (Rem.there Rem.here)) rfl ?_ hd; intro hb0
    refine pl_lock (A := Blk _ _) (Rem.there (Rem.there Rem.here)) rfl ?_ hd; intro hb1
    refine pl_lock (A := Blk _ _) (Rem.there (Rem.there (Rem.there Rem.here))) rfl ?_ hd; intro hb2
    refine pl_take (i := 0) rfl (by kernel_rfl) (y_move rfl) ?_ hd; clear hd; intro hd
    refine pl_take (i := 1) rfl (by kernel_rfl) (y_nilCheck rfl) ?_ hd; clear hd; intro hd
    refine pl_take (i := 2) rfl (by kernel_rfl) (y_fieldAddr0 rfl) ?_ hd; clear hd; intro hd
    refine pl_take (i := 3) rfl (by kernel_rfl) (y_load rfl rfl rfl) ?_ hd; clear hd; intro hd
    refine pl_take (i := 4) rfl (by kernel_rfl) (y_fieldAddr0 rfl) ?_ hd; clear hd; intro hd
    refine pl_take (i := 5) rfl (by kernel_rfl) (y_load rfl rfl rfl) ?_ hd; clear hd; intro hd
    refine pl_take (i := 6) rfl (by kernel_rfl) (y_lookup rfl rfl) ?_ hd; clear hd; intro hd
    refine pl_sole (i := 7) (by kernel_rfl) rfl ?_ hd; clear hd; intro hd
    refine o_call rfl (copied_pe es w.page hy.len) (by repeat (first | with_reducible exact Takes.nil | (apply Takes.cons; focus (repeat (first | with_reducible exact Rem.here | apply Rem.there))))) rfl ?_
    rintro _ _ ⟨b1, rfl, rfl⟩
    simp only [List.append_eq, List.cons_append, List.nil_append, List.append_nil, tup]
    refine pl_back (by repeat (first | with_reducible exact Owes.nil | with_reducible refine Owes.same ?_ | with_reducible refine Owes.any ?_ | refine Owes.waived 7 (by kernel_rfl) ?_)) ?_ hd; clear hd; intro hd
    refine pl_take (i := 8) rfl (by kernel_rfl) (y_assign rfl) ?_ hd; clear hd; intro hd
    refine pl_done (by kernel_rfl) ?_ hd
    refine f_unlock (A := Blk _ _) ?_
    refine f_unlock (A := Blk _ _) ?_
    refine f_unlock (A := Blk _ _) ?_
    have hold : ((pfind es w.page).map PE.bs).getD page0 = (((ks.take i).foldl DS.keep S).last w.page).getD page0 := by rw [hy.get]
    have hol : (((pfind es w.page).map PE.bs).getD page0).length = 256 := by
      cases hp : pfind es w.page with
      | none => exact pad_len _
      | some e => exact hy.len e (pfind_some hp).1
    have hbs : w.abs.2 = w.bs := rfl
    have hpg : w.abs.1 = w.page := rfl
    rw [hbs, hpg, ← hold] at hkp
    generalize ((pfind es w.page).map PE.bs).getD page0 = old at hol hkp
    clear hold
    refine f_ent (Takes.ent_of (P := [Star (ws.map WE.asrt)]) (by repeat (first | with_reducible exact Takes.nil | (apply Takes.cons; focus (repeat (first | with_reducible exact Rem.here | apply Rem.there))))) hw1) ?_
    simp only [List.append_eq, List.cons_append, List.nil_append, List.append_nil, tup]
    refine f_seq ?_
    refine c_seq ?_
    refine c_seq ?_
    refine c_region ?_
    refine o_y (y_move rfl) rfl ?_
    refine o_nil ?_
    refine f_seq ?_
    refine c_block ?_
    refine c_loop_inv (X := Nat) (fun s => s ≤ 4) (fun s => 4 - s)
      (fun s => [Blk b1 (bobj (tear k.sec w.bs s old)), Blk w.blk (bobj w.bs), Blk kx (.cells ⟨[.int .i64 k.wr, .int .u8 (k.sec : Int)]⟩ 33 (0, 0)), Blk nw (.cells ⟨[.int .i64 w.page, pageV w.blk]⟩ 68 (0, 0)),
        Blk d (dobj S.most S.pages lm (.slice (some ⟨rb, 0, none⟩) ws.length lc) nm S.fuse S.burns), Blk lm (.map (pents es) ck), Star (es.map PE.asrt), Star (rws.map WE.asrt), Blk rb (.cells ⟨wcells ws ++ rs⟩ 68 (0, 0)), Bkp q kb (.cells ⟨cs⟩ T fz), PM nm S.now])
      (fun s => [(0, .pointer (some ⟨d, 0, none⟩)), (9, .slice (some ⟨kb, ko, none⟩) ks.length cap), (10, .int .i64 (ks.length : Int)), (11, .int .i64 (i : Int)), (5, .pointer (some ⟨kx, 0, none⟩)), (6, .pointer (some ⟨nw, 0, none⟩)), (7, .slice (some ⟨b1, 0, none⟩) 256 256), (44, .int .i64 (s : Int))]) 0 (Nat.zero_le _) (by simp only [tear]; repeat (first | with_reducible exact Ent.nil | (apply Ent.one; focus (repeat (first | with_reducible exact Rem.here | apply Rem.there))))) (by repeat (first | exact trivial | refine ⟨rfl, ?_⟩)) ?_
    intro s hs ihs
    try dsimp only at hs ihs ⊢
    by_cases hs4 : s < 4
    case neg =>
      have : s = 4 := by omega
      subst this
      refine c_seq ?_
      refine c_region ?_
      refine o_y (y_lss_f rfl rfl (by omega)) rfl ?_
      refine o_nil ?_
      refine f_seq ?_
      refine c_seq ?_
      refine c_false rfl ?_
      refine c_exit ?_
      refine f_seq_exit ?_
      refine f_seq_exit ?_
      refine f_block_here ?_
      refine f_seq ?_
      refine pl_start [7] Try.mixed ?_; intro hd
      refine pl_lock (A := Blk _ _) (Rem.there (Rem.there (Rem.there Rem.here))) rfl ?_ hd; intro hb0
      refine pl_lock (A := Blk _ _) (Rem.there (Rem.there (Rem.there Rem.here))) rfl ?_ hd; intro hb1
      refine pl_take (i := 0) rfl (by kernel_rfl) (y_move rfl) ?_ hd; clear hd; intro hd
      refine pl_take (i := 1) rfl (by kernel_rfl) (y_nilCheck rfl) ?_ hd; clear hd; intro hd
      refine pl_take (i := 2) rfl (by kernel_rfl) (y_fieldAddr0 rfl) ?_ hd; clear hd; intro hd
      refine pl_take (i := 3) rfl (by kernel_rfl) (y_load rfl rfl rfl) ?_ hd; clear hd; intro hd
      refine pl_take (i := 4) rfl (by kernel_rfl) (y_fieldAddr0 rfl) ?_ hd; clear hd; intro hd
      refine pl_take (i := 5) rfl (by kernel_rfl) (y_load rfl rfl rfl) ?_ hd; clear hd; intro hd
      refine pl_take (i := 6) rfl (by kernel_rfl) (y_move rfl) ?_ hd; clear hd; intro hd
      refine pl_sole (i := 7) (by kernel_rfl) rfl ?_ hd; clear hd; intro hd
      refine o_mapUpdate (es := es.map PE.ent) (v := pageV b1) rfl rfl rfl ?_
      refine pl_back (by repeat (first | with_reducible exact Owes.nil | with_reducible refine Owes.same ?_ | with_reducible refine Owes.any ?_ | refine Owes.waived 7 (by kernel_rfl) ?_)) ?_ hd; clear hd; intro hd
      refine pl_done (by kernel_rfl) ?_ hd
      refine f_unlock (A := Blk _ _) ?_
      refine f_unlock (A := Blk _ _) ?_
      refine f_block ?_
      refine f_seq ?_
      refine c_region ?_
      refine o_y (y_arith64 rfl rfl rfl (by omega)) rfl ?_
      refine o_y (y_move rfl) rfl ?_
      refine o_nil ?_
      obtain ⟨es', ck', g1, g2, g3⟩ := hy.put w.page b1 (tear k.sec w.bs 4 old) (by rw [tear_len]; exact hol)
      rw [g1]
      refine f_next ?_ ?_ (hnext es' ck' (by rw [hkp]; exact g2))
      · refine (Takes.ent_of (by repeat (first | with_reducible exact Takes.nil | (apply Takes.cons; focus (repeat (first | with_reducible exact Rem.here | apply Rem.there))))) g3).trans ?_
        simp only [List.append_eq, List.cons_append, List.nil_append, List.append_nil, tup]
        refine (Takes.ent_of (P := [w.asrt, Star (rws.map WE.asrt)]) (by repeat (first | with_reducible exact Takes.nil | (apply Takes.cons; focus (repeat (first | with_reducible exact Rem.here | apply Rem.there))))) hw2).trans ?_
        simp only [List.append_eq, List.cons_append, List.nil_append, List.append_nil, tup]
        refine (Ent.shut (A := RowA q TK.cells 2 (some ⟨kb, ko, none⟩) ks) (by repeat (first | with_reducible exact Takes.nil | (apply Takes.cons; focus (repeat (first | with_reducible exact Rem.here | apply Rem.there))))) (RowA.shut rfl e2)).trans ?_
        refine (Ent.shut (A := Sl 68 2 (some ⟨rb, 0, none⟩) ws.length lc (wcells ws)) (by repeat (first | with_reducible exact Takes.nil | (apply Takes.cons; focus (repeat (first | with_reducible exact Rem.here | apply Rem.there))))) (Sl.shut hl h2 h3)).trans ?_
        repeat (first | with_reducible exact Ent.nil | (apply Ent.one; focus (repeat (first | with_reducible exact Rem.here | apply Rem.there))))
      · repeat (first | exact trivial | refine ⟨rfl, ?_⟩)
    case pos =>
      refine c_seq ?_
      refine c_region ?_
      refine o_y (y_lss_t rfl rfl (by omega)) rfl ?_
      refine o_nil ?_
      refine f_seq ?_
      refine c_seq ?_
      refine c_true rfl ?_
      refine c_skip ?_
      refine f_seq ?_
      refine c_seq ?_
      refine c_block ?_
      refine c_seq ?_
      refine c_region ?_
      refine o_y (y_move rfl) rfl ?_
      refine o_y (y_assign rfl) rfl ?_
      refine o_nil ?_
      refine f_seq ?_
      refine c_seq ?_
      refine c_region ?_
      refine o_y (y_fieldAddr0 rfl) rfl ?_
      refine o_y (y_load rfl rfl rfl) rfl ?_
      refine o_y (y_move rfl) rfl ?_
      refine o_y (y_conv_u64 rfl (by omega)) rfl ?_
      refine o_y (y_shr k.sec s rfl rfl rfl rfl (by show s ≤ 8; omega)) rfl ?_
      refine o_y (y_and1 (k.sec / 2 ^ s) rfl rfl rfl (Nat.lt_of_le_of_lt (Nat.div_le_self _ _) hsc)) rfl ?_
      have htr : tear k.sec w.bs (s + 1) old = if k.sec / 2 ^ s % 2 = 1 then splb (tear k.sec w.bs s old) (s * 64) ((w.bs.drop (s * 64)).take 64) else tear k.sec w.bs s old := rfl
      have htl : (tear k.sec w.bs s old).length = 256 := by rw [tear_len]; exact hol
      generalize k.sec / 2 ^ s % 2 = bit at htr
      generalize hcur : tear k.sec w.bs s old = cur at htr htl
      by_cases hbit : bit = 1
      · rw [if_pos hbit] at htr
        refine o_y (y_eql_t rfl rfl (by omega)) rfl ?_
        refine o_nil ?_
        refine f_seq ?_
        refine c_true rfl ?_
        refine pl_start [12] Try.mixed ?_; intro hd
        refine pl_lock (A := Blk _ _) (Rem.there (Rem.there (Rem.there Rem.here))) rfl ?_ hd; intro hb0
        refine pl_take (i := 0) rfl (by kernel_rfl) (y_move rfl) ?_ hd; clear hd; intro hd
        refine pl_take (i := 1) rfl (by kernel_rfl) (y_move rfl) ?_ hd; clear hd; intro hd
        refine pl_take (i := 2) rfl (by kernel_rfl) (y_arith64 rfl rfl rfl (by omega)) ?_ hd; clear hd; intro hd
        refine pl_take (i := 3) rfl (by kernel_rfl) (y_move rfl) ?_ hd; clear hd; intro hd
        refine pl_take (i := 4) rfl (by kernel_rfl) (y_arith64 rfl rfl rfl (by omega)) ?_ hd; clear hd; intro hd
        refine pl_take (i := 5) rfl (by kernel_rfl) (y_arith64 rfl rfl rfl (by omega)) ?_ hd; clear hd; intro hd
        refine pl_take (i := 6) rfl (by kernel_rfl) (y_slice_at (s * 64) ((s + 1) * 64) 256 rfl rfl rfl rfl (fun h => by cases h) (by omega) (by omega) (by omega) (by omega)) ?_ hd; clear hd; intro hd
        refine pl_take (i := 7) rfl (by kernel_rfl) (y_fieldAddr0 rfl) ?_ hd; clear hd; intro hd
        refine pl_take (i := 8) rfl (by kernel_rfl) (y_load rfl rfl rfl) ?_ hd; clear hd; intro hd
        refine pl_take (i := 9) rfl (by kernel_rfl) (y_move rfl) ?_ hd; clear hd; intro hd
        refine pl_take (i := 10) rfl (by kernel_rfl) (y_arith64 rfl rfl rfl (by omega)) ?_ hd; clear hd; intro hd
        refine pl_take (i := 11) rfl (by kernel_rfl) (y_slice_at (s * 64) 256 256 rfl rfl rfl rfl (fun h => by cases h) (by omega) (by omega) (by omega) (by omega)) ?_ hd; clear hd; intro hd
        refine pl_sole (i := 12) (by kernel_rfl) rfl ?_ hd; clear hd; intro hd
        refine o_copy (k := 256 - s * 64) (ys := (w.bs.drop (s * 64)).map byteV) (cs' := (splb cur (s * 64) ((w.bs.drop (s * 64)).take 64)).map byteV) rfl rfl (Src.slice ?_) ?_ ?_ (bytes_one _) frz0 rfl ?_
        · unfold getN
          have e1 : List.drop (0 + s * 64 * 1) (w.bs.map byteV) = (w.bs.drop (s * 64)).map byteV := by rw [Nat.zero_add, Nat.mul_one, List.map_drop]
          rw [e1, takeN_take (by rw [List.length_map, List.length_drop]; omega), List.take_of_length_le (by rw [List.length_map, List.length_drop]; omega)]
        · have e1 : min (256 - s * 64) ((s + 1) * 64 - s * 64) * 1 = 64 := by omega
          have e2 : 0 + s * 64 * 1 = s * 64 := by omega
          rw [e1, e2, ← List.map_take, splb_map]
        · rw [List.length_map, htl]; omega
        refine pl_back (by repeat (first | with_reducible exact Owes.nil | with_reducible refine Owes.same ?_ | with_reducible refine Owes.any ?_ | refine Owes.waived 12 (by kernel_rfl) ?_)) ?_ hd; clear hd; intro hd
        refine pl_done (by kernel_rfl) ?_ hd
        refine f_unlock (A := Blk _ _) ?_
        refine f_block ?_
        refine f_seq ?_
        refine c_region ?_
        refine o_y (y_arith64 rfl rfl rfl (by omega)) rfl ?_
        refine o_y (y_move rfl) rfl ?_
        refine o_nil ?_
        refine f_next ?_ ?_ (ihs (s + 1) (by omega) (by omega))
        · rw [htr]; repeat (first | with_reducible exact Ent.nil | (apply Ent.one; focus (repeat (first | with_reducible exact Rem.here | apply Rem.there))))
        · repeat (first | exact trivial | refine ⟨rfl, ?_⟩)
      · rw [if_neg hbit] at htr
        refine o_y (y_eql_f rfl rfl (by omega)) rfl ?_
        refine o_nil ?_
        refine f_seq ?_
        refine c_false rfl ?_
        refine c_skip ?_
        refine f_block ?_
        refine f_seq ?_
        refine c_region ?_
        refine o_y (y_arith64 rfl rfl rfl (by omega)) rfl ?_
        refine o_y (y_move rfl) rfl ?_
        refine o_nil ?_
        refine f_next ?_ ?_ (ihs (s + 1) (by omega) (by omega))
        · rw [htr]; repeat (first | with_reducible exact Ent.nil | (apply Ent.one; focus (repeat (first | with_reducible exact Rem.here | apply Rem.there))))
        · repeat (first | exact trivial | refine ⟨rfl, ?_⟩)
end Go.Lun

/- The disk's Copy. -/
import Derived.Test.YtijahemmbooblaaDisk7
namespace Go.Lun
open Go.Proofs

/-- Of a map of pages those entries that have been met. -/
def met (es : List PE) (seen : List Nat) : Int → Option Bytes := fun k => match pfind es k with
  | some e => if e.born ∈ seen then some e.bs else none
  | none => none

theorem pfind_mem {es : List PE} (hk : (es.map PE.key).Nodup) : ∀ {e : PE}, e ∈ es → pfind es e.key = some e := by
  induction es with
  | nil => intro e h; cases h
  | cons y es ih =>
    intro e h
    simp only [List.map_cons, List.nodup_cons] at hk
    simp only [pfind]
    rcases List.mem_cons.1 h with rfl | h
    · simp
    · have : ¬ e.key = y.key := fun h2 => hk.1 (h2 ▸ List.mem_map.2 ⟨e, h, rfl⟩)
      rw [if_neg this]; exact ih hk.2 h

theorem born_inj {es : List PE} (hb : (es.map PE.born).Nodup) : ∀ {e e' : PE}, e ∈ es → e' ∈ es → e.born = e'.born → e = e' := by
  induction es with
  | nil => intro e e' h; cases h
  | cons y es ih =>
    intro e e' h h' he
    simp only [List.map_cons, List.nodup_cons] at hb
    rcases List.mem_cons.1 h with rfl | h <;> rcases List.mem_cons.1 h' with rfl | h'
    · rfl
    · exact (hb.1 (List.mem_map.2 ⟨e', by assumption, he.symm⟩)).elim
    · exact (hb.1 (List.mem_map.2 ⟨e, by assumption, he⟩)).elim
    · exact ih hb.2 h h' he

theorem met_nil (es : List PE) : met es [] = fun _ => none := by
  funext k; unfold met; split <;> simp
theorem met_all {es : List PE} {ck : Nat} {f : Int → Option Bytes} (h : PMok es ck f) {seen : List Nat} (ha : ∀ e ∈ es, e.born ∈ seen) : met es seen = f := by
  funext k
  rw [← h.get k]; unfold met
  cases hp : pfind es k with
  | none => rfl
  | some e => simp [ha e (pfind_some hp).1]
theorem met_snoc {es : List PE} {ck : Nat} {f : Int → Option Bytes} (h : PMok es ck f) {seen : List Nat} {e : PE} (he : e ∈ es) : met es (seen ++ [e.born]) = upd (met es seen) e.key e.bs := by
  funext k
  unfold met upd
  by_cases hk : k = e.key
  · subst hk; rw [pfind_mem h.keys he]; simp
  · simp only [if_neg hk]
    cases hp : pfind es k with
    | none => rfl
    | some e' =>
      have h1 := pfind_some hp
      have : e'.born ≠ e.born := fun hb => hk (by rw [← h1.2, born_inj h.born h1.1 he hb])
      simp [this]

/-- How many have not been met. -/
def left (es : List PE) (seen : List Nat) : Nat := (es.filter fun e => !seen.contains e.born).length
theorem filt_split {α : Type} (p q : α → Bool) : ∀ l : List α, (l.filter fun x => p x && !q x).length + (l.filter fun x => p x && q x).length = (l.filter p).length
  | [] => rfl
  | x :: l => by
    have ih := filt_split p q l
    simp only [List.filter_cons]
    cases p x <;> cases q x <;> simp <;> omega
theorem left_snoc {es : List PE} {seen : List Nat} {e : PE} (he : e ∈ es) (hn : e.born ∉ seen) : left es (seen ++ [e.born]) < left es seen := by
  unfold left
  have h1 := filt_split (fun e => !seen.contains e.born) (fun x => x.born == e.born) es
  have h2 : (es.filter fun x => !(seen ++ [e.born]).contains x.born) = es.filter fun x => (!seen.contains x.born) && !(x.born == e.born) := by
    apply List.filter_congr
    intro x _
    by_cases h3 : x.born ∈ seen <;> by_cases h4 : x.born = e.born <;> simp [h3, h4]
  have h3 : 0 < (es.filter fun x => (!seen.contains x.born) && (x.born == e.born)).length := List.length_pos_of_mem (List.mem_filter.2 ⟨he, by simp [hn]⟩)
  rw [h2]
  omega

theorem copy_d (d : Nat) (S : DS) (hn : S.loose.length ≤ 1000000) : Fn Try.prog 26 [.pointer (some ⟨d, 0, none⟩)] [DRep d S] (fun v L => ∃ o, v = .pointer (some ⟨o, 0, none⟩) ∧ L = [DRep o S, DRep d S]) := by
  refine fn_open (A := DRep d S) Rem.here (fun x hx => ?_)
  obtain ⟨lm, nm, la, lc, ws⟩ := x
  have hwl : ws.length = S.loose.length := by rw [← hx.abs, List.length_map]
  refine fn_open (A := PM lm S.last) (.there .here) (fun y hy => ?_)
  obtain ⟨es, ck⟩ := y
  refine fn_open (A := PM nm S.now) (.there (.there (.there .here))) (fun y hz => ?_)
  obtain ⟨fs, ck2⟩ := y
  try dsimp only at hy hz
  simp only [List.append_eq, List.cons_append, List.nil_append, List.append_nil, tup]
  refine fn_start Try.func26 rfl rfl rfl fun F => ?_
  refine c_seq ?_
  refine c_region ?_
  refine o_y (y_assign rfl) rfl ?_
  refine o_nil ?_
  refine f_seq ?_
  refine c_seq ?_
  refine c_cut (X := Nat × Nat × Nat) (fun t => [Blk t.2.2 (dobj S.most S.pages t.1 (.slice none 0 0) t.2.1 S.fuse S.burns), Blk t.1 (.map #[] 0), Blk t.2.1 (.map #[] 0), Blk d (dobj S.most S.pages lm (.slice la ws.length lc) nm S.fuse S.burns), Blk lm (.map (pents es) ck), Star (es.map PE.asrt), Blk nm (.map (pents fs) ck2), Star (fs.map PE.asrt), Sl 68 2 la ws.length lc (wcells ws), Star (ws.map WE.asrt)])
    (fun t => [(0, .pointer (some ⟨d, 0, none⟩)), (3, .pointer (some ⟨t.2.2, 0, none⟩))]) ?_ ?_
  ·
    refine pl_start [16, 17, 19] Try.mixed ?_; intro hd
    refine pl_lock (A := Blk _ _) (Rem.there (Rem.there (Rem.there (Rem.there Rem.here)))) rfl ?_ hd; intro hb0
    refine pl_take (i := 0) rfl (by kernel_rfl) (y_move rfl) ?_ hd; clear hd; intro hd
    refine pl_take (i := 1) rfl (by kernel_rfl) (y_nilCheck rfl) ?_ hd; clear hd; intro hd
    refine pl_take (i := 2) rfl (by kernel_rfl) (y_fieldAddr0 rfl) ?_ hd; clear hd; intro hd
    refine pl_take (i := 3) rfl (by kernel_rfl) (y_load rfl rfl rfl) ?_ hd; clear hd; intro hd
    refine pl_take (i := 4) rfl (by kernel_rfl) (y_move rfl) ?_ hd; clear hd; intro hd
    refine pl_take (i := 5) rfl (by kernel_rfl) (y_nilCheck rfl) ?_ hd; clear hd; intro hd
    refine pl_take (i := 6) rfl (by kernel_rfl) (y_fieldAddr0 rfl) ?_ hd; clear hd; intro hd
    refine pl_take (i := 7) rfl (by kernel_rfl) (y_load rfl rfl rfl) ?_ hd; clear hd; intro hd
    refine pl_take (i := 8) rfl (by kernel_rfl) (y_move rfl) ?_ hd; clear hd; intro hd
    refine pl_take (i := 9) rfl (by kernel_rfl) (y_nilCheck rfl) ?_ hd; clear hd; intro hd
    refine pl_take (i := 10) rfl (by kernel_rfl) (y_fieldAddr0 rfl) ?_ hd; clear hd; intro hd
    refine pl_take (i := 11) rfl (by kernel_rfl) (y_load rfl rfl rfl) ?_ hd; clear hd; intro hd
    refine pl_take (i := 12) rfl (by kernel_rfl) (y_move rfl) ?_ hd; clear hd; intro hd
    refine pl_take (i := 13) rfl (by kernel_rfl) (y_nilCheck rfl) ?_ hd; clear hd; intro hd
    refine pl_take (i := 14) rfl (by kernel_rfl) (y_fieldAddr0 rfl) ?_ hd; clear hd; intro hd
    refine pl_take (i := 15) rfl (by kernel_rfl) (y_load rfl rfl rfl) ?_ hd; clear hd; intro hd
    refine pl_two (i := 16) (j := 17) (by kernel_rfl) rfl rfl ?_ ?_ hd
    · clear hd; intro hd
      refine o_makeMap rfl (fun nb => ?_)
      refine pl_back (by repeat (first | with_reducible exact Owes.nil | with_reducible refine Owes.same ?_ | with_reducible refine Owes.any ?_ | refine Owes.waived 16 (by kernel_rfl) ?_)) ?_ hd; clear hd; intro hd
      refine pl_sole (i := 17) (by kernel_rfl) rfl ?_ hd; clear hd; intro hd
      refine o_makeMap rfl (fun nb => ?_)
      refine pl_back (by repeat (first | with_reducible exact Owes.nil | with_reducible refine Owes.same ?_ | with_reducible refine Owes.any ?_ | refine Owes.waived 17 (by kernel_rfl) ?_ | refine Owes.waived 16 (by kernel_rfl) ?_)) ?_ hd; clear hd; intro hd
      refine pl_take (i := 18) rfl (by kernel_rfl) (y_build rfl) ?_ hd; clear hd; intro hd
      refine pl_sole (i := 19) (by kernel_rfl) rfl ?_ hd; clear hd; intro hd
      refine o_box rfl rfl (fun nb => ?_)
      refine pl_back (by repeat (first | with_reducible exact Owes.nil | with_reducible refine Owes.same ?_ | with_reducible refine Owes.any ?_ | refine Owes.waived 19 (by kernel_rfl) ?_ | refine Owes.waived 17 (by kernel_rfl) ?_ | refine Owes.waived 16 (by kernel_rfl) ?_)) ?_ hd; clear hd; intro hd
      refine pl_take (i := 20) rfl (by kernel_rfl) (y_assign rfl) ?_ hd; clear hd; intro hd
      refine pl_done (by kernel_rfl) ?_ hd
      refine f_unlock (A := Blk _ _) ?_
      exact f_cut (_, _, _) (by repeat (first | with_reducible exact Ent.nil | (apply Ent.one; focus (repeat (first | with_reducible exact Rem.here | apply Rem.there))))) (by repeat (first | exact trivial | refine ⟨rfl, ?_⟩))
    · clear hd; intro hd
      refine o_makeMap rfl (fun nb => ?_)
      refine pl_back (by repeat (first | with_reducible exact Owes.nil | with_reducible refine Owes.same ?_ | with_reducible refine Owes.any ?_ | refine Owes.waived 17 (by kernel_rfl) ?_)) ?_ hd; clear hd; intro hd
      refine pl_sole (i := 16) (by kernel_rfl) rfl ?_ hd; clear hd; intro hd
      refine o_makeMap rfl (fun nb => ?_)
      refine pl_back (by repeat (first | with_reducible exact Owes.nil | with_reducible refine Owes.same ?_ | with_reducible refine Owes.any ?_ | refine Owes.waived 16 (by kernel_rfl) ?_ | refine Owes.waived 17 (by kernel_rfl) ?_)) ?_ hd; clear hd; intro hd
      refine pl_take (i := 18) rfl (by kernel_rfl) (y_build rfl) ?_ hd; clear hd; intro hd
      refine pl_sole (i := 19) (by kernel_rfl) rfl ?_ hd; clear hd; intro hd
      refine o_box rfl rfl (fun nb => ?_)
      refine pl_back (by repeat (first | with_reducible exact Owes.nil | with_reducible refine Owes.same ?_ | with_reducible refine Owes.any ?_ | refine Owes.waived 19 (by kernel_rfl) ?_ | refine Owes.waived 16 (by kernel_rfl) ?_ | refine Owes.waived 17 (by kernel_rfl) ?_)) ?_ hd; clear hd; intro hd
      refine pl_take (i := 20) rfl (by kernel_rfl) (y_assign rfl) ?_ hd; clear hd; intro hd
      refine pl_done (by kernel_rfl) ?_ hd
      refine f_unlock (A := Blk _ _) ?_
      exact f_cut (_, _, _) (by repeat (first | with_reducible exact Ent.nil | (apply Ent.one; focus (repeat (first | with_reducible exact Rem.here | apply Rem.there))))) (by repeat (first | exact trivial | refine ⟨rfl, ?_⟩))
  · rintro ⟨m1, m2, ob⟩
    try dsimp only
    have e0 : (#[] : Array MapEntry) = pents [] := rfl
    rw [e0]
    refine c_seq ?_
    refine c_seq ?_
    refine c_region ?_
    refine o_y (y_move rfl) rfl ?_
    refine o_y (y_nilCheck rfl) rfl ?_
    refine o_y (y_fieldAddr0 rfl) rfl ?_
    refine o_y (y_load rfl rfl rfl) rfl ?_
    refine o_range rfl rfl (fun it => ?_)
    refine o_nil ?_
    refine f_seq ?_
    refine c_block ?_
    refine c_loop_inv (X := List Nat × List PE × Nat) (fun x => PMok x.2.1 x.2.2 (met es x.1)) (fun x => left es x.1)
      (fun x => [Blk it (.mapIter (some lm) ck ⟨x.1⟩ ck), Blk m1 (.map (pents x.2.1) x.2.2), Star (x.2.1.map PE.asrt), Blk ob (dobj S.most S.pages m1 (.slice none 0 0) m2 S.fuse S.burns), Blk m2 (.map (pents []) 0), Blk d (dobj S.most S.pages lm (.slice la ws.length lc) nm S.fuse S.burns), Blk lm (.map (pents es) ck), Star (es.map PE.asrt), Blk nm (.map (pents fs) ck2), Star (fs.map PE.asrt), Sl 68 2 la ws.length lc (wcells ws), Star (ws.map WE.asrt)])
      (fun x => [(0, .pointer (some ⟨d, 0, none⟩)), (3, .pointer (some ⟨ob, 0, none⟩)), (34, .pointer (some ⟨it, 0, none⟩))]) ([], [], 0) (by dsimp only; rw [met_nil]; exact PMok.nil)
      (by dsimp only; refine Ent.one (by repeat (first | with_reducible exact Rem.here | apply Rem.there)) ?_; refine Ent.one (by repeat (first | with_reducible exact Rem.here | apply Rem.there)) ?_; refine Ent.put (P := []) (by repeat (first | with_reducible exact Takes.nil | (apply Takes.cons; focus (repeat (first | with_reducible exact Rem.here | apply Rem.there))))) (fun _ _ => trivial) ?_; repeat (first | with_reducible exact Ent.nil | (apply Ent.one; focus (repeat (first | with_reducible exact Rem.here | apply Rem.there))))) (by repeat (first | exact trivial | refine ⟨rfl, ?_⟩)) ?_
    rintro ⟨seen, es1, ck1⟩ h1 ih
    try dsimp only at h1 ih ⊢
    refine c_seq ?_
    refine c_region ?_
    refine o_next (es := es.map PE.ent) rfl (fun e he => by obtain ⟨y, hy', rfl⟩ := List.mem_map.1 he; exact hy.old y hy') (M := fun e => _) rfl (fun hall => ?_) (fun e he hnew => ?_)
    case refine_2 =>
      obtain ⟨e, hem, rfl⟩ := List.mem_map.1 he
      have hne : e.born ∉ seen := hnew
      refine o_y (y_extract rfl rfl) rfl ?_
      refine o_nil ?_
      refine f_seq ?_
      refine c_seq ?_
      refine c_true rfl ?_
      refine c_skip ?_
      refine f_seq ?_
      refine c_block ?_
      refine c_seq ?_
      refine c_region ?_
      refine o_y (y_entry (e := e.ent) (es := es.map PE.ent) rfl (List.mem_map.2 ⟨e, hem, rfl⟩) (by rw [List.map_map]; exact hy.born)) rfl ?_
      refine o_y (y_extract rfl rfl) rfl ?_
      refine o_y (y_extract rfl rfl) rfl ?_
      refine o_y (y_assign rfl) rfl ?_
      refine o_y (y_assign rfl) rfl ?_
      refine o_nil ?_
      refine f_seq ?_
      obtain ⟨rs, g1, g2, _⟩ := pe_open (pfind_mem hy.keys hem)
      have hb := hy.len e hem
      refine c_ent (Takes.ent_of (P := [Star (es.map PE.asrt)]) (by repeat (first | with_reducible exact Takes.nil | (apply Takes.cons; focus (repeat (first | with_reducible exact Rem.here | apply Rem.there))))) g1) ?_
      simp only [List.append_eq, List.cons_append, List.nil_append, List.append_nil, tup]
      refine pl_start [6, 7] Try.mixed ?_; intro hd
      refine pl_lock (A := Blk _ _) (Rem.there (Rem.there (Rem.there (Rem.there (Rem.there Rem.here))))) rfl ?_ hd; intro hb0
      refine pl_take (i := 0) rfl (by kernel_rfl) (y_move rfl) ?_ hd; clear hd; intro hd
      refine pl_take (i := 1) rfl (by kernel_rfl) (y_nilCheck rfl) ?_ hd; clear hd; intro hd
      refine pl_take (i := 2) rfl (by kernel_rfl) (y_fieldAddr0 rfl) ?_ hd; clear hd; intro hd
      refine pl_take (i := 3) rfl (by kernel_rfl) (y_load rfl rfl rfl) ?_ hd; clear hd; intro hd
      refine pl_take (i := 4) rfl (by kernel_rfl) (y_move rfl) ?_ hd; clear hd; intro hd
      refine pl_take (i := 5) rfl (by kernel_rfl) (y_move rfl) ?_ hd; clear hd; intro hd
      refine pl_sole (i := 6) (by kernel_rfl) rfl ?_ hd; clear hd; intro hd
      refine o_call rfl (copied_at true e.blk 0 256 256 (e.bs.map byteV) 5 (0, 0) e.bs (by have := getN_front (e.bs.map byteV) []; simpa [hb] using this)) (by repeat (first | with_reducible exact Takes.nil | (apply Takes.cons; focus (repeat (first | with_reducible exact Rem.here | apply Rem.there))))) rfl ?_
      rintro _ _ ⟨b1, rfl, rfl⟩
      simp only [List.append_eq, List.cons_append, List.nil_append, List.append_nil, tup]
      refine pl_back (by repeat (first | with_reducible exact Owes.nil | with_reducible refine Owes.same ?_ | with_reducible refine Owes.any ?_ | refine Owes.waived 6 (by kernel_rfl) ?_)) ?_ hd; clear hd; intro hd
      refine pl_sole (i := 7) (by kernel_rfl) rfl ?_ hd; clear hd; intro hd
      refine o_mapUpdate (es := es1.map PE.ent) (v := pageV b1) rfl rfl rfl ?_
      refine pl_back (by repeat (first | with_reducible exact Owes.nil | with_reducible refine Owes.same ?_ | with_reducible refine Owes.any ?_ | refine Owes.waived 7 (by kernel_rfl) ?_ | refine Owes.waived 6 (by kernel_rfl) ?_)) ?_ hd; clear hd; intro hd
      refine pl_done (by kernel_rfl) ?_ hd
      refine f_unlock (A := Blk _ _) ?_
      rw [pad_full hb]
      obtain ⟨es2, ck2', k1, k2, k3⟩ := h1.put e.key b1 e.bs hb
      have hk1 : mput (es1.map PE.ent) ck1 e.ent.1 (pageV b1) = .map (pents es2) ck2' := k1
      rw [hk1]
      refine f_block ?_
      refine f_next ?_ ?_ (ih (seen ++ [e.born], es2, ck2') (by dsimp only; rw [met_snoc hy hem]; exact k2) (left_snoc hem hne))
      · simp only [PE.ent]
        refine (Takes.ent_of (by repeat (first | with_reducible exact Takes.nil | (apply Takes.cons; focus (repeat (first | with_reducible exact Rem.here | apply Rem.there))))) k3).trans ?_
        simp only [List.append_eq, List.cons_append, List.nil_append, List.append_nil, tup]
        refine (Takes.ent_of (P := [e.asrt, Star (rs.map PE.asrt)]) (by repeat (first | with_reducible exact Takes.nil | (apply Takes.cons; focus (repeat (first | with_reducible exact Rem.here | apply Rem.there))))) g2).trans ?_
        simp only [List.append_eq, List.cons_append, List.nil_append, List.append_nil, tup]
        repeat (first | with_reducible exact Ent.nil | (apply Ent.one; focus (repeat (first | with_reducible exact Rem.here | apply Rem.there))))
      · repeat (first | exact trivial | refine ⟨rfl, ?_⟩)
    case refine_1 =>
    have hall' : ∀ e ∈ es, e.born ∈ seen := fun e he => hall e.ent (List.mem_map.2 ⟨e, he, rfl⟩)
    rw [met_all hy hall'] at h1
    refine o_y (y_extract rfl rfl) rfl ?_
    refine o_nil ?_
    refine f_seq ?_
    refine c_seq ?_
    refine c_false rfl ?_
    refine c_exit ?_
    refine f_seq_exit ?_
    refine f_seq_exit ?_
    refine f_block_here ?_
    refine f_seq ?_
    refine c_seq ?_
    refine c_seq ?_
    refine c_region ?_
    refine o_y (y_move rfl) rfl ?_
    refine o_y (y_nilCheck rfl) rfl ?_
    refine o_y (y_fieldAddr0 rfl) rfl ?_
    refine o_y (y_load rfl rfl rfl) rfl ?_
    refine o_ent (Ent.shut (A := PM m1 S.last) (by repeat (first | with_reducible exact Takes.nil | (apply Takes.cons; focus (repeat (first | with_reducible exact Rem.here | apply Rem.there))))) (PM.shut h1)) ?_
    refine o_range rfl rfl (fun it => ?_)
    refine o_nil ?_
    refine f_seq ?_
    refine c_block ?_
    refine c_loop_inv (X := List Nat × List PE × Nat) (fun x => PMok x.2.1 x.2.2 (met fs x.1)) (fun x => left fs x.1)
      (fun x => [Blk it (.mapIter (some nm) ck2 ⟨x.1⟩ ck2), Blk m2 (.map (pents x.2.1) x.2.2), Star (x.2.1.map PE.asrt), Blk ob (dobj S.most S.pages m1 (.slice none 0 0) m2 S.fuse S.burns), PM m1 S.last, Blk d (dobj S.most S.pages lm (.slice la ws.length lc) nm S.fuse S.burns), Blk lm (.map (pents es) ck), Star (es.map PE.asrt), Blk nm (.map (pents fs) ck2), Star (fs.map PE.asrt), Sl 68 2 la ws.length lc (wcells ws), Star (ws.map WE.asrt)])
      (fun x => [(0, .pointer (some ⟨d, 0, none⟩)), (3, .pointer (some ⟨ob, 0, none⟩)), (51, .pointer (some ⟨it, 0, none⟩))]) ([], [], 0) (by dsimp only; rw [met_nil]; exact PMok.nil)
      (by dsimp only; refine Ent.one (by repeat (first | with_reducible exact Rem.here | apply Rem.there)) ?_; refine Ent.one (by repeat (first | with_reducible exact Rem.here | apply Rem.there)) ?_; refine Ent.put (P := []) (by repeat (first | with_reducible exact Takes.nil | (apply Takes.cons; focus (repeat (first | with_reducible exact Rem.here | apply Rem.there))))) (fun _ _ => trivial) ?_; repeat (first | with_reducible exact Ent.nil | (apply Ent.one; focus (repeat (first | with_reducible exact Rem.here | apply Rem.there))))) (by repeat (first | exact trivial | refine ⟨rfl, ?_⟩)) ?_
    rintro ⟨seen, es3, ck3⟩ h3 ih
    try dsimp only at h3 ih ⊢
    refine c_seq ?_
    refine c_region ?_
    refine o_next (es := fs.map PE.ent) rfl (fun e he => by obtain ⟨y, hy', rfl⟩ := List.mem_map.1 he; exact hz.old y hy') (M := fun e => _) rfl (fun hall => ?_) (fun e he hnew => ?_)
    case refine_2 =>
      obtain ⟨e, hem, rfl⟩ := List.mem_map.1 he
      have hne : e.born ∉ seen := hnew
      refine o_y (y_extract rfl rfl) rfl ?_
      refine o_nil ?_
      refine f_seq ?_
      refine c_seq ?_
      refine c_true rfl ?_
      refine c_skip ?_
      refine f_seq ?_
      refine c_block ?_
      refine c_seq ?_
      refine c_region ?_
      refine o_y (y_entry (e := e.ent) (es := fs.map PE.ent) rfl (List.mem_map.2 ⟨e, hem, rfl⟩) (by rw [List.map_map]; exact hz.born)) rfl ?_
      refine o_y (y_extract rfl rfl) rfl ?_
      refine o_y (y_extract rfl rfl) rfl ?_
      refine o_y (y_assign rfl) rfl ?_
      refine o_y (y_assign rfl) rfl ?_
      refine o_nil ?_
      refine f_seq ?_
      obtain ⟨rs, g1, g2, _⟩ := pe_open (pfind_mem hz.keys hem)
      have hb := hz.len e hem
      refine c_ent (Takes.ent_of (P := [Star (fs.map PE.asrt)]) (by repeat (first | with_reducible exact Takes.nil | (apply Takes.cons; focus (repeat (first | with_reducible exact Rem.here | apply Rem.there))))) g1) ?_
      simp only [List.append_eq, List.cons_append, List.nil_append, List.append_nil, tup]
      refine pl_start [6, 7] Try.mixed ?_; intro hd
      refine pl_lock (A := Blk _ _) (Rem.there (Rem.there (Rem.there (Rem.there (Rem.there Rem.here))))) rfl ?_ hd; intro hb0
      refine pl_take (i := 0) rfl (by kernel_rfl) (y_move rfl) ?_ hd; clear hd; intro hd
      refine pl_take (i := 1) rfl (by kernel_rfl) (y_nilCheck rfl) ?_ hd; clear hd; intro hd
      refine pl_take (i := 2) rfl (by kernel_rfl) (y_fieldAddr0 rfl) ?_ hd; clear hd; intro hd
      refine pl_take (i := 3) rfl (by kernel_rfl) (y_load rfl rfl rfl) ?_ hd; clear hd; intro hd
      refine pl_take (i := 4) rfl (by kernel_rfl) (y_move rfl) ?_ hd; clear hd; intro hd
      refine pl_take (i := 5) rfl (by kernel_rfl) (y_move rfl) ?_ hd; clear hd; intro hd
      refine pl_sole (i := 6) (by kernel_rfl) rfl ?_ hd; clear hd; intro hd
      refine o_call rfl (copied_at true e.blk 0 256 256 (e.bs.map byteV) 5 (0, 0) e.bs (by have := getN_front (e.bs.map byteV) []; simpa [hb] using this)) (by repeat (first | with_reducible exact Takes.nil | (apply Takes.cons; focus (repeat (first | with_reducible exact Rem.here | apply Rem.there))))) rfl ?_
      rintro _ _ ⟨b1, rfl, rfl⟩
      simp only [List.append_eq, List.cons_append, List.nil_append, List.append_nil, tup]
      refine pl_back (by repeat (first | with_reducible exact Owes.nil | with_reducible refine Owes.same ?_ | with_reducible refine Owes.any ?_ | refine Owes.waived 6 (by kernel_rfl) ?_)) ?_ hd; clear hd; intro hd
      refine pl_sole (i := 7) (by kernel_rfl) rfl ?_ hd; clear hd; intro hd
      refine o_mapUpdate (es := es3.map PE.ent) (v := pageV b1) rfl rfl rfl ?_
      refine pl_back (by repeat (first | with_reducible exact Owes.nil | with_reducible refine Owes.same ?_ | with_reducible refine Owes.any ?_ | refine Owes.waived 7 (by kernel_rfl) ?_ | refine Owes.waived 6 (by kernel_rfl) ?_)) ?_ hd; clear hd; intro hd
      refine pl_done (by kernel_rfl) ?_ hd
      refine f_unlock (A := Blk _ _) ?_
      rw [pad_full hb]
      obtain ⟨es2, ck2', k1, k2, k3⟩ := h3.put e.key b1 e.bs hb
      have hk1 : mput (es3.map PE.ent) ck3 e.ent.1 (pageV b1) = .map (pents es2) ck2' := k1
      rw [hk1]
      refine f_block ?_
      refine f_next ?_ ?_ (ih (seen ++ [e.born], es2, ck2') (by dsimp only; rw [met_snoc hz hem]; exact k2) (left_snoc hem hne))
      · simp only [PE.ent]
        refine (Takes.ent_of (by repeat (first | with_reducible exact Takes.nil | (apply Takes.cons; focus (repeat (first | with_reducible exact Rem.here | apply Rem.there))))) k3).trans ?_
        simp only [List.append_eq, List.cons_append, List.nil_append, List.append_nil, tup]
        refine (Takes.ent_of (P := [e.asrt, Star (rs.map PE.asrt)]) (by repeat (first | with_reducible exact Takes.nil | (apply Takes.cons; focus (repeat (first | with_reducible exact Rem.here | apply Rem.there))))) g2).trans ?_
        simp only [List.append_eq, List.cons_append, List.nil_append, List.append_nil, tup]
        repeat (first | with_reducible exact Ent.nil | (apply Ent.one; focus (repeat (first | with_reducible exact Rem.here | apply Rem.there))))
      · repeat (first | exact trivial | refine ⟨rfl, ?_⟩)
    case refine_1 =>
    have hall' : ∀ e ∈ fs, e.born ∈ seen := fun e he => hall e.ent (List.mem_map.2 ⟨e, he, rfl⟩)
    rw [met_all hz hall'] at h3
    refine o_y (y_extract rfl rfl) rfl ?_
    refine o_nil ?_
    refine f_seq ?_
    refine c_seq ?_
    refine c_false rfl ?_
    refine c_exit ?_
    refine f_seq_exit ?_
    refine f_seq_exit ?_
    refine f_block_here ?_
    refine f_seq ?_
    refine c_seq ?_
    refine c_seq ?_
    refine c_region ?_
    refine o_y (y_move rfl) rfl ?_
    refine o_y (y_nilCheck rfl) rfl ?_
    refine o_y (y_fieldAddr0 rfl) rfl ?_
    refine o_y (y_load rfl rfl rfl) rfl ?_
    refine o_y (y_len_slice rfl) rfl ?_
    refine o_y (y_move rfl) rfl ?_
    refine o_nil ?_
    refine f_seq ?_
    refine c_block ?_
    refine c_ent (Ent.shut (A := PM m2 S.now) (by repeat (first | with_reducible exact Takes.nil | (apply Takes.cons; focus (repeat (first | with_reducible exact Rem.here | apply Rem.there))))) (PM.shut h3)) ?_
    refine c_loop_inv (X := Nat × Option Addr × Nat × List WE) (fun x => x.1 ≤ ws.length ∧ WOk x.2.2.2 ((ws.take x.1).map WE.abs)) (fun x => ws.length - x.1)
      (fun x => [Blk ob (dobj S.most S.pages m1 (.slice x.2.1 x.2.2.2.length x.2.2.1) m2 S.fuse S.burns), Sl 68 2 x.2.1 x.2.2.2.length x.2.2.1 (wcells x.2.2.2), Star (x.2.2.2.map WE.asrt), PM m1 S.last, PM m2 S.now, Blk d (dobj S.most S.pages lm (.slice la ws.length lc) nm S.fuse S.burns), Blk lm (.map (pents es) ck), Star (es.map PE.asrt), Blk nm (.map (pents fs) ck2), Star (fs.map PE.asrt), Sl 68 2 la ws.length lc (wcells ws), Star (ws.map WE.asrt)])
      (fun x => [(0, .pointer (some ⟨d, 0, none⟩)), (3, .pointer (some ⟨ob, 0, none⟩)), (67, .slice la ws.length lc), (68, .int .i64 (ws.length : Int)), (69, .int .i64 (x.1 : Int))]) (0, none, 0, []) ⟨Nat.zero_le _, rfl, by simp⟩
      (by dsimp only; simp only [List.length_nil, List.map_nil]; refine Ent.one (by repeat (first | with_reducible exact Rem.here | apply Rem.there)) ?_; refine Ent.put (P := []) (by repeat (first | with_reducible exact Takes.nil | (apply Takes.cons; focus (repeat (first | with_reducible exact Rem.here | apply Rem.there))))) Sl.shut_nil ?_; refine Ent.put (P := []) (by repeat (first | with_reducible exact Takes.nil | (apply Takes.cons; focus (repeat (first | with_reducible exact Rem.here | apply Rem.there))))) (fun _ _ => trivial) ?_; repeat (first | with_reducible exact Ent.nil | (apply Ent.one; focus (repeat (first | with_reducible exact Rem.here | apply Rem.there))))) (by repeat (first | exact trivial | refine ⟨rfl, ?_⟩)) ?_
    rintro ⟨i, a2, cap2, ws2⟩ ⟨hi, hw2⟩ ih
    try dsimp only at hi hw2 ih ⊢
    have hl2 : ws2.length = i := by
      have := congrArg List.length hw2.abs
      simp at this; omega
    by_cases hlt : i < ws.length
    case neg =>
      have hi' : i = ws.length := by omega
      rw [hi', List.take_length] at hw2
      refine c_seq ?_
      refine c_region ?_
      refine o_y (y_lss_f rfl rfl (by omega)) rfl ?_
      refine o_nil ?_
      refine f_seq ?_
      refine c_seq ?_
      refine c_false rfl ?_
      refine c_exit ?_
      refine f_seq_exit ?_
      refine f_seq_exit ?_
      refine f_block_here ?_
      refine f_seq ?_
      refine c_seq ?_
      refine c_region ?_
      refine o_y (y_move rfl) rfl ?_
      refine o_y (y_assign rfl) rfl ?_
      refine o_nil ?_
      refine f_seq ?_
      refine c_ret ?_
      refine f_ent ?_ (f_ret rfl ⟨ob, rfl, rfl⟩)
      refine Ent.put (by repeat (first | with_reducible exact Takes.nil | (apply Takes.cons; focus (repeat (first | with_reducible exact Rem.here | apply Rem.there))))) (DRep.mk (S := S) ws2 ⟨hw2.abs.trans hx.abs, hw2.len⟩ ⟨rfl, rfl, rfl, rfl, rfl, rfl⟩ rfl rfl) ?_
      refine (Ent.shut (A := PM lm S.last) (by repeat (first | with_reducible exact Takes.nil | (apply Takes.cons; focus (repeat (first | with_reducible exact Rem.here | apply Rem.there))))) (PM.shut hy)).trans ?_
      refine (Ent.shut (A := PM nm S.now) (by repeat (first | with_reducible exact Takes.nil | (apply Takes.cons; focus (repeat (first | with_reducible exact Rem.here | apply Rem.there))))) (PM.shut hz)).trans ?_
      refine Ent.put (by repeat (first | with_reducible exact Takes.nil | (apply Takes.cons; focus (repeat (first | with_reducible exact Rem.here | apply Rem.there))))) (DRep.mk (S := S) ws hx ⟨rfl, rfl, rfl, rfl, rfl, rfl⟩ rfl rfl) ?_
      repeat (first | with_reducible exact Ent.nil | (apply Ent.one; focus (repeat (first | with_reducible exact Rem.here | apply Rem.there))))
    case pos =>
      have hww : ws[i]? = some ws[i] := List.getElem?_eq_getElem hlt
      have hwb : ws[i].bs.length = 256 := hx.len _ (List.getElem_mem hlt)
      generalize ws[i] = w at hww hwb
      refine c_openSl (P := Try.prog) (xs := wcells ws) (by repeat (first | with_reducible exact Rem.here | apply Rem.there)) (fun _ _ h _ => absurd h (by omega)) (fun rb rs hl e1 h2 h3 => ?_)
      subst e1
      obtain ⟨rws, hw3, hw4⟩ := we_open hww
      refine c_ent (Takes.ent_of (P := [Star (ws.map WE.asrt)]) (by repeat (first | with_reducible exact Takes.nil | (apply Takes.cons; focus (repeat (first | with_reducible exact Rem.here | apply Rem.there))))) hw3) ?_
      simp only [List.append_eq, List.cons_append, List.nil_append, List.append_nil, tup]
      refine c_seq ?_
      refine c_region ?_
      refine o_y (y_lss_t rfl rfl (by omega)) rfl ?_
      refine o_nil ?_
      refine f_seq ?_
      refine c_seq ?_
      refine c_true rfl ?_
      refine c_skip ?_
      refine f_seq ?_
      refine c_seq ?_
      refine c_block ?_
      refine c_seq ?_
      refine c_region ?_
      refine o_y (y_indexAddr i rfl rfl rfl hlt) rfl ?_
      refine o_y (y_loadN rfl rfl (by rw [Nat.zero_add]; exact wcells_get hww)) rfl ?_
      refine o_alloc rfl (fun nb => ?_)
      refine o_store rfl rfl rfl frz0 ?_
      refine o_nil ?_
      refine f_seq ?_
      rename Nat => nw
      simp only [WE.asrt]
      refine pl_start [9, 11, 12, 15] Try.mixed ?_; intro hd
      refine pl_lock (A := Blk _ _) Rem.here rfl ?_ hd; intro hb0
      refine pl_lock (A := Blk _ _) (Rem.there (Rem.there (Rem.there Rem.here))) rfl ?_ hd; intro hb1
      refine pl_take (i := 0) rfl (by kernel_rfl) (y_move rfl) ?_ hd; clear hd; intro hd
      refine pl_take (i := 1) rfl (by kernel_rfl) (y_move rfl) ?_ hd; clear hd; intro hd
      refine pl_take (i := 2) rfl (by kernel_rfl) (y_nilCheck rfl) ?_ hd; clear hd; intro hd
      refine pl_take (i := 3) rfl (by kernel_rfl) (y_fieldAddr0 rfl) ?_ hd; clear hd; intro hd
      refine pl_take (i := 4) rfl (by kernel_rfl) (y_load rfl rfl rfl) ?_ hd; clear hd; intro hd
      refine pl_take (i := 5) rfl (by kernel_rfl) (y_fieldAddr0 rfl) ?_ hd; clear hd; intro hd
      refine pl_take (i := 6) rfl (by kernel_rfl) (y_load rfl rfl rfl) ?_ hd; clear hd; intro hd
      refine pl_take (i := 7) rfl (by kernel_rfl) (y_fieldAddr0 rfl) ?_ hd; clear hd; intro hd
      refine pl_take (i := 8) rfl (by kernel_rfl) (y_load rfl rfl rfl) ?_ hd; clear hd; intro hd
      refine pl_sole (i := 9) (by kernel_rfl) rfl ?_ hd; clear hd; intro hd
      refine o_call rfl (copied_at true w.blk 0 256 256 (w.bs.map byteV) 5 (0, 0) w.bs (by have := getN_front (w.bs.map byteV) []; simpa [hwb] using this)) (by repeat (first | with_reducible exact Takes.nil | (apply Takes.cons; focus (repeat (first | with_reducible exact Rem.here | apply Rem.there))))) rfl ?_
      rintro _ _ ⟨b1, rfl, rfl⟩
      simp only [List.append_eq, List.cons_append, List.nil_append, List.append_nil, tup]
      refine pl_back (by repeat (first | with_reducible exact Owes.nil | with_reducible refine Owes.same ?_ | with_reducible refine Owes.any ?_ | refine Owes.waived 9 (by kernel_rfl) ?_)) ?_ hd; clear hd; intro hd
      refine pl_take (i := 10) rfl (by kernel_rfl) (y_build rfl) ?_ hd; clear hd; intro hd
      refine pl_sole (i := 11) (by kernel_rfl) rfl ?_ hd; clear hd; intro hd
      refine o_buildSlice rfl rfl rfl rfl rfl (fun nb => ?_)
      refine pl_back (by repeat (first | with_reducible exact Owes.nil | with_reducible refine Owes.same ?_ | with_reducible refine Owes.any ?_ | refine Owes.waived 11 (by kernel_rfl) ?_ | refine Owes.waived 9 (by kernel_rfl) ?_)) ?_ hd; clear hd; intro hd
      refine pl_sole (i := 12) (by kernel_rfl) rfl ?_ hd; clear hd; intro hd
      refine o_append (k := 1) (ys := [.int .i64 w.page, pageV b1]) rfl rfl (Src.slice rfl) (by repeat (first | with_reducible exact Rem.here | apply Rem.there)) (by simp [pageV, Value.oneCell']) (by omega) rfl (by omega) rfl (fun a' cap' => ?_)
      refine pl_back (by repeat (first | with_reducible exact Owes.nil | with_reducible refine Owes.same ?_ | with_reducible refine Owes.any ?_ | refine Owes.waived 12 (by kernel_rfl) ?_ | refine Owes.waived 11 (by kernel_rfl) ?_ | refine Owes.waived 9 (by kernel_rfl) ?_)) ?_ hd; clear hd; intro hd
      refine pl_take (i := 13) rfl (by kernel_rfl) (y_nilCheck rfl) ?_ hd; clear hd; intro hd
      refine pl_take (i := 14) rfl (by kernel_rfl) (y_fieldAddr0 rfl) ?_ hd; clear hd; intro hd
      refine pl_sole (i := 15) (by kernel_rfl) rfl ?_ hd; clear hd; intro hd
      refine o_unlock (A := Blk _ _) ?_
      refine o_unlock (A := Blk _ _) ?_
      refine o_store rfl rfl rfl frz0 ?_
      refine pl_back (by repeat (first | with_reducible exact Owes.nil | with_reducible refine Owes.same ?_ | with_reducible refine Owes.any ?_ | refine Owes.waived 15 (by kernel_rfl) ?_ | refine Owes.waived 12 (by kernel_rfl) ?_ | refine Owes.waived 11 (by kernel_rfl) ?_ | refine Owes.waived 9 (by kernel_rfl) ?_)) ?_ hd; clear hd; intro hd
      refine pl_done (by kernel_rfl) ?_ hd
      rw [pad_full hwb]
      refine f_block ?_
      refine f_seq ?_
      refine c_region ?_
      refine o_y (y_arith64 rfl rfl rfl (by omega)) rfl ?_
      refine o_y (y_move rfl) rfl ?_
      refine o_nil ?_
      refine f_next ?_ ?_ (ih (i + 1, a', cap', ws2 ++ [WE.mk w.page b1 w.bs]) ?_ ?_)
      · dsimp only
        have e1 : (ws2 ++ [WE.mk w.page b1 w.bs]).length = ws2.length + 1 := by simp
        have e2 : wcells (ws2 ++ [WE.mk w.page b1 w.bs]) = wcells ws2 ++ [.int .i64 w.page, pageV b1] := by simp [wcells]
        rw [e1, e2]
        refine (Ent.shut (A := Star ((ws2 ++ [WE.mk w.page b1 w.bs]).map WE.asrt)) (P := [Star (ws2.map WE.asrt), Blk b1 (bobj w.bs)]) (by repeat (first | with_reducible exact Takes.nil | (apply Takes.cons; focus (repeat (first | with_reducible exact Rem.here | apply Rem.there))))) (by intro r hr; rw [List.map_append]; exact Ent.open_star r hr)).trans ?_
        try simp only [List.append_eq, List.cons_append, List.nil_append, List.append_nil, tup]
        refine (Ent.shut (A := Sl 68 2 (some ⟨rb, 0, none⟩) ws.length lc (wcells ws)) (by repeat (first | with_reducible exact Takes.nil | (apply Takes.cons; focus (repeat (first | with_reducible exact Rem.here | apply Rem.there))))) (Sl.shut hl h2 h3)).trans ?_
        refine (Takes.ent_of (P := [w.asrt, Star (rws.map WE.asrt)]) (by repeat (first | with_reducible exact Takes.nil | (apply Takes.cons; focus (repeat (first | with_reducible exact Rem.here | apply Rem.there))))) hw4).trans ?_
        try simp only [List.append_eq, List.cons_append, List.nil_append, List.append_nil, tup]
        repeat (first | with_reducible exact Ent.nil | (apply Ent.one; focus (repeat (first | with_reducible exact Rem.here | apply Rem.there))))
      · repeat (first | exact trivial | refine ⟨rfl, ?_⟩)
      · refine ⟨hlt, ⟨?_, ?_⟩⟩
        · rw [take_snoc' hww]; simp [WE.abs, hw2.abs]
        · intro w' hw'
          rcases List.mem_append.1 hw' with hw' | hw'
          · exact hw2.len w' hw'
          · rw [List.mem_singleton] at hw'; subst hw'; exact hwb
      · dsimp only; omega
end Go.Lun

/- The disk's Sync. -/
import Derived.Test.YtijahemmbooblaaDisk4
namespace Go.Lun
open Go.Proofs

def DS.sync (S : DS) : DS := { S with last := S.loose.foldl (fun f w => upd f w.1 w.2) S.last, now := fun _ => none, loose := [], fuse := S.fuse - 1 }

theorem wcells_len (ws : List WE) : (wcells ws).length = ws.length * 2 := by
  induction ws with
  | nil => rfl
  | cons w ws ih => simp [wcells] at ih ⊢; omega

theorem wcells_get {ws : List WE} {rs : List Value} : ∀ {i : Nat} {w : WE}, ws[i]? = some w → getN (wcells ws ++ rs) (i * 2) 2 = some [.int .i64 w.page, pageV w.blk] := by
  induction ws with
  | nil => intro i w h; simp at h
  | cons v ws ih =>
    intro i w h
    cases i with
    | zero => simp at h; subst h; simp [wcells, getN, takeN]
    | succ i =>
      have := ih (by simpa using h)
      have e : (i + 1) * 2 = i * 2 + 1 + 1 := by omega
      rw [e]
      exact this

def lay (f : Int → Option Bytes) (ws : List WE) : Int → Option Bytes := ws.foldl (fun f w => upd f w.page w.bs) f
theorem lay_abs (ws : List WE) : ∀ f, (ws.map WE.abs).foldl (fun f w => upd f w.1 w.2) f = lay f ws := by
  induction ws with
  | nil => intro f; rfl
  | cons w ws ih => intro f; simp only [List.map_cons, List.foldl_cons, lay]; exact ih _
theorem lay_snoc (f : Int → Option Bytes) (ws : List WE) (w : WE) : lay f (ws ++ [w]) = upd (lay f ws) w.page w.bs := by simp [lay]
theorem take_snoc' {α : Type} {l : List α} {i : Nat} {x : α} (h : l[i]? = some x) : l.take (i + 1) = l.take i ++ [x] := by
  rw [List.take_add_one, h]; rfl
theorem drop_cons' {α : Type} {l : List α} {i : Nat} {x : α} (h : l[i]? = some x) : l.drop i = x :: l.drop (i + 1) := by
  have hlt : i < l.length := by
    rcases Nat.lt_or_ge i l.length with h' | h'
    · exact h'
    · rw [List.getElem?_eq_none h'] at h; cases h
  rw [List.drop_eq_getElem_cons hlt]
  rw [List.getElem?_eq_getElem hlt] at h
  injection h with h; rw [h]

theorem sync_d (d : Nat) (S : DS) (hf : -9223372036854775808 < S.fuse) (hf' : S.fuse ≤ 9223372036854775807) (hn : S.loose.length ≤ 1000000) :
    Fn Try.prog 15 [.pointer (some ⟨d, 0, none⟩)] [DRep d S] (fun v L => v = .tuple ⟨[]⟩ ∧ L = [DRep d (if S.dead = true then S else S.sync)]) := by
  refine fn_open (A := DRep d S) Rem.here (fun x hx => ?_)
  obtain ⟨lm, nm, la, lc, ws⟩ := x
  have hwl : ws.length = S.loose.length := by rw [← hx.abs, List.length_map]
  refine fn_open (A := PM lm S.last) (.there .here) (fun y hy => ?_)
  obtain ⟨es, ck⟩ := y
  simp only [List.append_eq, List.cons_append, List.nil_append, List.append_nil, tup]
  refine fn_start Try.func15 rfl rfl rfl fun F => ?_
  refine c_seq ?_
  refine c_seq ?_
  refine c_region ?_
  refine o_y (y_move rfl) rfl ?_
  refine o_call rfl (alive_fn d S.most S.pages lm nm la ws.length lc S.fuse S.burns hf hf') (by repeat (first | with_reducible exact Takes.nil | (apply Takes.cons; focus (repeat (first | with_reducible exact Rem.here | apply Rem.there))))) rfl ?_
  rintro _ _ ⟨rfl, rfl⟩
  simp only [List.append_eq, List.cons_append, List.nil_append, List.append_nil, tup]
  cases hb : (S.burns && decide (S.fuse = 0))
  case true =>
    simp only [if_true]
    refine o_y (y_not rfl) rfl ?_
    refine o_nil ?_
    refine f_seq ?_
    refine c_true rfl ?_
    refine c_ret ?_
    refine f_seq_ret ?_
    refine f_ent ?_ (f_ret rfl ⟨rfl, rfl⟩)
    rw [if_pos (by simp [DS.dead, hb])]
    refine (Ent.shut (A := PM lm S.last) (by repeat (first | with_reducible exact Takes.nil | (apply Takes.cons; focus (repeat (first | with_reducible exact Rem.here | apply Rem.there))))) (PM.shut hy)).trans ?_
    refine Ent.put (by repeat (first | with_reducible exact Takes.nil | (apply Takes.cons; focus (repeat (first | with_reducible exact Rem.here | apply Rem.there))))) (DRep.shut ⟨lm, nm, la, lc, ws⟩ hx) ?_
    repeat (first | with_reducible exact Ent.nil | (apply Ent.one; focus (repeat (first | with_reducible exact Rem.here | apply Rem.there))))
  case false =>
    simp only [Bool.false_eq_true, if_false]
    refine o_y (y_not rfl) rfl ?_
    refine o_nil ?_
    refine f_seq ?_
    refine c_false rfl ?_
    refine c_skip ?_
    refine f_seq ?_
    refine c_seq ?_
    refine c_seq ?_
    refine c_region ?_
    refine o_y (y_move rfl) rfl ?_
    refine o_y (y_nilCheck rfl) rfl ?_
    refine o_y (y_fieldAddr0 rfl) rfl ?_
    refine o_y (y_load rfl rfl rfl) rfl ?_
    refine o_y (y_len_slice rfl) rfl ?_
    refine o_y (y_move rfl) rfl ?_
    refine o_nil ?_
    refine f_seq ?_
    refine c_block ?_
    refine c_openSl (by repeat (first | with_reducible exact Rem.here | apply Rem.there)) (fun hl h1 h2 h3 => ?_) (fun rb rs hl h1 h2 h3 => ?_)
    · have hw0 : ws = [] := List.length_eq_zero_iff.1 h2
      subst h1; subst hw0; subst h3
      simp only [List.length_nil]
      refine c_loop ?_
      refine c_seq ?_
      refine c_region ?_
      refine o_y (y_lss_f rfl rfl (by omega)) rfl ?_
      refine o_nil ?_
      refine f_seq ?_
      refine c_seq ?_
      refine c_false rfl ?_
      refine c_exit ?_
      refine f_seq_exit ?_
      refine f_seq_exit ?_
      refine f_block_here ?_
      refine f_seq ?_
      refine c_region ?_
      refine o_y (y_move rfl) rfl ?_
      refine o_call rfl (done_f d S.most S.pages (S.fuse - 1) lm nm 0 0 none S.burns S.now) (by repeat (first | with_reducible exact Takes.nil | (apply Takes.cons; focus (repeat (first | with_reducible exact Rem.here | apply Rem.there))))) rfl ?_
      rintro _ _ ⟨rfl, rfl⟩
      simp only [List.append_eq, List.cons_append, List.nil_append, List.append_nil, tup]
      refine o_nil ?_
      refine f_ent ?_ (f_end rfl ⟨rfl, rfl⟩)
      rw [if_neg (by simp [DS.dead, hb])]
      have hlo : S.loose = [] := by rw [← hx.abs]; rfl
      refine (Ent.shut (A := PM lm S.last) (by repeat (first | with_reducible exact Takes.nil | (apply Takes.cons; focus (repeat (first | with_reducible exact Rem.here | apply Rem.there))))) (PM.shut hy)).trans ?_
      refine (Ent.shut (A := Sl 68 2 none 0 0 []) (P := []) (by repeat (first | with_reducible exact Takes.nil | (apply Takes.cons; focus (repeat (first | with_reducible exact Rem.here | apply Rem.there))))) Sl.shut_nil).trans ?_
      refine Ent.put (by repeat (first | with_reducible exact Takes.nil | (apply Takes.cons; focus (repeat (first | with_reducible exact Rem.here | apply Rem.there))))) (DRep.mk (S := S.sync) [] ⟨rfl, by simp⟩ ?_ ?_ ?_) ?_
      rotate_left 3
      · repeat (first | with_reducible exact Ent.nil | (apply Ent.one; focus (repeat (first | with_reducible exact Rem.here | apply Rem.there))))
      · exact ⟨rfl, rfl, rfl, rfl, by simp [DS.sync, hlo], rfl⟩
      · rfl
      · rfl
    · subst h1
      refine c_loop_inv (X := Nat × List PE × Nat) (fun x => x.1 ≤ ws.length ∧ PMok x.2.1 x.2.2 (lay S.last (ws.take x.1))) (fun x => ws.length - x.1)
        (fun x => [Blk d (dobj S.most S.pages lm (.slice (some ⟨rb, 0, none⟩) ws.length lc) nm (S.fuse - 1) S.burns), Blk lm (.map (pents x.2.1) x.2.2), Star (x.2.1.map PE.asrt), Star ((ws.drop x.1).map WE.asrt), Blk rb (.cells ⟨wcells ws ++ rs⟩ 68 (0, 0)), PM nm S.now])
        (fun x => [(0, .pointer (some ⟨d, 0, none⟩)), (10, .slice (some ⟨rb, 0, none⟩) ws.length lc), (11, .int .i64 (ws.length : Int)), (12, .int .i64 (x.1 : Int))]) (0, es, ck) ⟨Nat.zero_le _, hy⟩ (by simp only [List.drop_zero]; repeat (first | with_reducible exact Ent.nil | (apply Ent.one; focus (repeat (first | with_reducible exact Rem.here | apply Rem.there))))) (by repeat (first | exact trivial | refine ⟨rfl, ?_⟩)) ?_
      rintro ⟨i, es, ck⟩ ⟨hi, hy⟩ ih
      dsimp only at hi hy ih ⊢
      by_cases hlt : i < ws.length
      · have hw : ws[i]? = some ws[i] := List.getElem?_eq_getElem hlt
        generalize ws[i] = w at hw
        rw [drop_cons' hw, List.map_cons]
        refine c_ent (Takes.ent_of (P := [Star (w.asrt :: (ws.drop (i + 1)).map WE.asrt)]) (M := [w.asrt, Star ((ws.drop (i + 1)).map WE.asrt)]) (by repeat (first | with_reducible exact Takes.nil | (apply Takes.cons; focus (repeat (first | with_reducible exact Rem.here | apply Rem.there))))) Ent.star_cons) ?_
        simp only [List.append_eq, List.cons_append, List.nil_append, List.append_nil, tup]
        refine c_seq ?_
        refine c_region ?_
        refine o_y (y_lss_t rfl rfl (by omega)) rfl ?_
        refine o_nil ?_
        refine f_seq ?_
        refine c_seq ?_
        refine c_true rfl ?_
        refine c_skip ?_
        refine f_seq ?_
        refine c_seq ?_
        refine c_block ?_
        refine c_seq ?_
        refine c_region ?_
        refine o_y (y_indexAddr i rfl rfl rfl hlt) rfl ?_
        refine o_y (y_loadN rfl rfl (by rw [Nat.zero_add]; exact wcells_get hw)) rfl ?_
        refine o_alloc rfl (fun nb => ?_)
        refine o_store rfl rfl rfl frz0 ?_
        refine o_nil ?_
        refine f_seq ?_
        have hl256 : w.bs.length = 256 := hx.len w (List.mem_of_getElem? hw)
        refine pl_start [8] Try.mixed ?_; intro hd
        refine pl_lock (A := Blk _ _) Rem.here rfl ?_ hd; intro hb0
        refine pl_lock (A := Blk _ _) (Rem.there (Rem.there Rem.here)) rfl ?_ hd; intro hb1
        refine pl_take (i := 0) rfl (by kernel_rfl) (y_move rfl) ?_ hd; clear hd; intro hd
        refine pl_take (i := 1) rfl (by kernel_rfl) (y_nilCheck rfl) ?_ hd; clear hd; intro hd
        refine pl_take (i := 2) rfl (by kernel_rfl) (y_fieldAddr0 rfl) ?_ hd; clear hd; intro hd
        refine pl_take (i := 3) rfl (by kernel_rfl) (y_load rfl rfl rfl) ?_ hd; clear hd; intro hd
        refine pl_take (i := 4) rfl (by kernel_rfl) (y_fieldAddr0 rfl) ?_ hd; clear hd; intro hd
        refine pl_take (i := 5) rfl (by kernel_rfl) (y_load rfl rfl rfl) ?_ hd; clear hd; intro hd
        refine pl_take (i := 6) rfl (by kernel_rfl) (y_fieldAddr0 rfl) ?_ hd; clear hd; intro hd
        refine pl_take (i := 7) rfl (by kernel_rfl) (y_load rfl rfl rfl) ?_ hd; clear hd; intro hd
        refine pl_sole (i := 8) (by kernel_rfl) rfl ?_ hd; clear hd; intro hd
        refine o_mapUpdate (es := es.map PE.ent) (v := pageV w.blk) rfl rfl rfl ?_
        refine pl_back (by repeat (first | with_reducible exact Owes.nil | with_reducible refine Owes.same ?_ | with_reducible refine Owes.any ?_ | refine Owes.waived 8 (by kernel_rfl) ?_)) ?_ hd; clear hd; intro hd
        refine pl_done (by kernel_rfl) ?_ hd
        refine f_unlock (A := Blk _ _) ?_
        refine f_unlock (A := Blk _ _) ?_
        obtain ⟨es', ck', g1, g2, g3⟩ := hy.put w.page w.blk w.bs hl256
        rw [g1]
        refine f_ent (Takes.ent_of (by repeat (first | with_reducible exact Takes.nil | (apply Takes.cons; focus (repeat (first | with_reducible exact Rem.here | apply Rem.there))))) g3) ?_
        simp only [List.append_eq, List.cons_append, List.nil_append, List.append_nil, tup]
        refine f_block ?_
        refine f_seq ?_
        refine c_region ?_
        refine o_y (y_arith64 rfl rfl rfl (by omega)) rfl ?_
        refine o_y (y_move rfl) rfl ?_
        refine o_nil ?_
        refine f_next ?_ ?_ (ih (i + 1, es', ck') ⟨hlt, ?_⟩ ?_)
        · repeat (first | with_reducible exact Ent.nil | (apply Ent.one; focus (repeat (first | with_reducible exact Rem.here | apply Rem.there))))
        · repeat (first | exact trivial | refine ⟨rfl, ?_⟩)
        · rw [take_snoc' hw, lay_snoc]; exact g2
        · dsimp only; omega
      · have hi' : i = ws.length := by omega
        subst hi'
        rw [List.take_length] at hy
        refine c_seq ?_
        refine c_region ?_
        refine o_y (y_lss_f rfl rfl (by omega)) rfl ?_
        refine o_nil ?_
        refine f_seq ?_
        refine c_seq ?_
        refine c_false rfl ?_
        refine c_exit ?_
        refine f_seq_exit ?_
        refine f_seq_exit ?_
        refine f_block_here ?_
        refine f_seq ?_
        refine c_region ?_
        refine o_y (y_move rfl) rfl ?_
        refine o_call rfl (done_f d S.most S.pages (S.fuse - 1) lm nm ws.length lc (some ⟨rb, 0, none⟩) S.burns S.now) (by repeat (first | with_reducible exact Takes.nil | (apply Takes.cons; focus (repeat (first | with_reducible exact Rem.here | apply Rem.there))))) rfl ?_
        rintro _ _ ⟨rfl, rfl⟩
        simp only [List.append_eq, List.cons_append, List.nil_append, List.append_nil, tup]
        refine o_nil ?_
        refine f_ent ?_ (f_end rfl ⟨rfl, rfl⟩)
        rw [if_neg (by simp [DS.dead, hb])]
        have hlo : S.sync.last = lay S.last ws := by simp only [DS.sync]; rw [← hx.abs]; exact lay_abs ws S.last
        rw [← hlo] at hy
        refine (Ent.shut (A := PM lm S.sync.last) (by repeat (first | with_reducible exact Takes.nil | (apply Takes.cons; focus (repeat (first | with_reducible exact Rem.here | apply Rem.there))))) (PM.shut hy)).trans ?_
        refine (Ent.shut (A := Sl 68 2 none 0 0 []) (P := []) (by repeat (first | with_reducible exact Takes.nil | (apply Takes.cons; focus (repeat (first | with_reducible exact Rem.here | apply Rem.there))))) Sl.shut_nil).trans ?_
        refine (Ent.shut (A := Star (([] : List WE).map WE.asrt)) (P := []) (by repeat (first | with_reducible exact Takes.nil | (apply Takes.cons; focus (repeat (first | with_reducible exact Rem.here | apply Rem.there))))) (fun _ _ => trivial)).trans ?_
        refine Ent.put (by repeat (first | with_reducible exact Takes.nil | (apply Takes.cons; focus (repeat (first | with_reducible exact Rem.here | apply Rem.there))))) (DRep.mk (S := S.sync) [] ⟨rfl, by simp⟩ ?_ ?_ ?_) ?_
        rotate_left 3
        · repeat (first | with_reducible exact Ent.nil | (apply Ent.one; focus (repeat (first | with_reducible exact Rem.here | apply Rem.there))))
        · exact ⟨rfl, rfl, rfl, rfl, rfl, rfl⟩
        · rfl
        · rfl
end Go.Lun

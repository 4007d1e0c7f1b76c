/- The disk's Write, Read, Sync, Fuse, New. -/
import Derived.Test.YtijahemmbooblaaDisk2
namespace Go.Lun
open Go.Proofs

def DS.write (S : DS) (p : Int) (l : Bytes) : DS := { S with loose := S.loose ++ [(p, l)], now := upd S.now p l, fuse := S.fuse - 1 }

theorem pad_len (l : Bytes) : (pad l).length = 256 := by unfold pad; rw [List.length_append, List.length_take, List.length_replicate]; omega
theorem pad_full {l : Bytes} (h : l.length = 256) : pad l = l := by
  unfold pad; rw [List.take_of_length_le (by omega), h]; simp

theorem write_d (d : Nat) (S : DS) (page : Int) (b off k cap : Nat) (cs : List Value) (T : TypeId) (fz : Nat × Nat) (q : Bool) (l : Bytes) (hl : getN cs off k = some (l.map byteV))
    (hf : -9223372036854775808 < S.fuse) (hf' : S.fuse ≤ 9223372036854775807) (hn : S.loose.length ≤ 1000000) (hk : k ≤ 140737488355328) :
    Fn Try.prog 13 [.pointer (some ⟨d, 0, none⟩), .int .i64 page, .slice (some ⟨b, off, none⟩) k cap] [DRep d S, Bkp q b (.cells ⟨cs⟩ T fz)]
    (fun v L => ∃ S' c, v = .int .i64 c ∧ L = [DRep d S', Bkp q b (.cells ⟨cs⟩ T fz)] ∧
      (if ¬ S.has page then c = 30 ∧ S' = S else if l.length ≠ 256 then c = 31 ∧ S' = S else if S.dead = true then c = 33 ∧ S' = S else c = 0 ∧ S' = S.write page l)) := by
  have hlk : l.length = k := by have := getN_length hl; simpa using this
  refine fn_open (A := DRep d S) Rem.here (fun x hx => ?_)
  have hwl : x.ws.length = S.loose.length := by rw [← hx.abs, List.length_map]
  refine fn_open (A := PM x.nm S.now) (.there (.there .here)) (fun y hy => ?_)
  obtain ⟨es, ck⟩ := y
  simp only [List.append_eq, List.cons_append, List.nil_append, List.append_nil, tup]
  refine fn_start Try.func13 rfl rfl rfl fun F => ?_
  refine c_seq ?_
  refine c_region ?_
  refine o_y (y_assign rfl) rfl ?_
  refine o_nil ?_
  refine f_seq ?_
  refine c_seq ?_
  refine c_block ?_
  refine c_seq ?_
  refine c_region ?_
  refine o_y (y_move rfl) rfl ?_
  refine o_y (y_move rfl) rfl ?_
  refine o_call rfl (has_fn d S.most S.pages x.lm x.nm x.la x.ws.length x.lc S.fuse S.burns page) (by repeat (first | with_reducible exact Takes.nil | (apply Takes.cons; focus (repeat (first | with_reducible exact Rem.here | apply Rem.there))))) rfl ?_
  rintro _ _ ⟨rfl, rfl⟩
  simp only [List.append_eq, List.cons_append, List.nil_append, List.append_nil, tup]
  by_cases hp : S.has page
  case neg =>
    have hp' : decide (0 ≤ page ∧ page < S.pages) = false := by simpa [DS.has] using hp
    rw [hp']
    refine o_y (y_not rfl) rfl ?_
    refine o_y (y_assign rfl) rfl ?_
    refine o_nil ?_
    refine f_seq ?_
    refine c_true rfl ?_
    refine c_seq ?_
    refine c_region ?_
    refine o_y (y_assign rfl) rfl ?_
    refine o_nil ?_
    refine f_seq ?_
    refine c_ret ?_
    refine f_block_ret ?_
    refine f_seq_ret ?_
    refine f_ent ?_ (f_ret rfl ⟨S, 30, rfl, rfl, by rw [if_pos hp]; exact ⟨rfl, rfl⟩⟩)
    refine (Ent.shut (A := PM x.nm S.now) (by repeat (first | with_reducible exact Takes.nil | (apply Takes.cons; focus (repeat (first | with_reducible exact Rem.here | apply Rem.there))))) (PM.shut hy)).trans ?_
    refine Ent.put (by repeat (first | with_reducible exact Takes.nil | (apply Takes.cons; focus (repeat (first | with_reducible exact Rem.here | apply Rem.there))))) (DRep.shut x hx) ?_
    repeat (first | with_reducible exact Ent.nil | (apply Ent.one; focus (repeat (first | with_reducible exact Rem.here | apply Rem.there))))
  case pos =>
    have hp' : decide (0 ≤ page ∧ page < S.pages) = true := by simpa [DS.has] using hp
    rw [hp']
    by_cases h256 : l.length ≠ 256
    · refine o_y (y_not rfl) rfl ?_
      refine o_y (y_assign rfl) rfl ?_
      refine o_nil ?_
      refine f_seq ?_
      refine c_false rfl ?_
      refine c_seq ?_
      refine c_region ?_
      refine o_y (y_move rfl) rfl ?_
      refine o_y (y_len_slice rfl) rfl ?_
      refine o_y (y_neq_t rfl rfl (by omega)) rfl ?_
      refine o_y (y_assign rfl) rfl ?_
      refine o_nil ?_
      refine f_seq ?_
      refine c_true rfl ?_
      refine c_seq ?_
      refine c_region ?_
      refine o_y (y_assign rfl) rfl ?_
      refine o_nil ?_
      refine f_seq ?_
      refine c_ret ?_
      refine f_block_ret ?_
      refine f_seq_ret ?_
      refine f_ent ?_ (f_ret rfl ⟨S, 31, rfl, rfl, by rw [if_neg (not_not_intro hp), if_pos h256]; exact ⟨rfl, rfl⟩⟩)
      refine (Ent.shut (A := PM x.nm S.now) (by repeat (first | with_reducible exact Takes.nil | (apply Takes.cons; focus (repeat (first | with_reducible exact Rem.here | apply Rem.there))))) (PM.shut hy)).trans ?_
      refine Ent.put (by repeat (first | with_reducible exact Takes.nil | (apply Takes.cons; focus (repeat (first | with_reducible exact Rem.here | apply Rem.there))))) (DRep.shut x hx) ?_
      repeat (first | with_reducible exact Ent.nil | (apply Ent.one; focus (repeat (first | with_reducible exact Rem.here | apply Rem.there))))
    have h256' : l.length = 256 := Decidable.not_not.1 h256
    refine o_y (y_not rfl) rfl ?_
    refine o_y (y_assign rfl) rfl ?_
    refine o_nil ?_
    refine f_seq ?_
    refine c_false rfl ?_
    refine c_seq ?_
    refine c_region ?_
    refine o_y (y_move rfl) rfl ?_
    refine o_y (y_len_slice rfl) rfl ?_
    refine o_y (y_neq_f rfl rfl (by omega)) rfl ?_
    refine o_y (y_assign rfl) rfl ?_
    refine o_nil ?_
    refine f_seq ?_
    refine c_false rfl ?_
    refine c_seq ?_
    refine c_region ?_
    refine o_y (y_move rfl) rfl ?_
    refine o_call rfl (alive_fn d S.most S.pages x.lm x.nm x.la x.ws.length x.lc S.fuse S.burns hf hf') (by repeat (first | with_reducible exact Takes.nil | (apply Takes.cons; focus (repeat (first | with_reducible exact Rem.here | apply Rem.there))))) rfl ?_
    rintro _ _ ⟨rfl, rfl⟩
    simp only [List.append_eq, List.cons_append, List.nil_append, List.append_nil, tup]
    cases hb : (S.burns && decide (S.fuse = 0))
    case true =>
      simp only [if_true]
      refine o_y (y_not rfl) rfl ?_
      refine o_y (y_assign rfl) rfl ?_
      refine o_nil ?_
      refine f_seq ?_
      refine c_true rfl ?_
      refine c_seq ?_
      refine c_region ?_
      refine o_y (y_assign rfl) rfl ?_
      refine o_nil ?_
      refine f_seq ?_
      refine c_ret ?_
      refine f_block_ret ?_
      refine f_seq_ret ?_
      refine f_ent ?_ (f_ret rfl ⟨S, 33, rfl, rfl, by rw [if_neg (not_not_intro hp), if_neg h256, if_pos (by simp [DS.dead, hb])]; exact ⟨rfl, rfl⟩⟩)
      refine (Ent.shut (A := PM x.nm S.now) (by repeat (first | with_reducible exact Takes.nil | (apply Takes.cons; focus (repeat (first | with_reducible exact Rem.here | apply Rem.there))))) (PM.shut hy)).trans ?_
      refine Ent.put (by repeat (first | with_reducible exact Takes.nil | (apply Takes.cons; focus (repeat (first | with_reducible exact Rem.here | apply Rem.there))))) (DRep.shut x hx) ?_
      repeat (first | with_reducible exact Ent.nil | (apply Ent.one; focus (repeat (first | with_reducible exact Rem.here | apply Rem.there))))
    case false =>
      simp only [Bool.false_eq_true, if_false]
      refine o_y (y_not rfl) rfl ?_
      refine o_y (y_assign rfl) rfl ?_
      refine o_nil ?_
      refine f_seq ?_
      refine c_false rfl ?_
      refine c_skip ?_
      refine f_block ?_
      refine f_seq ?_
      refine c_seq ?_
      refine pl_start [7, 9, 10, 13] Try.mixed ?_; intro hd
      refine pl_lock (A := Blk _ _) Rem.here rfl ?_ hd; intro hb0
      refine pl_take (i := 0) rfl (by kernel_rfl) (y_move rfl) ?_ hd; clear hd; intro hd
      refine pl_take (i := 1) rfl (by kernel_rfl) (y_move rfl) ?_ hd; clear hd; intro hd
      refine pl_take (i := 2) rfl (by kernel_rfl) (y_nilCheck rfl) ?_ hd; clear hd; intro hd
      refine pl_take (i := 3) rfl (by kernel_rfl) (y_fieldAddr0 rfl) ?_ hd; clear hd; intro hd
      refine pl_take (i := 4) rfl (by kernel_rfl) (y_load rfl rfl rfl) ?_ hd; clear hd; intro hd
      refine pl_take (i := 5) rfl (by kernel_rfl) (y_move rfl) ?_ hd; clear hd; intro hd
      refine pl_take (i := 6) rfl (by kernel_rfl) (y_move rfl) ?_ hd; clear hd; intro hd
      refine pl_sole (i := 7) (by kernel_rfl) rfl ?_ hd; clear hd; intro hd
      refine o_call rfl (copied_at q b off k cap cs T fz l hl) (by repeat (first | with_reducible exact Takes.nil | (apply Takes.cons; focus (repeat (first | with_reducible exact Rem.here | apply Rem.there))))) rfl ?_
      rintro _ _ ⟨b1, rfl, rfl⟩
      simp only [List.append_eq, List.cons_append, List.nil_append, List.append_nil, tup]
      refine pl_back (by repeat (first | with_reducible exact Owes.nil | with_reducible refine Owes.same ?_ | with_reducible refine Owes.any ?_ | refine Owes.waived 7 (by kernel_rfl) ?_)) ?_ hd; clear hd; intro hd
      refine pl_take (i := 8) rfl (by kernel_rfl) (y_build rfl) ?_ hd; clear hd; intro hd
      refine pl_sole (i := 9) (by kernel_rfl) rfl ?_ hd; clear hd; intro hd
      refine o_buildSlice rfl rfl rfl rfl rfl (fun nb => ?_)
      refine pl_back (by repeat (first | with_reducible exact Owes.nil | with_reducible refine Owes.same ?_ | with_reducible refine Owes.any ?_ | refine Owes.waived 9 (by kernel_rfl) ?_ | refine Owes.waived 7 (by kernel_rfl) ?_)) ?_ hd; clear hd; intro hd
      refine pl_sole (i := 10) (by kernel_rfl) rfl ?_ hd; clear hd; intro hd
      refine o_append (k := 1) (ys := [.int .i64 page, pageV b1]) rfl rfl (Src.slice rfl) (by repeat (first | with_reducible exact Rem.here | apply Rem.there)) (by simp [pageV, Value.oneCell']) (by omega) rfl (by omega) rfl (fun a' cap' => ?_)
      refine pl_back (by repeat (first | with_reducible exact Owes.nil | with_reducible refine Owes.same ?_ | with_reducible refine Owes.any ?_ | refine Owes.waived 10 (by kernel_rfl) ?_ | refine Owes.waived 9 (by kernel_rfl) ?_ | refine Owes.waived 7 (by kernel_rfl) ?_)) ?_ hd; clear hd; intro hd
      refine pl_take (i := 11) rfl (by kernel_rfl) (y_nilCheck rfl) ?_ hd; clear hd; intro hd
      refine pl_take (i := 12) rfl (by kernel_rfl) (y_fieldAddr0 rfl) ?_ hd; clear hd; intro hd
      refine pl_sole (i := 13) (by kernel_rfl) rfl ?_ hd; clear hd; intro hd
      refine o_unlock (A := Blk _ _) ?_
      refine o_store rfl rfl rfl frz0 ?_
      refine pl_back (by repeat (first | with_reducible exact Owes.nil | with_reducible refine Owes.same ?_ | with_reducible refine Owes.any ?_ | refine Owes.waived 13 (by kernel_rfl) ?_ | refine Owes.waived 10 (by kernel_rfl) ?_ | refine Owes.waived 9 (by kernel_rfl) ?_ | refine Owes.waived 7 (by kernel_rfl) ?_)) ?_ hd; clear hd; intro hd
      refine pl_done (by kernel_rfl) ?_ hd
      refine f_seq ?_
      refine c_seq ?_
      refine pl_start [6, 7] Try.mixed ?_; intro hd
      refine pl_lock (A := Blk _ _) Rem.here rfl ?_ hd; intro hb0
      refine pl_take (i := 0) rfl (by kernel_rfl) (y_move rfl) ?_ hd; clear hd; intro hd
      refine pl_take (i := 1) rfl (by kernel_rfl) (y_nilCheck rfl) ?_ hd; clear hd; intro hd
      refine pl_take (i := 2) rfl (by kernel_rfl) (y_fieldAddr0 rfl) ?_ hd; clear hd; intro hd
      refine pl_take (i := 3) rfl (by kernel_rfl) (y_load rfl rfl rfl) ?_ hd; clear hd; intro hd
      refine pl_take (i := 4) rfl (by kernel_rfl) (y_move rfl) ?_ hd; clear hd; intro hd
      refine pl_take (i := 5) rfl (by kernel_rfl) (y_move rfl) ?_ hd; clear hd; intro hd
      refine pl_sole (i := 6) (by kernel_rfl) rfl ?_ hd; clear hd; intro hd
      refine o_call rfl (copied_at q b off k cap cs T fz l hl) (by repeat (first | with_reducible exact Takes.nil | (apply Takes.cons; focus (repeat (first | with_reducible exact Rem.here | apply Rem.there))))) rfl ?_
      rintro _ _ ⟨b2, rfl, rfl⟩
      simp only [List.append_eq, List.cons_append, List.nil_append, List.append_nil, tup]
      refine pl_back (by repeat (first | with_reducible exact Owes.nil | with_reducible refine Owes.same ?_ | with_reducible refine Owes.any ?_ | refine Owes.waived 6 (by kernel_rfl) ?_)) ?_ hd; clear hd; intro hd
      refine pl_sole (i := 7) (by kernel_rfl) rfl ?_ hd; clear hd; intro hd
      refine o_mapUpdate (es := es.map PE.ent) (v := pageV b2) rfl rfl rfl ?_
      refine pl_back (by repeat (first | with_reducible exact Owes.nil | with_reducible refine Owes.same ?_ | with_reducible refine Owes.any ?_ | refine Owes.waived 7 (by kernel_rfl) ?_ | refine Owes.waived 6 (by kernel_rfl) ?_)) ?_ hd; clear hd; intro hd
      refine pl_done (by kernel_rfl) ?_ hd
      refine f_unlock (A := Blk _ _) ?_
      refine f_seq ?_
      refine c_seq ?_
      refine c_region ?_
      refine o_y (y_assign rfl) rfl ?_
      refine o_nil ?_
      refine f_seq ?_
      refine c_ret ?_
      rw [pad_full h256']
      obtain ⟨es', ck', h1, h2, h3⟩ := hy.put page b2 l h256'
      rw [h1]
      refine f_ent ?_ (f_ret rfl ⟨S.write page l, 0, rfl, rfl, by rw [if_neg (not_not_intro hp), if_neg h256, if_neg (by simp [DS.dead, hb])]; exact ⟨rfl, rfl⟩⟩)
      refine (Takes.ent_of (by repeat (first | with_reducible exact Takes.nil | (apply Takes.cons; focus (repeat (first | with_reducible exact Rem.here | apply Rem.there))))) h3).trans ?_
      simp only [List.append_eq, List.cons_append, List.nil_append, List.append_nil, tup]
      refine (Ent.shut (A := PM x.nm (upd S.now page l)) (by repeat (first | with_reducible exact Takes.nil | (apply Takes.cons; focus (repeat (first | with_reducible exact Rem.here | apply Rem.there))))) (PM.shut h2)).trans ?_
      refine (Ent.shut (A := Star ((x.ws ++ [WE.mk page b1 l]).map WE.asrt)) (P := [Star (x.ws.map WE.asrt), Blk b1 (bobj l)]) (by repeat (first | with_reducible exact Takes.nil | (apply Takes.cons; focus (repeat (first | with_reducible exact Rem.here | apply Rem.there))))) ?_).trans ?_
      · intro r hr
        rw [List.map_append]
        exact Ent.open_star r hr
      refine Ent.put (by repeat (first | with_reducible exact Takes.nil | (apply Takes.cons; focus (repeat (first | with_reducible exact Rem.here | apply Rem.there))))) (DRep.mk (S := S.write page l) (x.ws ++ [WE.mk page b1 l]) ⟨?_, ?_⟩ ?_ ?_ ?_) ?_
      · simp [DS.write, WE.abs, ← hx.abs]
      · intro w hw
        rcases List.mem_append.1 hw with hw | hw
        · exact hx.len w hw
        · rw [List.mem_singleton] at hw; subst hw; exact h256'
      · exact ⟨rfl, rfl, rfl, rfl, rfl, rfl⟩
      · simp
      · simp [wcells]
      repeat (first | with_reducible exact Ent.nil | (apply Ent.one; focus (repeat (first | with_reducible exact Rem.here | apply Rem.there))))
end Go.Lun

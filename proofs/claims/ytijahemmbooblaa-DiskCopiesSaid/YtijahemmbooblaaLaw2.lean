/- The law on torn pages. -/
import Derived.Test.YtijahemmbooblaaLaw1
namespace Go.Lun
open Go.Proofs

theorem splb_get : ∀ (vs l : Bytes) (k i : Nat), k + vs.length ≤ l.length → (splb l k vs)[i]? = if k ≤ i ∧ i < k + vs.length then vs[i - k]? else l[i]?
  | [], l, k, i, _ => by rw [if_neg (by simp only [List.length_nil]; omega)]; rfl
  | v :: vs, l, k, i, h => by
    simp only [List.length_cons] at h ⊢
    simp only [splb]
    rw [splb_get vs _ _ _ (by simp; omega)]
    by_cases h1 : i = k
    · subst h1
      rw [if_neg (by omega), if_pos (by omega), List.getElem?_set_self (by omega), Nat.sub_self]; rfl
    · by_cases h2 : k + 1 ≤ i ∧ i < k + 1 + vs.length
      · rw [if_pos h2, if_pos (by omega)]
        have : i - k = (i - (k + 1)) + 1 := by omega
        rw [this, List.getElem?_cons_succ]
      · rw [if_neg h2, if_neg (by omega), List.getElem?_set_ne (by omega)]

theorem tear_get (sec : Nat) (b l : Bytes) (hl : l.length = 256) (hb : b.length = 256) (i : Nat) (hi : i < 256) : ∀ s, s ≤ 4 → (tear sec b s l)[i]? = if i / 64 < s ∧ sec / 2 ^ (i / 64) % 2 = 1 then b[i]? else l[i]?
  | 0, _ => by rw [if_neg (by omega)]; rfl
  | s + 1, hs => by
    have ih := tear_get sec b l hl hb i hi s (by omega)
    have hlen := tear_len sec b s l
    have hv : ((b.drop (s * 64)).take 64).length = 64 := by rw [List.length_take, List.length_drop]; omega
    simp only [tear]
    by_cases h1 : sec / 2 ^ s % 2 = 1
    · rw [if_pos h1, splb_get _ _ _ _ (by rw [hv, hlen, hl]; omega), hv]
      by_cases h2 : s * 64 ≤ i ∧ i < s * 64 + 64
      · have h3 : i / 64 = s := by omega
        rw [if_pos h2, h3, if_pos ⟨by omega, h1⟩, List.getElem?_take_of_lt (by omega), List.getElem?_drop]
        congr 1; omega
      · rw [if_neg h2, ih]
        have h3 : i / 64 < s + 1 ↔ i / 64 < s := by omega
        simp only [h3]
    · rw [if_neg h1, ih]
      by_cases h2 : i / 64 = s
      · rw [h2, if_neg (by omega), if_neg (by intro h; exact h1 h.2)]
      · have h3 : i / 64 < s + 1 ↔ i / 64 < s := by omega
        simp only [h3]

theorem pad0 : pad [] = List.replicate 256 0 := by unfold pad; rw [List.take_nil, List.nil_append]; rfl

section
variable (a b sec : UInt8)
def ST1 : DS := (DS.new 3).grow 2
def ST2 : DS := ST1.write 1 (List.replicate 256 a)
def ST3 : DS := (ST2 a).sync
def ST4 : DS := (ST3 a).write 1 (List.replicate 256 b)
def ST5 : DS := (ST4 a b).crash [⟨0, sec.toNat⟩]

theorem st5_read : (ST5 a b sec).read 1 = tear sec.toNat (List.replicate 256 b) 4 (List.replicate 256 a) := rfl
theorem st5_read0 : (ST5 a b sec).read 0 = pad [] := rfl
end

set_option maxHeartbeats 1600000 in
theorem tears_f (a b sec : UInt8) : Fn Try.prog 3 [byteV a, byteV b, byteV sec] [] (fun v L => v = .bool true ∧ L = []) := by
  refine fn_start Try.func3 rfl rfl rfl fun F => ?_
  refine c_seq ?_
  refine c_region ?_
  refine o_y (y_assign rfl) rfl ?_
  refine o_nil ?_
  refine f_seq ?_
  refine c_seq ?_
  refine c_region ?_
  refine o_call rfl (new_d 3) (by repeat (first | with_reducible exact Takes.nil | (apply Takes.cons; focus (repeat (first | with_reducible exact Rem.here | apply Rem.there))))) rfl ?_
  rintro _ _ (⟨h, -⟩ | ⟨-, d, rfl, rfl⟩)
  · omega
  simp only [List.append_eq, List.cons_append, List.nil_append, List.append_nil, tup]
  refine o_y (y_move rfl) rfl ?_
  refine o_y (y_extract rfl rfl) rfl ?_
  refine o_y (y_extract rfl rfl) rfl ?_
  refine o_y (y_assign rfl) rfl ?_
  refine o_y (y_assign rfl) rfl ?_
  refine o_nil ?_
  refine f_seq ?_
  refine c_seq ?_
  refine c_seq ?_
  refine c_region ?_
  refine o_call rfl awake_f (by repeat (first | with_reducible exact Takes.nil | (apply Takes.cons; focus (repeat (first | with_reducible exact Rem.here | apply Rem.there))))) rfl ?_
  rintro _ _ ⟨rfl, rfl⟩
  simp only [List.append_eq, List.cons_append, List.nil_append, List.append_nil, tup]
  refine o_y (y_not rfl) rfl ?_
  refine o_y (y_move rfl) rfl ?_
  refine o_want rfl ?_
  refine o_y (y_move rfl) rfl ?_
  refine o_want rfl ?_
  refine o_y (y_neq_f rfl rfl (by omega)) rfl ?_
  refine o_y (y_pick_f rfl rfl) rfl ?_
  refine o_y (y_move rfl) rfl ?_
  refine o_want rfl ?_
  refine o_y (y_move rfl) rfl ?_
  refine o_want rfl ?_
  refine o_y (y_eql_nil rfl rfl) rfl ?_
  refine o_y (y_pick_f rfl rfl) rfl ?_
  refine o_y (y_move rfl) rfl ?_
  refine o_want rfl ?_
  refine o_y (y_move rfl) rfl ?_
  refine o_want rfl ?_
  refine o_call rfl (grow_ok d (DS.new 3) 2 (by decide) rfl) (by repeat (first | with_reducible exact Takes.nil | (apply Takes.cons; focus (repeat (first | with_reducible exact Rem.here | apply Rem.there))))) rfl ?_
  rintro _ _ ⟨rfl, rfl⟩
  simp only [List.append_eq, List.cons_append, List.nil_append, List.append_nil, tup]
  rw [show (DS.new 3).grow 2 = ST1 from rfl]
  refine o_want rfl ?_
  refine o_y (y_neq_f rfl rfl (by omega)) rfl ?_
  refine o_y (y_pick_f rfl rfl) rfl ?_
  refine o_y (y_move rfl) rfl ?_
  refine o_want rfl ?_
  refine o_y (y_move rfl) rfl ?_
  refine o_want rfl ?_
  refine o_y (y_move rfl) rfl ?_
  refine o_want rfl ?_
  refine o_call rfl (page_f a) (by repeat (first | with_reducible exact Takes.nil | (apply Takes.cons; focus (repeat (first | with_reducible exact Rem.here | apply Rem.there))))) rfl ?_
  rintro _ _ ⟨b1, rfl, rfl⟩
  simp only [List.append_eq, List.cons_append, List.nil_append, List.append_nil, tup]
  refine o_want rfl ?_
  have hr : ∀ c : UInt8, (List.replicate 256 c).length = 256 := fun c => List.length_replicate
  refine o_call rfl (write_ok d ST1 1 b1 (List.replicate 256 a) (by decide) (hr a) rfl (by decide) (by decide) (by decide)) (by repeat (first | with_reducible exact Takes.nil | (apply Takes.cons; focus (repeat (first | with_reducible exact Rem.here | apply Rem.there))))) rfl ?_
  rintro _ _ ⟨rfl, rfl⟩
  simp only [List.append_eq, List.cons_append, List.nil_append, List.append_nil, tup]
  refine o_want rfl ?_
  refine o_y (y_neq_f rfl rfl (by omega)) rfl ?_
  refine o_y (y_pick_f rfl rfl) rfl ?_
  refine o_nil ?_
  refine f_seq ?_
  refine c_false rfl ?_
  refine c_skip ?_
  refine f_seq ?_
  refine c_seq ?_
  refine c_region ?_
  refine o_y (y_move rfl) rfl ?_
  rw [show ST1.write 1 (List.replicate 256 a) = ST2 a from rfl]
  refine o_call rfl (sync_ok d (ST2 a) rfl (show -9223372036854775808 < (-1 : Int) by decide) (show (-1 : Int) ≤ 9223372036854775807 by decide) (show 1 ≤ 1000000 by decide)) (by repeat (first | with_reducible exact Takes.nil | (apply Takes.cons; focus (repeat (first | with_reducible exact Rem.here | apply Rem.there))))) rfl ?_
  rintro _ _ ⟨rfl, rfl⟩
  simp only [List.append_eq, List.cons_append, List.nil_append, List.append_nil, tup]
  rw [show (ST2 a).sync = ST3 a from rfl]
  refine o_nil ?_
  refine f_seq ?_
  refine c_seq ?_
  refine c_seq ?_
  refine c_region ?_
  refine o_y (y_move rfl) rfl ?_
  refine o_y (y_move rfl) rfl ?_
  refine o_call rfl (page_f b) (by repeat (first | with_reducible exact Takes.nil | (apply Takes.cons; focus (repeat (first | with_reducible exact Rem.here | apply Rem.there))))) rfl ?_
  rintro _ _ ⟨b2, rfl, rfl⟩
  simp only [List.append_eq, List.cons_append, List.nil_append, List.append_nil, tup]
  skip
  refine o_call rfl (write_ok d (ST3 a) 1 b2 (List.replicate 256 b) (show (0 : Int) ≤ 1 ∧ (1 : Int) < 2 by decide) (hr b) rfl (show -9223372036854775808 < (-2 : Int) by decide) (show (-2 : Int) ≤ 9223372036854775807 by decide) (show 0 ≤ 1000000 by decide)) (by repeat (first | with_reducible exact Takes.nil | (apply Takes.cons; focus (repeat (first | with_reducible exact Rem.here | apply Rem.there))))) rfl ?_
  rintro _ _ ⟨rfl, rfl⟩
  simp only [List.append_eq, List.cons_append, List.nil_append, List.append_nil, tup]
  rw [show (ST3 a).write 1 (List.replicate 256 b) = ST4 a b from rfl]
  refine o_y (y_neq_f rfl rfl (by omega)) rfl ?_
  refine o_nil ?_
  refine f_seq ?_
  refine c_false rfl ?_
  refine c_skip ?_
  refine f_seq ?_
  refine c_seq ?_
  refine c_region ?_
  refine o_y (y_move rfl) rfl ?_
  refine o_y (y_move rfl) rfl ?_
  refine o_y (y_build rfl) rfl ?_
  refine o_buildSlice rfl rfl rfl rfl rfl (fun nb => ?_)
  rename Nat => nb
  rw [show byteV sec = .int .u8 (sec.toNat : Int) from rfl]
  refine o_call rfl (crash_one d (ST4 a b) nb 0 (sec.toNat : Int) sec.toNat rfl (UInt8.toNat_lt sec) (show 1 ≤ 1000000 by decide)) (by repeat (first | with_reducible exact Takes.nil | (apply Takes.cons; focus (repeat (first | with_reducible exact Rem.here | apply Rem.there))))) rfl ?_
  rintro _ _ ⟨rfl, rfl⟩
  simp only [List.append_eq, List.cons_append, List.nil_append, List.append_nil, tup]
  rw [show (ST4 a b).crash [⟨0, sec.toNat⟩] = ST5 a b sec from rfl]
  refine o_nil ?_
  refine f_seq ?_
  refine c_seq ?_
  refine c_region ?_
  refine o_y (y_move rfl) rfl ?_
  refine o_call rfl (read_ok d (ST5 a b sec) 1 (show (0 : Int) ≤ 1 ∧ (1 : Int) < 2 by decide)) (by repeat (first | with_reducible exact Takes.nil | (apply Takes.cons; focus (repeat (first | with_reducible exact Rem.here | apply Rem.there))))) rfl ?_
  rintro _ _ ⟨x, rfl, rfl, hx⟩
  simp only [List.append_eq, List.cons_append, List.nil_append, List.append_nil, tup]
  refine o_y (y_move rfl) rfl ?_
  refine o_y (y_extract rfl rfl) rfl ?_
  refine o_y (y_extract rfl rfl) rfl ?_
  refine o_y (y_assign rfl) rfl ?_
  refine o_y (y_assign rfl) rfl ?_
  refine o_nil ?_
  refine f_seq ?_
  refine c_seq ?_
  refine c_region ?_
  refine o_y (y_move rfl) rfl ?_
  refine o_call rfl (read_ok d (ST5 a b sec) 0 (show (0 : Int) ≤ 0 ∧ (0 : Int) < 2 by decide)) (by repeat (first | with_reducible exact Takes.nil | (apply Takes.cons; focus (repeat (first | with_reducible exact Rem.here | apply Rem.there))))) rfl ?_
  rintro _ _ ⟨y, rfl, rfl, hy⟩
  simp only [List.append_eq, List.cons_append, List.nil_append, List.append_nil, tup]
  refine o_y (y_move rfl) rfl ?_
  refine o_y (y_extract rfl rfl) rfl ?_
  refine o_y (y_extract rfl rfl) rfl ?_
  refine o_y (y_assign rfl) rfl ?_
  refine o_y (y_assign rfl) rfl ?_
  refine o_nil ?_
  refine f_seq ?_
  refine c_seq ?_
  refine c_seq ?_
  refine c_region ?_
  refine o_y (y_assign rfl) rfl ?_
  refine o_nil ?_
  refine f_seq ?_
  refine c_block ?_
  rw [st5_read0] at hy ⊢
  rw [st5_read] at hx ⊢
  have hg := fun i hi => tear_get sec.toNat (List.replicate 256 b) (List.replicate 256 a) (hr a) (hr b) i hi 4 (Nat.le_refl 4)
  generalize tear sec.toNat (List.replicate 256 b) 4 (List.replicate 256 a) = xs at hx hg ⊢
  refine c_loop_inv (X := Nat) (fun i => i ≤ 256) (fun i => 256 - i) (fun _ => [Blk y (bobj (pad [])), Blk x (bobj xs), DRep d (ST5 a b sec)])
    (fun i => [(0, byteV a), (1, byteV b), (2, .int .u8 (sec.toNat : Int)), (9, pageV x), (10, .int .i64 0), (11, pageV y), (12, .int .i64 0), (13, .int .i64 (i : Int))]) 0 (Nat.zero_le _) (by repeat (first | with_reducible exact Ent.nil | (apply Ent.one; focus (repeat (first | with_reducible exact Rem.here | apply Rem.there))))) (by repeat (first | exact trivial | refine ⟨rfl, ?_⟩)) ?_
  intro i hi ih
  by_cases hlt : i < 256
  case neg =>
    refine c_seq ?_
    refine c_seq ?_
    refine c_region ?_
    refine o_y (y_move rfl) rfl ?_
    refine o_y (y_lss_f rfl rfl (by omega)) rfl ?_
    refine o_y (y_move rfl) rfl ?_
    refine o_skip rfl rfl ?_
    refine o_skip rfl rfl ?_
    refine o_skip rfl rfl ?_
    refine o_y (y_pick_f rfl rfl) rfl ?_
    refine o_nil ?_
    refine f_seq ?_
    refine c_false rfl ?_
    refine c_exit ?_
    refine f_seq_exit ?_
    refine f_seq_exit ?_
    refine f_block_here ?_
    refine f_seq ?_
    refine c_seq ?_
    refine pl_start [14, 15] Try.mixed ?_; intro hd
    refine pl_lock (A := Blk _ _) Rem.here rfl ?_ hd; intro hb0
    refine pl_take (i := 0) rfl (by kernel_rfl) (y_move rfl) ?_ hd; clear hd; intro hd
    refine pl_take (i := 1) rfl (by kernel_rfl) (y_eql_t rfl rfl (by omega)) ?_ hd; clear hd; intro hd
    refine pl_take (i := 2) rfl (by kernel_rfl) (y_move rfl) ?_ hd; clear hd; intro hd
    refine pl_want (i := 3) rfl (by kernel_rfl) rfl (y_move rfl) ?_ hd; clear hd; intro hd
    refine pl_want (i := 4) rfl (by kernel_rfl) rfl (y_eql_t rfl rfl (by omega)) ?_ hd; clear hd; intro hd
    refine pl_take (i := 5) rfl (by kernel_rfl) (y_pick_t rfl rfl) ?_ hd; clear hd; intro hd
    refine pl_take (i := 6) rfl (by kernel_rfl) (y_move rfl) ?_ hd; clear hd; intro hd
    refine pl_want (i := 7) rfl (by kernel_rfl) rfl (y_move rfl) ?_ hd; clear hd; intro hd
    refine pl_want (i := 8) rfl (by kernel_rfl) rfl (y_len_slice rfl) ?_ hd; clear hd; intro hd
    refine pl_want (i := 9) rfl (by kernel_rfl) rfl (y_eql_t rfl rfl (by omega)) ?_ hd; clear hd; intro hd
    refine pl_take (i := 10) rfl (by kernel_rfl) (y_pick_t rfl rfl) ?_ hd; clear hd; intro hd
    refine pl_take (i := 11) rfl (by kernel_rfl) (y_move rfl) ?_ hd; clear hd; intro hd
    refine pl_want (i := 12) rfl (by kernel_rfl) rfl (y_move rfl) ?_ hd; clear hd; intro hd
    refine pl_want (i := 13) rfl (by kernel_rfl) rfl (y_conv_str (l := pad []) rfl (by have := getN_front ((pad []).map byteV) []; simpa [pad_len] using this)) ?_ hd; clear hd; intro hd
    refine pl_sole (i := 14) (by kernel_rfl) rfl ?_ hd; clear hd; intro hd
    refine o_want rfl ?_
    refine o_call rfl (page_f 0) (by repeat (first | with_reducible exact Takes.nil | (apply Takes.cons; focus (repeat (first | with_reducible exact Rem.here | apply Rem.there))))) rfl ?_
    rintro _ _ ⟨b3, rfl, rfl⟩
    simp only [List.append_eq, List.cons_append, List.nil_append, List.append_nil, tup]
    refine pl_back (by repeat (first | with_reducible exact Owes.nil | with_reducible refine Owes.same ?_ | with_reducible refine Owes.any ?_ | refine Owes.waived 14 (by kernel_rfl) ?_)) ?_ hd; clear hd; intro hd
    refine pl_sole (i := 15) (by kernel_rfl) rfl ?_ hd; clear hd; intro hd
    refine o_want rfl ?_
    refine o_y (y_conv_str (l := List.replicate 256 0) rfl (by have := getN_front ((List.replicate 256 (0 : UInt8)).map byteV) []; rw [List.append_nil, List.length_map, hr] at this; exact this)) rfl ?_
    refine pl_back (by repeat (first | with_reducible exact Owes.nil | with_reducible refine Owes.same ?_ | with_reducible refine Owes.any ?_ | refine Owes.waived 15 (by kernel_rfl) ?_ | refine Owes.waived 14 (by kernel_rfl) ?_)) ?_ hd; clear hd; intro hd
    refine pl_want (i := 16) rfl (by kernel_rfl) rfl (y_eq_str (c := true) rfl rfl (by show true = decide (pad [] = List.replicate 256 0); rw [pad0]; simp)) ?_ hd; clear hd; intro hd
    refine pl_take (i := 17) rfl (by kernel_rfl) (y_pick_t rfl rfl) ?_ hd; clear hd; intro hd
    refine pl_take (i := 18) rfl (by kernel_rfl) (y_assign rfl) ?_ hd; clear hd; intro hd
    refine pl_done (by kernel_rfl) ?_ hd
    refine f_unlock (A := Blk _ _) ?_
    refine f_seq ?_
    refine c_ret ?_
    exact f_ent Ent.nil (f_ret rfl ⟨rfl, rfl⟩)
  case pos =>
    have h1 := hg i hlt
    refine c_seq ?_
    refine c_seq ?_
    refine c_region ?_
    refine o_y (y_move rfl) rfl ?_
    refine o_y (y_lss_t rfl rfl (by omega)) rfl ?_
    refine o_y (y_move rfl) rfl ?_
    refine o_want rfl ?_
    refine o_y (y_move rfl) rfl ?_
    refine o_want rfl ?_
    refine o_y (y_len_slice rfl) rfl ?_
    refine o_want rfl ?_
    refine o_y (y_eql_t rfl rfl (by omega)) rfl ?_
    refine o_y (y_pick_t rfl rfl) rfl ?_
    refine o_nil ?_
    refine f_seq ?_
    refine c_true rfl ?_
    refine c_skip ?_
    refine f_seq ?_
    refine c_seq ?_
    refine c_block ?_
    refine c_seq ?_
    refine c_region ?_
    refine o_y (y_move rfl) rfl ?_
    refine o_y (y_assign rfl) rfl ?_
    refine o_nil ?_
    refine f_seq ?_
    refine c_seq ?_
    refine c_seq ?_
    refine c_region ?_
    refine o_y (y_move rfl) rfl ?_
    refine o_y (y_move rfl) rfl ?_
    refine o_y (y_quo i 64 rfl rfl rfl rfl (by omega) (by omega)) rfl ?_
    refine o_y (y_conv_u64 rfl (by omega)) rfl ?_
    refine o_y (y_shr sec.toNat (i / 64) rfl rfl rfl rfl (by show i / 64 ≤ 8; omega)) rfl ?_
    refine o_y (y_and1 (sec.toNat / 2 ^ (i / 64)) rfl rfl rfl (Nat.lt_of_le_of_lt (Nat.div_le_self _ _) (UInt8.toNat_lt sec))) rfl ?_
    by_cases hb : sec.toNat / 2 ^ (i / 64) % 2 = 1
    · rw [if_pos ⟨by omega, hb⟩, List.getElem?_replicate, if_pos hlt] at h1
      rw [hb]
      refine o_y (y_eql_t rfl rfl (by omega)) rfl ?_
      refine o_nil ?_
      refine f_seq ?_
      refine c_true rfl ?_
      refine c_region ?_
      refine o_y (y_move rfl) rfl ?_
      refine o_y (y_assign rfl) rfl ?_
      refine o_nil ?_
      refine f_seq ?_
      refine c_seq ?_
      refine c_region ?_
      refine o_y (y_move rfl) rfl ?_
      refine o_y (y_move rfl) rfl ?_
      refine o_y (y_indexAddr i rfl rfl rfl hlt) rfl ?_
      refine o_y (y_load (v := byteV b) rfl rfl (by rw [Nat.zero_add, Nat.mul_one, List.getElem?_map, h1]; rfl)) rfl ?_
      refine o_y (y_move rfl) rfl ?_
      refine o_y (y_neq_f rfl rfl (by omega)) rfl ?_
      refine o_nil ?_
      refine f_seq ?_
      refine c_false rfl ?_
      refine c_skip ?_
      refine f_block ?_
      refine f_seq ?_
      refine c_region ?_
      refine o_y (y_move rfl) rfl ?_
      refine o_y (y_arith64 rfl rfl rfl (by omega)) rfl ?_
      refine o_y (y_assign rfl) rfl ?_
      refine o_nil ?_
      exact f_next (by repeat (first | with_reducible exact Ent.nil | (apply Ent.one; focus (repeat (first | with_reducible exact Rem.here | apply Rem.there))))) (by repeat (first | exact trivial | refine ⟨rfl, ?_⟩)) (ih (i + 1) (by omega) (by omega))
    · have hb' : sec.toNat / 2 ^ (i / 64) % 2 = 0 := by omega
      rw [if_neg (fun h => hb h.2), List.getElem?_replicate, if_pos hlt] at h1
      rw [hb']
      refine o_y (y_eql_f rfl rfl (by omega)) rfl ?_
      refine o_nil ?_
      refine f_seq ?_
      refine c_false rfl ?_
      refine c_skip ?_
      refine f_seq ?_
      refine c_seq ?_
      refine c_region ?_
      refine o_y (y_move rfl) rfl ?_
      refine o_y (y_move rfl) rfl ?_
      refine o_y (y_indexAddr i rfl rfl rfl hlt) rfl ?_
      refine o_y (y_load (v := byteV a) rfl rfl (by rw [Nat.zero_add, Nat.mul_one, List.getElem?_map, h1]; rfl)) rfl ?_
      refine o_y (y_move rfl) rfl ?_
      refine o_y (y_neq_f rfl rfl (by omega)) rfl ?_
      refine o_nil ?_
      refine f_seq ?_
      refine c_false rfl ?_
      refine c_skip ?_
      refine f_block ?_
      refine f_seq ?_
      refine c_region ?_
      refine o_y (y_move rfl) rfl ?_
      refine o_y (y_arith64 rfl rfl rfl (by omega)) rfl ?_
      refine o_y (y_assign rfl) rfl ?_
      refine o_nil ?_
      exact f_next (by repeat (first | with_reducible exact Ent.nil | (apply Ent.one; focus (repeat (first | with_reducible exact Rem.here | apply Rem.there))))) (by repeat (first | exact trivial | refine ⟨rfl, ?_⟩)) (ih (i + 1) (by omega) (by omega))
end Go.Lun

/- The laws' page and awake. -/
import Derived.Test.YtijahemmbooblaaDisk8
namespace Go.Lun
open Go.Proofs

def fillb (c : UInt8) (i : Nat) : Bytes := List.replicate i c ++ List.replicate (256 - i) 0
theorem fillb_set {c : UInt8} {i : Nat} (h : i < 256) : ((fillb c i).map byteV).set i (byteV c) = (fillb c (i + 1)).map byteV := by
  rw [← List.map_set]
  congr 1
  unfold fillb
  obtain ⟨k, hk⟩ : ∃ k, 256 - i = k + 1 := ⟨255 - i, by omega⟩
  have hk' : 256 - (i + 1) = k := by omega
  rw [hk, hk', List.replicate_succ, List.replicate_succ', List.append_assoc]
  have h2 : (List.replicate i c).length = i := by simp
  rw [List.set_append_right _ _ (by omega)]
  simp
theorem fillb_len {c : UInt8} {i : Nat} (h : i ≤ 256) : (fillb c i).length = 256 := by simp [fillb]; omega

theorem page_f (c : UInt8) : Fn Try.prog 14 [byteV c] [] (fun v L => ∃ b, v = pageV b ∧ L = [Blk b (bobj (List.replicate 256 c))]) := by
  refine fn_start Try.func14 rfl rfl rfl fun F => ?_
  refine c_seq ?_
  refine c_region ?_
  refine o_y (y_assign rfl) rfl ?_
  refine o_nil ?_
  refine f_seq ?_
  refine c_seq ?_
  refine c_region ?_
  refine o_makeSlice1 256 256 rfl rfl (by omega) (by omega) (by omega) rfl (fun b => ?_)
  refine o_y (y_assign rfl) rfl ?_
  refine o_nil ?_
  refine f_seq ?_
  refine c_seq ?_
  refine c_seq ?_
  refine c_region ?_
  refine o_y (y_assign rfl) rfl ?_
  refine o_nil ?_
  refine f_seq ?_
  refine c_block ?_
  have e0 : (List.replicate 256 (Value.int .u8 0)) = (fillb c 0).map byteV := by unfold fillb; simp only [List.replicate_zero, List.nil_append, List.map_replicate]; rfl
  rw [e0]
  refine c_loop_inv (X := Nat) (fun i => i ≤ 256) (fun i => 256 - i) (fun i => [Blk b (.cells ⟨(fillb c i).map byteV⟩ 5 (0, 0))])
    (fun i => [(0, byteV c), (3, pageV b), (4, .int .i64 (i : Int))]) 0 (Nat.zero_le _) (by repeat (first | with_reducible exact Ent.nil | (apply Ent.one; focus (repeat (first | with_reducible exact Rem.here | apply Rem.there))))) (by repeat (first | exact trivial | refine ⟨rfl, ?_⟩)) ?_
  intro i hi ih
  by_cases hlt : i < 256
  case neg =>
    have hi' : i = 256 := by omega
    subst hi'
    refine c_seq ?_
    refine c_seq ?_
    refine c_region ?_
    refine o_y (y_move rfl) rfl ?_
    refine o_y (y_move rfl) rfl ?_
    refine o_y (y_len_slice rfl) rfl ?_
    refine o_y (y_lss_f rfl rfl (by omega)) rfl ?_
    refine o_nil ?_
    refine f_seq ?_
    refine c_false rfl ?_
    refine c_exit ?_
    refine f_seq_exit ?_
    refine f_seq_exit ?_
    refine f_block_here ?_
    refine f_seq ?_
    refine c_seq ?_
    refine c_region ?_
    refine o_y (y_move rfl) rfl ?_
    refine o_y (y_assign rfl) rfl ?_
    refine o_nil ?_
    refine f_seq ?_
    refine c_ret ?_
    have e1 : fillb c 256 = List.replicate 256 c := by unfold fillb; rw [Nat.sub_self, List.replicate_zero, List.append_nil]
    rw [e1]
    exact f_ret rfl ⟨b, rfl, rfl⟩
  case pos =>
    have hl := fillb_len (c := c) hi
    refine c_seq ?_
    refine c_seq ?_
    refine c_region ?_
    refine o_y (y_move rfl) rfl ?_
    refine o_y (y_move rfl) rfl ?_
    refine o_y (y_len_slice rfl) rfl ?_
    refine o_y (y_lss_t rfl rfl (by omega)) rfl ?_
    refine o_nil ?_
    refine f_seq ?_
    refine c_true rfl ?_
    refine c_skip ?_
    refine f_seq ?_
    refine c_seq ?_
    refine c_block ?_
    refine c_region ?_
    refine o_y (y_move rfl) rfl ?_
    refine o_y (y_move rfl) rfl ?_
    refine o_y (y_move rfl) rfl ?_
    refine o_y (y_indexAddr i rfl rfl rfl hlt) rfl ?_
    refine o_store (hset := SetN.one (by rw [List.length_map]; omega)) rfl rfl rfl frz0 ?_
    refine o_nil ?_
    refine f_block ?_
    refine f_seq ?_
    refine c_region ?_
    refine o_y (y_move rfl) rfl ?_
    refine o_y (y_arith64 rfl rfl rfl (by omega)) rfl ?_
    refine o_y (y_assign rfl) rfl ?_
    refine o_nil ?_
    have e2 := fillb_set (c := c) hlt
    simp only [Nat.zero_add, Nat.mul_one, e2]
    exact f_next (by repeat (first | with_reducible exact Ent.nil | (apply Ent.one; focus (repeat (first | with_reducible exact Rem.here | apply Rem.there))))) (by repeat (first | exact trivial | refine ⟨rfl, ?_⟩)) (ih (i + 1) (by omega) (by omega))

theorem Fn.mono {P : Program} {f : FuncId} {args : List Value} {pre : List Asrt} {R R' : Value → List Asrt → Prop} (h : Fn P f args pre R) (k : ∀ v L, R v L → R' v L) : Fn P f args pre R' := .mk fun F w s => by
  refine (h.out F w s).mono fun e w' => ?_
  rintro ⟨v, L, rfl, hR, s'⟩
  exact ⟨v, L, rfl, k v L hR, s'⟩

def DS.grow (S : DS) (n : Int) : DS := { S with pages := max S.pages n }

theorem grow_ok (d : Nat) (S : DS) (n : Int) (h1 : n ≤ S.most) (h2 : S.dead = false) : Fn Try.prog 12 [.pointer (some ⟨d, 0, none⟩), .int .i64 n] [DRep d S]
    (fun v L => v = .int .i64 0 ∧ L = [DRep d (S.grow n)]) := (grow_d d S n).mono fun v L => by
  rintro ⟨S', c, rfl, rfl, h⟩
  rw [if_neg (by omega), if_neg (by simp [h2])] at h
  obtain ⟨rfl, rfl⟩ := h
  exact ⟨rfl, rfl⟩

theorem write_ok (d : Nat) (S : DS) (page : Int) (b : Nat) (l : Bytes) (hp : 0 ≤ page ∧ page < S.pages) (hl : l.length = 256) (h2 : S.dead = false)
    (hf : -9223372036854775808 < S.fuse) (hf' : S.fuse ≤ 9223372036854775807) (hn : S.loose.length ≤ 1000000) :
    Fn Try.prog 13 [.pointer (some ⟨d, 0, none⟩), .int .i64 page, pageV b] [DRep d S, Blk b (bobj l)]
      (fun v L => v = .int .i64 0 ∧ L = [DRep d (S.write page l), Blk b (bobj l)]) := (write_d d S page b 0 256 256 (l.map byteV) 5 (0, 0) true l (by have := getN_front (l.map byteV) []; simpa [hl] using this) hf hf' hn (by omega)).mono fun v L => by
  rintro ⟨S', c, rfl, rfl, h⟩
  rw [if_neg (not_not_intro (show S.has page from hp)), if_neg (by omega), if_neg (by simp [h2])] at h
  obtain ⟨rfl, rfl⟩ := h
  exact ⟨rfl, rfl⟩

theorem write_dead (d : Nat) (S : DS) (page : Int) (b : Nat) (l : Bytes) (hp : 0 ≤ page ∧ page < S.pages) (hl : l.length = 256) (h2 : S.dead = true)
    (hf : -9223372036854775808 < S.fuse) (hf' : S.fuse ≤ 9223372036854775807) (hn : S.loose.length ≤ 1000000) :
    Fn Try.prog 13 [.pointer (some ⟨d, 0, none⟩), .int .i64 page, pageV b] [DRep d S, Blk b (bobj l)]
      (fun v L => v = .int .i64 33 ∧ L = [DRep d S, Blk b (bobj l)]) := (write_d d S page b 0 256 256 (l.map byteV) 5 (0, 0) true l (by have := getN_front (l.map byteV) []; simpa [hl] using this) hf hf' hn (by omega)).mono fun v L => by
  rintro ⟨S', c, rfl, rfl, h⟩
  rw [if_neg (not_not_intro (show S.has page from hp)), if_neg (by omega), if_pos h2] at h
  obtain ⟨rfl, rfl⟩ := h
  exact ⟨rfl, rfl⟩

theorem sync_ok (d : Nat) (S : DS) (h2 : S.dead = false) (hf : -9223372036854775808 < S.fuse) (hf' : S.fuse ≤ 9223372036854775807) (hn : S.loose.length ≤ 1000000) :
    Fn Try.prog 15 [.pointer (some ⟨d, 0, none⟩)] [DRep d S] (fun v L => v = .tuple ⟨[]⟩ ∧ L = [DRep d S.sync]) := (sync_d d S hf hf' hn).mono fun v L => by
  rintro ⟨rfl, rfl⟩
  rw [if_neg (by simp [h2])]
  exact ⟨rfl, rfl⟩

theorem read_ok (d : Nat) (S : DS) (page : Int) (hp : 0 ≤ page ∧ page < S.pages) : Fn Try.prog 17 [.pointer (some ⟨d, 0, none⟩), .int .i64 page] [DRep d S]
    (fun v L => ∃ b, v = .tuple ⟨[pageV b, .int .i64 0]⟩ ∧ L = [Blk b (bobj (S.read page)), DRep d S] ∧ (S.read page).length = 256) := (read_d d S page).mono fun v L => by
  rintro (⟨h, -⟩ | ⟨-, b, h⟩)
  · exact absurd (show S.has page from hp) h
  · exact ⟨b, h⟩

theorem crash_one (d : Nat) (S : DS) (kb : Nat) (wr sv : Int) (sec : Nat) (hv : sv = (sec : Int)) (hk : sec < 256) (hn : S.loose.length ≤ 1000000) :
    Fn Try.prog 16 [.pointer (some ⟨d, 0, none⟩), .slice (some ⟨kb, 0, none⟩) 1 1] [DRep d S, Blk kb (.cells ⟨[.int .i64 wr, .int .u8 sv]⟩ 33 (0, 0))]
      (fun v L => v = .tuple ⟨[]⟩ ∧ L = [DRep d (S.crash [⟨wr, sec⟩])]) := by
  subst hv
  have h := crash_d d S (some ⟨kb, 0, none⟩) 1 true [⟨wr, sec⟩] (by simp) (fun k' h => by rw [List.mem_singleton] at h; subst h; exact hk) hn
  refine fn_ent (pre' := [DRep d S, RowA true TK.cells 2 (some ⟨kb, 0, none⟩) [⟨wr, sec⟩]]) (Ent.one (by repeat (first | with_reducible exact Rem.here | apply Rem.there)) (Ent.put (P := [Blk kb (.cells ⟨[.int .i64 wr, .int .u8 (sec : Int)]⟩ 33 (0, 0))]) (by repeat (first | with_reducible exact Takes.nil | (apply Takes.cons; focus (repeat (first | with_reducible exact Rem.here | apply Rem.there))))) (RowA.shut rfl rfl) (by repeat (first | with_reducible exact Ent.nil | (apply Ent.one; focus (repeat (first | with_reducible exact Rem.here | apply Rem.there))))))) (Fn.frame h (by repeat (first | with_reducible exact Takes.nil | (apply Takes.cons; focus (repeat (first | with_reducible exact Rem.here | apply Rem.there))))) fun v L hR => ?_)
  obtain ⟨rfl, rfl⟩ := hR
  exact ⟨_, _, ⟨rfl, rfl⟩, rfl, by simp only [List.append_eq, List.cons_append, List.nil_append, List.append_nil, tup]; repeat (first | with_reducible exact Ent.nil | (apply Ent.one; focus (repeat (first | with_reducible exact Rem.here | apply Rem.there))))⟩

def SA1 : DS := (DS.new 5).grow 2
def SA2 : DS := SA1.write 0 (List.replicate 256 1)
def SA3 : DS := SA2.sync
def SA4 : DS := SA3.write 0 (List.replicate 256 2)
def SA5 : DS := SA4.crash [⟨0, 2⟩]

set_option maxHeartbeats 1600000 in
theorem awake_f : Fn Try.prog 11 [] [] (fun v L => v = .bool true ∧ L = []) := by
  refine fn_start Try.func11 rfl rfl rfl fun F => ?_
  refine c_seq ?_
  refine c_region ?_
  refine o_y (y_assign rfl) rfl ?_
  refine o_nil ?_
  refine f_seq ?_
  refine c_seq ?_
  refine c_region ?_
  refine o_call rfl (new_d 5) (by repeat (first | with_reducible exact Takes.nil | (apply Takes.cons; focus (repeat (first | with_reducible exact Rem.here | apply Rem.there))))) rfl ?_
  rintro _ _ (⟨h, -⟩ | ⟨-, d, rfl, rfl⟩)
  · omega
  simp only [List.append_eq, List.cons_append, List.nil_append, List.append_nil, tup]
  refine o_y (y_move rfl) rfl ?_
  refine o_y (y_extract rfl rfl) rfl ?_
  refine o_y (y_extract rfl rfl) rfl ?_
  refine o_y (y_assign rfl) rfl ?_
  refine o_y (y_assign rfl) rfl ?_
  refine o_nil ?_
  refine f_seq ?_
  refine c_seq ?_
  refine c_seq ?_
  refine c_region ?_
  refine o_y (y_move rfl) rfl ?_
  refine o_y (y_neq_f rfl rfl (by omega)) rfl ?_
  refine o_y (y_move rfl) rfl ?_
  refine o_want rfl ?_
  refine o_y (y_move rfl) rfl ?_
  refine o_want rfl ?_
  refine o_y (y_eql_nil rfl rfl) rfl ?_
  refine o_y (y_pick_f rfl rfl) rfl ?_
  refine o_y (y_move rfl) rfl ?_
  refine o_want rfl ?_
  refine o_y (y_move rfl) rfl ?_
  refine o_want rfl ?_
  refine o_call rfl (grow_ok d (DS.new 5) 2 (by decide) rfl) (by repeat (first | with_reducible exact Takes.nil | (apply Takes.cons; focus (repeat (first | with_reducible exact Rem.here | apply Rem.there))))) rfl ?_
  rintro _ _ ⟨rfl, rfl⟩
  simp only [List.append_eq, List.cons_append, List.nil_append, List.append_nil, tup]
  rw [show (DS.new 5).grow 2 = SA1 from rfl]
  refine o_want rfl ?_
  refine o_y (y_neq_f rfl rfl (by omega)) rfl ?_
  refine o_y (y_pick_f rfl rfl) rfl ?_
  refine o_y (y_move rfl) rfl ?_
  refine o_want rfl ?_
  refine o_y (y_move rfl) rfl ?_
  refine o_want rfl ?_
  refine o_call rfl (page_f 1) (by repeat (first | with_reducible exact Takes.nil | (apply Takes.cons; focus (repeat (first | with_reducible exact Rem.here | apply Rem.there))))) rfl ?_
  rintro _ _ ⟨b1, rfl, rfl⟩
  simp only [List.append_eq, List.cons_append, List.nil_append, List.append_nil, tup]
  refine o_want rfl ?_
  have hr : ∀ c : UInt8, (List.replicate 256 c).length = 256 := fun c => List.length_replicate
  refine o_call rfl (write_ok d SA1 0 b1 (List.replicate 256 1) (by decide) (hr 1) rfl (by decide) (by decide) (by decide)) (by repeat (first | with_reducible exact Takes.nil | (apply Takes.cons; focus (repeat (first | with_reducible exact Rem.here | apply Rem.there))))) rfl ?_
  rintro _ _ ⟨rfl, rfl⟩
  simp only [List.append_eq, List.cons_append, List.nil_append, List.append_nil, tup]
  refine o_want rfl ?_
  refine o_y (y_neq_f rfl rfl (by omega)) rfl ?_
  refine o_y (y_pick_f rfl rfl) rfl ?_
  refine o_nil ?_
  refine f_seq ?_
  refine c_false rfl ?_
  refine c_skip ?_
  refine f_seq ?_
  refine c_seq ?_
  refine c_region ?_
  refine o_y (y_move rfl) rfl ?_
  rw [show SA1.write 0 (List.replicate 256 1) = SA2 from rfl]
  refine o_call rfl (sync_ok d SA2 rfl (by decide) (by decide) (by decide)) (by repeat (first | with_reducible exact Takes.nil | (apply Takes.cons; focus (repeat (first | with_reducible exact Rem.here | apply Rem.there))))) rfl ?_
  rintro _ _ ⟨rfl, rfl⟩
  simp only [List.append_eq, List.cons_append, List.nil_append, List.append_nil, tup]
  refine o_nil ?_
  refine f_seq ?_
  refine c_seq ?_
  refine c_seq ?_
  refine c_region ?_
  refine o_y (y_move rfl) rfl ?_
  rw [show SA2.sync = SA3 from rfl]
  refine o_call rfl (page_f 2) (by repeat (first | with_reducible exact Takes.nil | (apply Takes.cons; focus (repeat (first | with_reducible exact Rem.here | apply Rem.there))))) rfl ?_
  rintro _ _ ⟨b2, rfl, rfl⟩
  simp only [List.append_eq, List.cons_append, List.nil_append, List.append_nil, tup]
  skip
  refine o_call rfl (write_ok d SA3 0 b2 (List.replicate 256 2) (by decide) (hr 2) rfl (by decide) (by decide) (by decide)) (by repeat (first | with_reducible exact Takes.nil | (apply Takes.cons; focus (repeat (first | with_reducible exact Rem.here | apply Rem.there))))) rfl ?_
  rintro _ _ ⟨rfl, rfl⟩
  simp only [List.append_eq, List.cons_append, List.nil_append, List.append_nil, tup]
  refine o_y (y_neq_f rfl rfl (by omega)) rfl ?_
  refine o_y (y_move rfl) rfl ?_
  refine o_want rfl ?_
  refine o_y (y_move rfl) rfl ?_
  refine o_want rfl ?_
  rw [show SA3.write 0 (List.replicate 256 2) = SA4 from rfl]
  refine o_call rfl (loose_d d SA4) (by repeat (first | with_reducible exact Takes.nil | (apply Takes.cons; focus (repeat (first | with_reducible exact Rem.here | apply Rem.there))))) rfl ?_
  rintro _ _ ⟨rfl, rfl⟩
  simp only [List.append_eq, List.cons_append, List.nil_append, List.append_nil, tup]
  refine o_want rfl ?_
  refine o_y (y_cmp rfl rfl rfl) rfl ?_
  refine o_y (y_pick_f rfl rfl) rfl ?_
  refine o_nil ?_
  refine f_seq ?_
  refine c_false rfl ?_
  refine c_skip ?_
  refine f_seq ?_
  refine c_seq ?_
  refine c_region ?_
  refine o_y (y_move rfl) rfl ?_
  refine o_y (y_build rfl) rfl ?_
  refine o_buildSlice rfl rfl rfl rfl rfl (fun nb => ?_)
  rename Nat => nb
  refine o_call rfl (crash_one d SA4 nb 0 2 2 rfl (by decide) (by decide)) (by repeat (first | with_reducible exact Takes.nil | (apply Takes.cons; focus (repeat (first | with_reducible exact Rem.here | apply Rem.there))))) rfl ?_
  rintro _ _ ⟨rfl, rfl⟩
  simp only [List.append_eq, List.cons_append, List.nil_append, List.append_nil, tup]
  rw [show SA4.crash [⟨0, 2⟩] = SA5 from rfl]
  refine o_nil ?_
  refine f_seq ?_
  refine c_seq ?_
  refine c_region ?_
  refine o_y (y_move rfl) rfl ?_
  refine o_call rfl (read_ok d SA5 0 (by decide)) (by repeat (first | with_reducible exact Takes.nil | (apply Takes.cons; focus (repeat (first | with_reducible exact Rem.here | apply Rem.there))))) rfl ?_
  rintro _ _ ⟨b, rfl, rfl, hl⟩
  simp only [List.append_eq, List.cons_append, List.nil_append, List.append_nil, tup]
  refine o_y (y_move rfl) rfl ?_
  refine o_y (y_extract rfl rfl) rfl ?_
  refine o_y (y_extract rfl rfl) rfl ?_
  refine o_y (y_assign rfl) rfl ?_
  refine o_y (y_assign rfl) rfl ?_
  refine o_nil ?_
  refine f_seq ?_
  refine c_seq ?_
  refine c_region ?_
  refine o_y (y_move rfl) rfl ?_
  refine o_y (y_eql_t rfl rfl (by omega)) rfl ?_
  refine o_y (y_move rfl) rfl ?_
  refine o_want rfl ?_
  refine o_y (y_move rfl) rfl ?_
  refine o_want rfl ?_
  refine o_y (y_len_slice rfl) rfl ?_
  refine o_want rfl ?_
  refine o_y (y_eql_t rfl rfl (by omega)) rfl ?_
  refine o_y (y_pick_t rfl rfl) rfl ?_
  refine o_y (y_move rfl) rfl ?_
  refine o_want rfl ?_
  refine o_y (y_move rfl) rfl ?_
  refine o_want rfl ?_
  refine o_y (y_indexAddr 63 rfl rfl rfl (by decide)) rfl ?_
  have h63 : ((SA5.read 0).map byteV)[0 + 63 * 1]? = some (.int .u8 1) := by kernel_rfl
  refine o_want rfl ?_
  refine o_y (y_load rfl rfl h63) rfl ?_
  refine o_want rfl ?_
  refine o_y (y_eql_t rfl rfl (by omega)) rfl ?_
  refine o_y (y_pick_t rfl rfl) rfl ?_
  refine o_y (y_move rfl) rfl ?_
  refine o_want rfl ?_
  refine o_y (y_move rfl) rfl ?_
  refine o_want rfl ?_
  refine o_y (y_indexAddr 64 rfl rfl rfl (by decide)) rfl ?_
  have h64 : ((SA5.read 0).map byteV)[0 + 64 * 1]? = some (.int .u8 2) := by kernel_rfl
  refine o_want rfl ?_
  refine o_y (y_load rfl rfl h64) rfl ?_
  refine o_want rfl ?_
  refine o_y (y_eql_t rfl rfl (by omega)) rfl ?_
  refine o_y (y_pick_t rfl rfl) rfl ?_
  refine o_y (y_move rfl) rfl ?_
  refine o_want rfl ?_
  refine o_y (y_move rfl) rfl ?_
  refine o_want rfl ?_
  refine o_y (y_indexAddr 127 rfl rfl rfl (by decide)) rfl ?_
  have h127 : ((SA5.read 0).map byteV)[0 + 127 * 1]? = some (.int .u8 2) := by kernel_rfl
  refine o_want rfl ?_
  refine o_y (y_load rfl rfl h127) rfl ?_
  refine o_want rfl ?_
  refine o_y (y_eql_t rfl rfl (by omega)) rfl ?_
  refine o_y (y_pick_t rfl rfl) rfl ?_
  refine o_y (y_move rfl) rfl ?_
  refine o_want rfl ?_
  refine o_y (y_move rfl) rfl ?_
  refine o_want rfl ?_
  refine o_y (y_indexAddr 128 rfl rfl rfl (by decide)) rfl ?_
  have h128 : ((SA5.read 0).map byteV)[0 + 128 * 1]? = some (.int .u8 1) := by kernel_rfl
  refine o_want rfl ?_
  refine o_y (y_load rfl rfl h128) rfl ?_
  refine o_want rfl ?_
  refine o_y (y_eql_t rfl rfl (by omega)) rfl ?_
  refine o_y (y_pick_t rfl rfl) rfl ?_
  refine o_y (y_move rfl) rfl ?_
  refine o_want rfl ?_
  refine o_y (y_move rfl) rfl ?_
  refine o_want rfl ?_
  refine o_call rfl (pages_d d SA5) (by repeat (first | with_reducible exact Takes.nil | (apply Takes.cons; focus (repeat (first | with_reducible exact Rem.here | apply Rem.there))))) rfl ?_
  rintro _ _ ⟨rfl, rfl⟩
  simp only [List.append_eq, List.cons_append, List.nil_append, List.append_nil, tup]
  rw [show SA5.pages = 2 from rfl]
  refine o_want rfl ?_
  refine o_y (y_eql_t rfl rfl (by omega)) rfl ?_
  refine o_y (y_pick_t rfl rfl) rfl ?_
  refine o_y (y_move rfl) rfl ?_
  refine o_want rfl ?_
  refine o_y (y_move rfl) rfl ?_
  refine o_want rfl ?_
  refine o_call rfl (loose_d d SA5) (by repeat (first | with_reducible exact Takes.nil | (apply Takes.cons; focus (repeat (first | with_reducible exact Rem.here | apply Rem.there))))) rfl ?_
  rintro _ _ ⟨rfl, rfl⟩
  simp only [List.append_eq, List.cons_append, List.nil_append, List.append_nil, tup]
  rw [show ((SA5.loose.length : Nat) : Int) = 0 from rfl]
  refine o_want rfl ?_
  refine o_y (y_eql_t rfl rfl (by omega)) rfl ?_
  refine o_y (y_pick_t rfl rfl) rfl ?_
  refine o_y (y_move rfl) rfl ?_
  refine o_want rfl ?_
  refine o_y (y_move rfl) rfl ?_
  refine o_want rfl ?_
  refine o_call rfl (copy_d d SA5 (by decide)) (by repeat (first | with_reducible exact Takes.nil | (apply Takes.cons; focus (repeat (first | with_reducible exact Rem.here | apply Rem.there))))) rfl ?_
  rintro _ _ ⟨o, rfl, rfl⟩
  simp only [List.append_eq, List.cons_append, List.nil_append, List.append_nil, tup]
  refine o_want rfl ?_
  refine o_y (y_neq_nil rfl rfl) rfl ?_
  refine o_y (y_pick_t rfl rfl) rfl ?_
  refine o_y (y_assign rfl) rfl ?_
  refine o_nil ?_
  refine f_seq ?_
  refine c_ret ?_
  exact f_ent Ent.nil (f_ret rfl ⟨rfl, rfl⟩)
end Go.Lun

/- The disk's small methods. -/
import Derived.Test.YtijahemmbooblaaTab
import Derived.Test.YtijahemmbooblaaLib5
namespace Go.Lun
open Go.Proofs

abbrev Bytes := List UInt8

/-- The disk's struct. -/
abbrev dobj (most pages : Int) (lm : Nat) (loose : Value) (nm : Nat) (fuse : Int) (burns : Bool) : Obj :=
  .cells ⟨[.int .i64 most, .int .i64 pages, .map (some lm), loose, .map (some nm), .int .i64 fuse, .bool burns]⟩ 64 (0, 0)
/-- A page's bytes. -/
abbrev bobj (l : Bytes) : Obj := .cells ⟨l.map byteV⟩ 5 (0, 0)

section
variable (d : Nat) (most pages : Int) (lm nm : Nat) (la : Option Addr) (ln lc : Nat) (fuse : Int) (burns : Bool)

theorem has_fn (page : Int) : Fn Try.prog 27 [.pointer (some ⟨d, 0, none⟩), .int .i64 page] [Blk d (dobj most pages lm (.slice la ln lc) nm fuse burns)]
      (fun v L => v = .bool (decide (0 ≤ page ∧ page < pages)) ∧ L = [Blk d (dobj most pages lm (.slice la ln lc) nm fuse burns)]) := by
  refine fn_start Try.func27 rfl rfl rfl fun F => ?_
  by_cases h0 : 0 ≤ page
  · by_cases h1 : page < pages
    · refine c_seq ?_
      refine c_region ?_
      refine o_y (y_assign rfl) rfl ?_
      refine o_nil ?_
      refine f_seq ?_
      refine c_seq ?_
      refine c_region ?_
      refine o_y (y_move rfl) rfl ?_
      refine o_y (y_geq_t rfl rfl (by omega)) rfl ?_
      refine o_y (y_move rfl) rfl ?_
      refine o_want rfl ?_
      refine o_y (y_move rfl) rfl ?_
      refine o_want rfl ?_
      refine o_y (y_move rfl) rfl ?_
      refine o_want rfl ?_
      refine o_y (y_nilCheck rfl) rfl ?_
      refine o_want rfl ?_
      refine o_y (y_fieldAddr0 rfl) rfl ?_
      refine o_want rfl ?_
      refine o_y (y_load rfl rfl rfl) rfl ?_
      refine o_want rfl ?_
      refine o_y (y_lss_t rfl rfl (by omega)) rfl ?_
      refine o_y (y_pick_t rfl rfl) rfl ?_
      refine o_y (y_assign rfl) rfl ?_
      refine o_nil ?_
      refine f_seq ?_
      refine c_ret ?_
      exact f_ret rfl ⟨by simp [tup, h0, h1], rfl⟩
    · refine c_seq ?_
      refine c_region ?_
      refine o_y (y_assign rfl) rfl ?_
      refine o_nil ?_
      refine f_seq ?_
      refine c_seq ?_
      refine c_region ?_
      refine o_y (y_move rfl) rfl ?_
      refine o_y (y_geq_t rfl rfl (by omega)) rfl ?_
      refine o_y (y_move rfl) rfl ?_
      refine o_want rfl ?_
      refine o_y (y_move rfl) rfl ?_
      refine o_want rfl ?_
      refine o_y (y_move rfl) rfl ?_
      refine o_want rfl ?_
      refine o_y (y_nilCheck rfl) rfl ?_
      refine o_want rfl ?_
      refine o_y (y_fieldAddr0 rfl) rfl ?_
      refine o_want rfl ?_
      refine o_y (y_load rfl rfl rfl) rfl ?_
      refine o_want rfl ?_
      refine o_y (y_lss_f rfl rfl (by omega)) rfl ?_
      refine o_y (y_pick_t rfl rfl) rfl ?_
      refine o_y (y_assign rfl) rfl ?_
      refine o_nil ?_
      refine f_seq ?_
      refine c_ret ?_
      exact f_ret rfl ⟨by simp [tup, h1], rfl⟩
  · refine c_seq ?_
    refine c_region ?_
    refine o_y (y_assign rfl) rfl ?_
    refine o_nil ?_
    refine f_seq ?_
    refine c_seq ?_
    refine c_region ?_
    refine o_y (y_move rfl) rfl ?_
    refine o_y (y_geq_f rfl rfl (by omega)) rfl ?_
    refine o_y (y_move rfl) rfl ?_
    refine o_skip rfl rfl ?_
    refine o_skip rfl rfl ?_
    refine o_skip rfl rfl ?_
    refine o_skip rfl rfl ?_
    refine o_skip rfl rfl ?_
    refine o_skip rfl rfl ?_
    refine o_y (y_pick_f rfl rfl) rfl ?_
    refine o_y (y_assign rfl) rfl ?_
    refine o_nil ?_
    refine f_seq ?_
    refine c_ret ?_
    exact f_ret rfl ⟨by simp [tup, h0], rfl⟩

theorem pages_fn : Fn Try.prog 21 [.pointer (some ⟨d, 0, none⟩)] [Blk d (dobj most pages lm (.slice la ln lc) nm fuse burns)]
      (fun v L => v = .int .i64 pages ∧ L = [Blk d (dobj most pages lm (.slice la ln lc) nm fuse burns)]) := by
  refine fn_start Try.func21 rfl rfl rfl fun F => ?_
  refine c_seq ?_
  refine c_region ?_
  refine o_y (y_assign rfl) rfl ?_
  refine o_nil ?_
  refine f_seq ?_
  refine c_seq ?_
  refine c_region ?_
  refine o_y (y_move rfl) rfl ?_
  refine o_y (y_nilCheck rfl) rfl ?_
  refine o_y (y_fieldAddr0 rfl) rfl ?_
  refine o_y (y_load rfl rfl rfl) rfl ?_
  refine o_y (y_assign rfl) rfl ?_
  refine o_nil ?_
  refine f_seq ?_
  refine c_ret ?_
  exact f_ret rfl ⟨rfl, rfl⟩

theorem loose_fn : Fn Try.prog 20 [.pointer (some ⟨d, 0, none⟩)] [Blk d (dobj most pages lm (.slice la ln lc) nm fuse burns)]
      (fun v L => v = .int .i64 (ln : Int) ∧ L = [Blk d (dobj most pages lm (.slice la ln lc) nm fuse burns)]) := by
  refine fn_start Try.func20 rfl rfl rfl fun F => ?_
  refine c_seq ?_
  refine c_region ?_
  refine o_y (y_assign rfl) rfl ?_
  refine o_nil ?_
  refine f_seq ?_
  refine c_seq ?_
  refine c_region ?_
  refine o_y (y_move rfl) rfl ?_
  refine o_y (y_nilCheck rfl) rfl ?_
  refine o_y (y_fieldAddr0 rfl) rfl ?_
  refine o_y (y_load rfl rfl rfl) rfl ?_
  refine o_y (y_len_slice rfl) rfl ?_
  refine o_y (y_assign rfl) rfl ?_
  refine o_nil ?_
  refine f_seq ?_
  refine c_ret ?_
  exact f_ret rfl ⟨rfl, rfl⟩

theorem dead_fn : Fn Try.prog 19 [.pointer (some ⟨d, 0, none⟩)] [Blk d (dobj most pages lm (.slice la ln lc) nm fuse burns)]
      (fun v L => v = .bool (burns && decide (fuse = 0)) ∧ L = [Blk d (dobj most pages lm (.slice la ln lc) nm fuse burns)]) := by
  refine fn_start Try.func19 rfl rfl rfl fun F => ?_
  cases burns
  · refine c_seq ?_
    refine c_region ?_
    refine o_y (y_assign rfl) rfl ?_
    refine o_nil ?_
    refine f_seq ?_
    refine c_seq ?_
    refine c_region ?_
    refine o_y (y_move rfl) rfl ?_
    refine o_y (y_nilCheck rfl) rfl ?_
    refine o_y (y_fieldAddr0 rfl) rfl ?_
    refine o_y (y_load rfl rfl rfl) rfl ?_
    refine o_y (y_move rfl) rfl ?_
    refine o_skip rfl rfl ?_
    refine o_skip rfl rfl ?_
    refine o_skip rfl rfl ?_
    refine o_skip rfl rfl ?_
    refine o_skip rfl rfl ?_
    refine o_y (y_pick_f rfl rfl) rfl ?_
    refine o_y (y_assign rfl) rfl ?_
    refine o_nil ?_
    refine f_seq ?_
    refine c_ret ?_
    exact f_ret rfl ⟨rfl, rfl⟩
  · by_cases h : fuse = 0
    · refine c_seq ?_
      refine c_region ?_
      refine o_y (y_assign rfl) rfl ?_
      refine o_nil ?_
      refine f_seq ?_
      refine c_seq ?_
      refine c_region ?_
      refine o_y (y_move rfl) rfl ?_
      refine o_y (y_nilCheck rfl) rfl ?_
      refine o_y (y_fieldAddr0 rfl) rfl ?_
      refine o_y (y_load rfl rfl rfl) rfl ?_
      refine o_y (y_move rfl) rfl ?_
      refine o_want rfl ?_
      refine o_y (y_move rfl) rfl ?_
      refine o_want rfl ?_
      refine o_y (y_nilCheck rfl) rfl ?_
      refine o_want rfl ?_
      refine o_y (y_fieldAddr0 rfl) rfl ?_
      refine o_want rfl ?_
      refine o_y (y_load rfl rfl rfl) rfl ?_
      refine o_want rfl ?_
      refine o_y (y_eql_t rfl rfl (by omega)) rfl ?_
      refine o_y (y_pick_t rfl rfl) rfl ?_
      refine o_y (y_assign rfl) rfl ?_
      refine o_nil ?_
      refine f_seq ?_
      refine c_ret ?_
      exact f_ret rfl ⟨by simp [tup, h], rfl⟩
    · refine c_seq ?_
      refine c_region ?_
      refine o_y (y_assign rfl) rfl ?_
      refine o_nil ?_
      refine f_seq ?_
      refine c_seq ?_
      refine c_region ?_
      refine o_y (y_move rfl) rfl ?_
      refine o_y (y_nilCheck rfl) rfl ?_
      refine o_y (y_fieldAddr0 rfl) rfl ?_
      refine o_y (y_load rfl rfl rfl) rfl ?_
      refine o_y (y_move rfl) rfl ?_
      refine o_want rfl ?_
      refine o_y (y_move rfl) rfl ?_
      refine o_want rfl ?_
      refine o_y (y_nilCheck rfl) rfl ?_
      refine o_want rfl ?_
      refine o_y (y_fieldAddr0 rfl) rfl ?_
      refine o_want rfl ?_
      refine o_y (y_load rfl rfl rfl) rfl ?_
      refine o_want rfl ?_
      refine o_y (y_eql_f rfl rfl (by omega)) rfl ?_
      refine o_y (y_pick_t rfl rfl) rfl ?_
      refine o_y (y_assign rfl) rfl ?_
      refine o_nil ?_
      refine f_seq ?_
      refine c_ret ?_
      exact f_ret rfl ⟨by simp [tup, h], rfl⟩

theorem alive_fn (hf : -9223372036854775808 < fuse) (hf' : fuse ≤ 9223372036854775807) : Fn Try.prog 28 [.pointer (some ⟨d, 0, none⟩)] [Blk d (dobj most pages lm (.slice la ln lc) nm fuse burns)]
      (fun v L => v = .bool (!(burns && decide (fuse = 0))) ∧ L = [Blk d (dobj most pages lm (.slice la ln lc) nm (if (burns && decide (fuse = 0)) = true then fuse else fuse - 1) burns)]) := by
  refine fn_start Try.func28 rfl rfl rfl fun F => ?_
  refine c_seq ?_
  refine c_region ?_
  refine o_y (y_assign rfl) rfl ?_
  refine o_nil ?_
  refine f_seq ?_
  refine c_seq ?_
  refine c_seq ?_
  refine c_region ?_
  refine o_y (y_move rfl) rfl ?_
  refine o_call rfl (dead_fn d most pages lm nm la ln lc fuse burns) (by repeat (first | with_reducible exact Takes.nil | (apply Takes.cons; focus (repeat (first | with_reducible exact Rem.here | apply Rem.there))))) rfl ?_
  rintro _ _ ⟨rfl, rfl⟩
  simp only [List.append_eq, List.cons_append, List.nil_append, List.append_nil, tup]
  cases hb : (burns && decide (fuse = 0))
  · refine o_nil ?_
    refine f_seq ?_
    refine c_false rfl ?_
    refine c_skip ?_
    refine f_seq ?_
    refine c_seq ?_
    refine c_region ?_
    refine o_y (y_move rfl) rfl ?_
    refine o_y (y_nilCheck rfl) rfl ?_
    refine o_y (y_fieldAddr0 rfl) rfl ?_
    refine o_y (y_load rfl rfl rfl) rfl ?_
    refine o_y (y_arith64 rfl rfl rfl (by omega)) rfl ?_
    refine o_y (y_nilCheck rfl) rfl ?_
    refine o_y (y_fieldAddr0 rfl) rfl ?_
    refine o_store rfl rfl rfl frz0 ?_
    refine o_nil ?_
    refine f_seq ?_
    refine c_seq ?_
    refine c_region ?_
    refine o_y (y_assign rfl) rfl ?_
    refine o_nil ?_
    refine f_seq ?_
    refine c_ret ?_
    exact f_ret rfl ⟨rfl, rfl⟩
  · refine o_nil ?_
    refine f_seq ?_
    refine c_true rfl ?_
    refine c_seq ?_
    refine c_region ?_
    refine o_y (y_assign rfl) rfl ?_
    refine o_nil ?_
    refine f_seq ?_
    refine c_ret ?_
    refine f_seq_ret ?_
    exact f_ret rfl ⟨rfl, rfl⟩

/-- Bytes of their own: 256 of them. -/
def pad (l : Bytes) : Bytes := l.take 256 ++ List.replicate (256 - l.length) 0

theorem pad_nil : (pad []).map byteV = List.replicate 256 (.int .u8 0) := by
  unfold pad
  rw [List.take_nil, List.nil_append, List.length_nil, List.map_replicate]; rfl
theorem bytes_one (l : Bytes) : ∀ u ∈ l.map byteV, u.oneCell' = true := by simp [byteV, Value.oneCell']
theorem pad_map (l : Bytes) : (pad l).map byteV = (l.take 256).map byteV ++ List.replicate (256 - l.length) (.int .u8 0) := by
  unfold pad
  rw [List.map_append, List.map_replicate]; rfl

theorem copied_nil : Fn Try.prog 29 [.slice none 0 0] [] (fun v L => ∃ b, v = .slice (some ⟨b, 0, none⟩) 256 256 ∧ L = [Blk b (bobj (pad []))]) := by
  refine fn_start Try.func29 rfl rfl rfl fun F => ?_
  refine c_seq ?_
  refine c_region ?_
  refine o_y (y_assign rfl) rfl ?_
  refine o_nil ?_
  refine f_seq ?_
  refine c_seq ?_
  refine c_region ?_
  refine o_makeSlice1 256 256 rfl rfl (by omega) (by omega) (by omega) rfl (fun b => ?_)
  refine o_y (y_assign rfl) rfl ?_
  refine o_nil ?_
  refine f_seq ?_
  refine c_seq ?_
  refine c_region ?_
  refine o_y (y_move rfl) rfl ?_
  refine o_y (y_move rfl) rfl ?_
  refine o_copy (k := 0) (ys := []) rfl rfl Src.nil rfl (by simp only [List.length_replicate]; omega) (by intro u hu; cases hu) frz0 rfl ?_
  refine o_nil ?_
  refine f_seq ?_
  refine c_seq ?_
  refine c_region ?_
  refine o_y (y_move rfl) rfl ?_
  refine o_y (y_assign rfl) rfl ?_
  refine o_nil ?_
  refine f_seq ?_
  refine c_ret ?_
  refine f_ret rfl ⟨b, rfl, ?_⟩
  rw [bobj, pad_nil]; rfl

theorem copied_at (p : Bool) (b off k cap : Nat) (cs : List Value) (T : TypeId) (fz : Nat × Nat) (l : Bytes) (hl : getN cs off k = some (l.map byteV)) :
    Fn Try.prog 29 [.slice (some ⟨b, off, none⟩) k cap] [Bkp p b (.cells ⟨cs⟩ T fz)]
      (fun v L => ∃ b', v = .slice (some ⟨b', 0, none⟩) 256 256 ∧ L = [Blk b' (bobj (pad l)), Bkp p b (.cells ⟨cs⟩ T fz)]) := by
  refine fn_start Try.func29 rfl rfl rfl fun F => ?_
  refine c_seq ?_
  refine c_region ?_
  refine o_y (y_assign rfl) rfl ?_
  refine o_nil ?_
  refine f_seq ?_
  refine c_seq ?_
  refine c_region ?_
  refine o_makeSlice1 256 256 rfl rfl (by omega) (by omega) (by omega) rfl (fun b' => ?_)
  refine o_y (y_assign rfl) rfl ?_
  refine o_nil ?_
  refine f_seq ?_
  refine c_seq ?_
  refine c_region ?_
  refine o_y (y_move rfl) rfl ?_
  refine o_y (y_move rfl) rfl ?_
  refine o_copy (k := k) (ys := l.map byteV) rfl rfl (Src.slice (by rw [Nat.mul_one]; exact hl)) rfl (by simp only [List.length_replicate]; omega) (bytes_one l) frz0 rfl ?_
  refine o_nil ?_
  refine f_seq ?_
  refine c_seq ?_
  refine c_region ?_
  refine o_y (y_move rfl) rfl ?_
  refine o_y (y_assign rfl) rfl ?_
  refine o_nil ?_
  refine f_seq ?_
  refine c_ret ?_
  refine f_ret rfl ⟨b', rfl, ?_⟩
  have hk : l.length = k := by have := getN_length hl; simpa using this
  have h3 : min l.length 256 + (256 - l.length) = 256 := by omega
  have h2 := spl_mid ((l.take 256).map byteV) [] (List.replicate (min l.length 256) (Value.int .u8 0)) (List.replicate (256 - l.length) (Value.int .u8 0)) (by rw [List.length_replicate, List.length_map, List.length_take, Nat.min_comm])
  simp only [List.nil_append, List.length_nil, List.replicate_append_replicate, h3] at h2
  have h4 : List.take (min k 256 * 1) (List.map byteV l) = (l.take 256).map byteV := by
    rw [← List.map_take, ← hk]; congr 1
    rw [Nat.mul_one]
    rcases Nat.le_total l.length 256 with h | h
    · rw [Nat.min_eq_left h, List.take_of_length_le (Nat.le_refl _), List.take_of_length_le h]
    · rw [Nat.min_eq_right h]
  rw [h4, h2, bobj, pad_map]
end
end Go.Lun

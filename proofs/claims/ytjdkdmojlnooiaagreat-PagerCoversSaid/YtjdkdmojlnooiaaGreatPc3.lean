/- Texts joined: Sum, Page1, Page2, Page3, Page4, Wf0, Page5, Super1, Super2, Super3, Free1, Free2. -/
import Derived.Test.YtjdkdmojlnooiaaGreatPc1
import Derived.Test.YtjdkdmojlnooiaaGreatPc2
/- Sums: the table, and the sum of bytes. -/
namespace Go.Lun
open Go.Proofs

instance {l m : List Value} [h : Ones l] [k : Ones m] : Ones (l ++ m) := ⟨fun u hu => by
  rcases List.mem_append.1 hu with hu | hu
  · exact h.out u hu
  · exact k.out u hu⟩
instance {m : Nat} {v : Value} [h : CellsV v [v]] : Ones (List.replicate m v) := ⟨fun u hu => by
  rw [List.eq_of_mem_replicate hu]; exact h.out.2 v (by simp)⟩

theorem SetN.at {cs : List Value} {i : Nat} {v : Value} (h : i < cs.length) : SetN cs i [v] (cs.set i v) := ⟨by simp; omega, rfl⟩
abbrev u32V (v : Nat) : Value := .int .u32 (v : Int)
def crcStep (v : Nat) : Nat := if v % 2 = 1 then (v / 2) ^^^ 3988292384 else v / 2
def crcIt : Nat → Nat → Nat
  | 0, v => v
  | k + 1, v => crcStep (crcIt k v)
def crcTab : List Nat := (List.range 256).map (crcIt 8)
def crcByte (v : Nat) (c : UInt8) : Nat := (v / 256) ^^^ crcTab.getD ((v % 256) ^^^ c.toNat) 0
def crcRun (l : Bytes) : Nat := l.foldl crcByte 4294967295
def crcOf (l : Bytes) : Nat := 4294967295 ^^^ crcRun l

theorem hib32 : hib .u32 = 32 := rfl
theorem hib8 : hib .u8 = 8 := rfl
theorem hib64 : hib .i64 = 63 := rfl
theorem wrap_u8n (v : Nat) : IntKind.u8.wrap (v : Int) = ((v % 256 : Nat) : Int) := by
  have e : (2 : Int) ^ 8 = 256 := by decide
  unfold IntKind.wrap
  simp only [IntKind.bits, IntKind.signed, e, Bool.false_and, Bool.false_eq_true, if_false]
  omega
theorem crcStep_lt {v : Nat} (h : v < 4294967296) : crcStep v < 4294967296 := by
  unfold crcStep
  split
  · exact Nat.xor_lt_two_pow (n := 32) (by omega) (by omega)
  · omega
theorem crcIt_lt : ∀ (k : Nat) {v : Nat}, v < 4294967296 → crcIt k v < 4294967296
  | 0, _, h => h
  | k + 1, _, h => crcStep_lt (crcIt_lt k h)
theorem crcTab_get {i : Nat} (h : i < 256) : crcTab[i]? = some (crcIt 8 i) := by
  simp [crcTab, List.getElem?_range h]
theorem crcTab_lt (i : Nat) : crcTab.getD i 0 < 4294967296 := by
  rw [List.getD_eq_getElem?_getD]
  by_cases h : i < 256
  · rw [crcTab_get h]; exact crcIt_lt 8 (by omega)
  · rw [List.getElem?_eq_none (by simp [crcTab]; omega)]; decide
theorem crcByte_lt {v : Nat} (h : v < 4294967296) (c : UInt8) : crcByte v c < 4294967296 :=
  Nat.xor_lt_two_pow (n := 32) (by omega) (crcTab_lt _)
theorem crcRun_lt : ∀ (l : Bytes) {v : Nat}, v < 4294967296 → l.foldl crcByte v < 4294967296
  | [], _, h => h
  | c :: l, _, h => crcRun_lt l (crcByte_lt h c)
theorem crcOf_lt (l : Bytes) : crcOf l < 4294967296 := Nat.xor_lt_two_pow (n := 32) (by decide) (crcRun_lt l (by decide))

abbrev sobj (a b c : Value) (tab : List Nat) (m : Value) : Obj := .cells ⟨a :: b :: c :: (tab.map u32V ++ [m])⟩ 194 (0, 0)

theorem set3 {a b c v : Value} {l : List Value} {i : Nat} : (a :: b :: c :: l).set (3 + i * 1) v = a :: b :: c :: l.set i v := by
  rw [show 3 + i * 1 = i + 1 + 1 + 1 by omega]; rfl
theorem tab_set {i : Nat} (hi : i < 256) (m : Value) : (((crcTab.take i ++ List.replicate (256 - i) 0).map u32V) ++ [m]).set i (u32V (crcIt 8 i)) = ((crcTab.take (i + 1) ++ List.replicate (256 - (i + 1)) 0).map u32V) ++ [m] := by
  have hl : crcTab.length = 256 := by simp [crcTab]
  have h1 : (crcTab.take i).length = i := by rw [List.length_take]; omega
  rw [List.set_append_left _ _ (by rw [List.length_map, List.length_append, h1, List.length_replicate]; omega), ← List.map_set]
  congr 2
  rw [List.set_append_right _ _ (by omega), h1, Nat.sub_self, take_snoc' (crcTab_get hi)]
  obtain ⟨k, hk⟩ : ∃ k, 256 - i = k + 1 := ⟨255 - i, by omega⟩
  rw [hk, show 256 - (i + 1) = k by omega, List.replicate_succ, List.append_assoc]
  rfl

theorem new_s : Fn Tryz.prog 66 [] [] (fun v L => ∃ s, v = .pointer (some ⟨s, 0, none⟩) ∧ L = [Blk s (sobj (.int .u32 0) (.int .i32 0) (.int .u32 0) (List.replicate 256 0) (.int .i64 0))]) := by
  refine fn_start Tryz.func66 rfl rfl rfl fun F => ?_
  have e : ([.int .u32 0] ++ [.int .i32 0] ++ List.replicate 257 (.int .u32 0) ++ [.int .i64 0] : List Value) = .int .u32 0 :: .int .i32 0 :: .int .u32 0 :: ((List.replicate 256 0).map u32V ++ [.int .i64 0]) := by
    rw [List.map_replicate, show (257 : Nat) = 256 + 1 from rfl, List.replicate_succ]; rfl
  refine c_seq ?_
  refine c_region ?_
  refine o_y (y_assign rfl) rfl ?_
  refine o_nil ?_
  refine f_seq ?_
  refine c_seq ?_
  refine c_region ?_
  refine o_y (y_build rfl) rfl ?_
  refine o_box rfl rfl (fun nb => ?_)
  refine o_y (y_assign rfl) rfl ?_
  refine o_nil ?_
  refine f_seq ?_
  refine c_ret ?_
  rw [e]
  exact f_ret rfl ⟨_, rfl, rfl⟩

set_option maxHeartbeats 1600000 in
theorem fill_f (s : Nat) (a b c m : Value) : Fn Tryz.prog 176 [.pointer (some ⟨s, 0, none⟩)] [Blk s (sobj a b c (List.replicate 256 0) m)] (fun v L => v = .tuple ⟨[]⟩ ∧ L = [Blk s (sobj a b c crcTab m)]) := by
  refine fn_start Tryz.func176 rfl rfl rfl fun F => ?_
  rw [show List.replicate 256 0 = crcTab.take 0 ++ List.replicate (256 - 0) 0 from rfl]
  refine c_seq ?_
  refine c_region ?_
  refine o_y (y_move rfl) rfl ?_
  refine o_nil ?_
  refine f_seq ?_
  refine c_block ?_
  refine c_loop_inv (X := Nat) (fun i => i ≤ 256) (fun i => 256 - i) (fun i => [Blk s (sobj a b c (crcTab.take i ++ List.replicate (256 - i) 0) m)]) (fun i => [(0, .pointer (some ⟨s, 0, none⟩)), (4, .int .i64 (i : Int))]) 0 (by decide) (by repeat (first | with_reducible exact Ent.nil | (apply Ent.one; focus (repeat (first | with_reducible exact Rem.here | apply Rem.there))))) (by repeat (first | exact trivial | refine ⟨rfl, ?_⟩)) ?_
  intro i hi ih
  by_cases hlt : i < 256
  case neg =>
    have : i = 256 := by omega
    subst this
    rw [show crcTab.take 256 ++ List.replicate (256 - 256) 0 = crcTab by rw [List.take_of_length_le (by simp [crcTab])]; simp]
    refine c_seq ?_
    refine c_region ?_
    refine o_y (y_lss_f rfl rfl (by omega)) rfl ?_
    refine o_nil ?_
    refine f_seq ?_
    refine c_seq ?_
    refine c_false rfl ?_
    refine c_exit ?_
    refine f_seq_exit ?_
    refine f_seq_exit ?_
    refine f_block_here ?_
    exact f_ent (by repeat (first | with_reducible exact Ent.nil | (apply Ent.one; focus (repeat (first | with_reducible exact Rem.here | apply Rem.there))))) (f_end rfl ⟨rfl, rfl⟩)
  case pos =>
  refine c_seq ?_
  refine c_region ?_
  refine o_y (y_lss_t rfl rfl (by omega)) rfl ?_
  refine o_nil ?_
  refine f_seq ?_
  refine c_seq ?_
  refine c_true rfl ?_
  refine c_skip ?_
  refine f_seq ?_
  refine c_seq ?_
  refine c_block ?_
  refine c_seq ?_
  refine c_region ?_
  refine o_y (y_move rfl) rfl ?_
  refine o_y (y_assign rfl) rfl ?_
  refine o_nil ?_
  refine f_seq ?_
  refine c_seq ?_
  refine c_region ?_
  refine o_y (y_move rfl) rfl ?_
  refine o_y (y_conv_int rfl) rfl ?_
  refine o_y (y_assign rfl) rfl ?_
  refine o_nil ?_
  refine f_seq ?_
  refine c_seq ?_
  refine c_seq ?_
  refine c_region ?_
  refine o_y (y_move rfl) rfl ?_
  refine o_nil ?_
  refine f_seq ?_
  refine c_block ?_
  rw [show IntKind.u32.wrap (i : Int) = (i : Int) from wrap_nat (k := .u32) (by rw [hib32]; omega)]
  refine c_loop_inv (X := Nat) (fun k => k ≤ 8) (fun k => 8 - k) (fun _ => [Blk s (sobj a b c (crcTab.take i ++ List.replicate (256 - i) 0) m)])
    (fun k => [(0, .pointer (some ⟨s, 0, none⟩)), (2, .int .i64 (i : Int)), (3, u32V (crcIt k i)), (4, .int .i64 (i : Int)), (9, .int .i64 (k : Int))]) 0 (by decide) (by repeat (first | with_reducible exact Ent.nil | (apply Ent.one; focus (repeat (first | with_reducible exact Rem.here | apply Rem.there))))) (by repeat (first | exact trivial | refine ⟨rfl, ?_⟩)) ?_
  intro k hk ih2
  have hv : crcIt k i < 4294967296 := crcIt_lt k (by omega)
  by_cases hk8 : k < 8
  case pos =>
    clear ih
    refine c_seq ?_
    refine c_region ?_
    refine o_y (y_lss_t rfl rfl (by omega)) rfl ?_
    refine o_nil ?_
    refine f_seq ?_
    refine c_seq ?_
    refine c_true rfl ?_
    refine c_skip ?_
    refine f_seq ?_
    refine c_seq ?_
    refine c_block ?_
    refine c_seq ?_
    refine c_region ?_
    refine o_y (y_move rfl) rfl ?_
    refine o_y (y_and (crcIt k i) 1 rfl rfl rfl rfl (by rw [hib32]; exact hv) (by decide)) rfl ?_
    rw [Nat.and_one_is_mod]
    by_cases ho : crcIt k i % 2 = 1
    · have hs : crcIt (k + 1) i = (crcIt k i / 2 ^ 1) ^^^ 3988292384 := by show crcStep (crcIt k i) = _; unfold crcStep; rw [if_pos ho]
      rw [ho]
      refine o_y (y_eql_t rfl rfl (by omega)) rfl ?_
      refine o_nil ?_
      refine f_seq ?_
      refine c_true rfl ?_
      refine c_region ?_
      refine o_y (y_move rfl) rfl ?_
      refine o_y (y_shr (crcIt k i) 1 rfl rfl rfl rfl (by decide)) rfl ?_
      refine o_y (y_xor (crcIt k i / 2 ^ 1) 3988292384 rfl rfl rfl rfl (by rw [hib32]; omega) (by decide)) rfl ?_
      rw [← hs]
      refine o_y (y_assign rfl) rfl ?_
      refine o_nil ?_
      refine f_block ?_
      refine f_seq ?_
      refine c_region ?_
      refine o_y (y_arith64 rfl rfl rfl (by omega)) rfl ?_
      refine o_y (y_move rfl) rfl ?_
      refine o_nil ?_
      exact f_next (by repeat (first | with_reducible exact Ent.nil | (apply Ent.one; focus (repeat (first | with_reducible exact Rem.here | apply Rem.there))))) (by repeat (first | exact trivial | refine ⟨rfl, ?_⟩)) (ih2 (k + 1) hk8 (by omega))
    · have hs : crcIt (k + 1) i = crcIt k i / 2 ^ 1 := by show crcStep (crcIt k i) = _; unfold crcStep; rw [if_neg ho]
      rw [show crcIt k i % 2 = 0 by omega]
      refine o_y (y_eql_f rfl rfl (by omega)) rfl ?_
      refine o_nil ?_
      refine f_seq ?_
      refine c_false rfl ?_
      refine c_region ?_
      refine o_y (y_move rfl) rfl ?_
      refine o_y (y_shr (crcIt k i) 1 rfl rfl rfl rfl (by decide)) rfl ?_
      rw [← hs]
      refine o_y (y_assign rfl) rfl ?_
      refine o_nil ?_
      refine f_block ?_
      refine f_seq ?_
      refine c_region ?_
      refine o_y (y_arith64 rfl rfl rfl (by omega)) rfl ?_
      refine o_y (y_move rfl) rfl ?_
      refine o_nil ?_
      exact f_next (by repeat (first | with_reducible exact Ent.nil | (apply Ent.one; focus (repeat (first | with_reducible exact Rem.here | apply Rem.there))))) (by repeat (first | exact trivial | refine ⟨rfl, ?_⟩)) (ih2 (k + 1) hk8 (by omega))
  case neg =>
    clear ih2
    have : k = 8 := by omega
    subst this
    refine c_seq ?_
    refine c_region ?_
    refine o_y (y_lss_f rfl rfl (by omega)) rfl ?_
    refine o_nil ?_
    refine f_seq ?_
    refine c_seq ?_
    refine c_false rfl ?_
    refine c_exit ?_
    refine f_seq_exit ?_
    refine f_seq_exit ?_
    refine f_block_here ?_
    refine f_seq ?_
    refine c_region ?_
    refine o_y (y_move rfl) rfl ?_
    refine o_y (y_move rfl) rfl ?_
    refine o_y (y_move rfl) rfl ?_
    refine o_y (y_nilCheck rfl) rfl ?_
    refine o_y (y_fieldAddr0 rfl) rfl ?_
    refine o_y (y_indexAddrA i rfl rfl rfl hlt) rfl ?_
    have hcl : crcTab.length = 256 := by simp [crcTab]
    have hlen : (3 + i * 1) < (a :: b :: c :: (((crcTab.take i ++ List.replicate (256 - i) 0).map u32V) ++ [m])).length := by
      simp only [List.length_cons, List.length_append, List.length_map, List.length_take, List.length_replicate]; omega
    refine o_store rfl rfl rfl (hset := SetN.at hlen) frz0 ?_
    rw [set3, tab_set hlt]
    refine o_nil ?_
    refine f_block ?_
    refine f_seq ?_
    refine c_region ?_
    refine o_y (y_arith64 rfl rfl rfl (by omega)) rfl ?_
    refine o_y (y_move rfl) rfl ?_
    refine o_nil ?_
    exact f_next (by repeat (first | with_reducible exact Ent.nil | (apply Ent.one; focus (repeat (first | with_reducible exact Rem.here | apply Rem.there))))) (by repeat (first | exact trivial | refine ⟨rfl, ?_⟩)) (ih (i + 1) hlt (by omega))

/-! ### Once -/

instance : ExtF Tryz.prog 188 (Extern.Atomic.loadT (.int .u32)) := ExtF.of Tryz.func188 (by kernel_rfl) (by kernel_rfl) (by kernel_rfl) (by kernel_rfl)
instance : ExtF Tryz.prog 194 Extern.Atomic.storeT := ExtF.of Tryz.func194 (by kernel_rfl) (by kernel_rfl) (by kernel_rfl) (by kernel_rfl)
instance : ExtF Tryz.prog 197 (Extern.Atomic.casT (.int .i32)) := ExtF.of Tryz.func197 (by kernel_rfl) (by kernel_rfl) (by kernel_rfl) (by kernel_rfl)
instance : ExtF Tryz.prog 202 (Extern.Atomic.update (Op.intArith .add) .i32 true) := ExtF.of Tryz.func202 (by kernel_rfl) (by kernel_rfl) (by kernel_rfl) (by kernel_rfl)
instance : ExtF Tryz.prog 185 (Extern.Atomic.update (Op.intArith .add) .i64 true) := ExtF.of Tryz.func185 (by kernel_rfl) (by kernel_rfl) (by kernel_rfl) (by kernel_rfl)
instance : ExtF Tryz.prog 196 (fun _ => do mark .disable; pure Extern.Race.none_) := ExtF.of Tryz.func196 (by kernel_rfl) (by kernel_rfl) (by kernel_rfl) (by kernel_rfl)
instance : ExtF Tryz.prog 198 (fun _ => do mark .enable; pure Extern.Race.none_) := ExtF.of Tryz.func198 (by kernel_rfl) (by kernel_rfl) (by kernel_rfl) (by kernel_rfl)
instance : ExtF Tryz.prog 199 (Extern.Race.marked .acquire) := ExtF.of Tryz.func199 (by kernel_rfl) (by kernel_rfl) (by kernel_rfl) (by kernel_rfl)
instance : ExtF Tryz.prog 201 (Extern.Race.marked .releaseMerge) := ExtF.of Tryz.func201 (by kernel_rfl) (by kernel_rfl) (by kernel_rfl) (by kernel_rfl)

section
variable (s : Nat) (tab : List Nat) (m : Value)

theorem done_off (b c : Value) : Fn Tryz.prog 183 [.pointer (some ⟨s, 0, none⟩)] [Blk s (sobj (.int .u32 0) b c tab m)] (fun v L => v = .bool false ∧ L = [Blk s (sobj (.int .u32 0) b c tab m)]) := by
  refine fn_start Tryz.func183 rfl rfl rfl fun F => ?_
  refine c_seq ?_
  refine c_region ?_
  refine o_y (y_assign rfl) rfl ?_
  refine o_nil ?_
  refine f_seq ?_
  refine c_seq ?_
  refine c_region ?_
  refine o_y (y_move rfl) rfl ?_
  refine o_y (y_nilCheck rfl) rfl ?_
  refine o_y (y_fieldAddr0 rfl) rfl ?_
  refine o_aload rfl rfl rfl ?_
  refine o_y (y_neq_f rfl rfl (by omega)) rfl ?_
  refine o_y (y_assign rfl) rfl ?_
  refine o_nil ?_
  refine f_seq ?_
  refine c_ret ?_
  exact f_ret rfl ⟨rfl, rfl⟩
theorem done_on (b c : Value) : Fn Tryz.prog 183 [.pointer (some ⟨s, 0, none⟩)] [Blk s (sobj (.int .u32 1) b c tab m)] (fun v L => v = .bool true ∧ L = [Blk s (sobj (.int .u32 1) b c tab m)]) := by
  refine fn_start Tryz.func183 rfl rfl rfl fun F => ?_
  refine c_seq ?_
  refine c_region ?_
  refine o_y (y_assign rfl) rfl ?_
  refine o_nil ?_
  refine f_seq ?_
  refine c_seq ?_
  refine c_region ?_
  refine o_y (y_move rfl) rfl ?_
  refine o_y (y_nilCheck rfl) rfl ?_
  refine o_y (y_fieldAddr0 rfl) rfl ?_
  refine o_aload rfl rfl rfl ?_
  refine o_y (y_neq_t rfl rfl (by omega)) rfl ?_
  refine o_y (y_assign rfl) rfl ?_
  refine o_nil ?_
  refine f_seq ?_
  refine c_ret ?_
  exact f_ret rfl ⟨rfl, rfl⟩

theorem lock_i (a c : Value) : Fn Tryz.prog 192 [.pointer (some ⟨s, 1, none⟩)] [Blk s (sobj a (.int .i32 0) c tab m)] (fun v L => v = .tuple ⟨[]⟩ ∧ L = [Blk s (sobj a (.int .i32 1) c tab m)]) := by
  refine fn_start Tryz.func192 rfl rfl rfl fun F => ?_
  refine c_seq ?_
  refine c_region ?_
  refine o_mark0 rfl ?_
  refine o_nil ?_
  refine f_seq ?_
  refine c_seq ?_
  refine c_seq ?_
  refine c_region ?_
  refine o_y (y_move rfl) rfl ?_
  refine o_y (y_nilCheck rfl) rfl ?_
  refine o_y (y_fieldAddr rfl) rfl ?_
  refine o_acas rfl rfl rfl rfl rfl rfl ?_
  refine o_nil ?_
  refine f_seq ?_
  refine c_true rfl ?_
  refine c_seq ?_
  refine c_true rfl ?_
  refine c_seq ?_
  refine c_region ?_
  refine o_mark0 rfl ?_
  refine o_nil ?_
  refine f_seq ?_
  refine c_region ?_
  refine o_y (y_move rfl) rfl ?_
  refine o_y (y_conv_unsafe rfl rfl rfl) rfl ?_
  refine o_marked rfl rfl ?_
  refine o_nil ?_
  refine f_seq ?_
  refine c_ret ?_
  refine f_seq_ret ?_
  exact f_ret rfl ⟨rfl, rfl⟩

theorem unlock_i (a c : Value) : Fn Tryz.prog 193 [.pointer (some ⟨s, 1, none⟩)] [Blk s (sobj a (.int .i32 1) c tab m)] (fun v L => v = .tuple ⟨[]⟩ ∧ L = [Blk s (sobj a (.int .i32 0) c tab m)]) := by
  refine fn_start Tryz.func193 rfl rfl rfl fun F => ?_
  refine c_seq ?_
  refine c_true rfl ?_
  refine c_seq ?_
  refine c_region ?_
  refine o_y (y_move rfl) rfl ?_
  refine o_y (y_nilCheck rfl) rfl ?_
  refine o_y (y_fieldAddr rfl) rfl ?_
  refine o_y (y_load rfl rfl rfl) rfl ?_
  refine o_nil ?_
  refine f_seq ?_
  refine c_seq ?_
  refine c_region ?_
  refine o_y (y_move rfl) rfl ?_
  refine o_y (y_conv_unsafe rfl rfl rfl) rfl ?_
  refine o_marked rfl rfl ?_
  refine o_nil ?_
  refine f_seq ?_
  refine c_region ?_
  refine o_mark0 rfl ?_
  refine o_nil ?_
  refine f_seq ?_
  refine c_seq ?_
  refine c_region ?_
  refine o_y (y_move rfl) rfl ?_
  refine o_y (y_nilCheck rfl) rfl ?_
  refine o_y (y_fieldAddr rfl) rfl ?_
  refine o_aadd rfl rfl rfl rfl rfl ?_
  rw [show IntKind.i32.wrap (1 + -1) = 0 by decide]
  refine o_y (y_assign rfl) rfl ?_
  refine o_nil ?_
  refine f_seq ?_
  refine c_seq ?_
  refine c_seq ?_
  refine c_region ?_
  refine o_y (y_move rfl) rfl ?_
  refine o_y (y_neq_f rfl rfl (by omega)) rfl ?_
  refine o_nil ?_
  refine f_seq ?_
  refine c_false rfl ?_
  refine c_skip ?_
  refine f_seq ?_
  refine c_region ?_
  refine o_mark0 rfl ?_
  refine o_nil ?_
  exact f_end rfl ⟨rfl, rfl⟩

theorem lock_m (a c : Value) : Fn Tryz.prog 189 [.pointer (some ⟨s, 1, none⟩)] [Blk s (sobj a (.int .i32 0) c tab m)] (fun v L => v = .tuple ⟨[]⟩ ∧ L = [Blk s (sobj a (.int .i32 1) c tab m)]) := by
  refine fn_start Tryz.func189 rfl rfl rfl fun F => ?_
  refine c_region ?_
  refine o_y (y_move rfl) rfl ?_
  refine o_y (y_nilCheck rfl) rfl ?_
  refine o_y (y_fieldAddr rfl) rfl ?_
  refine o_call rfl (lock_i s tab m a c) (by repeat (first | with_reducible exact Takes.nil | (apply Takes.cons; focus (repeat (first | with_reducible exact Rem.here | apply Rem.there))))) rfl ?_
  rintro _ _ ⟨rfl, rfl⟩
  simp only [List.append_eq, List.cons_append, List.nil_append, List.append_nil, tup]
  refine o_nil ?_
  exact f_end rfl ⟨rfl, rfl⟩
theorem unlock_m (a c : Value) : FnD Tryz.prog 190 [.pointer (some ⟨s, 1, none⟩)] [Blk s (sobj a (.int .i32 1) c tab m)] (fun v L => v = .tuple ⟨[]⟩ ∧ L = [Blk s (sobj a (.int .i32 0) c tab m)]) := by
  refine fnD_start Tryz.func190 rfl rfl rfl fun F => ?_
  refine c_region ?_
  refine o_y (y_move rfl) rfl ?_
  refine o_y (y_nilCheck rfl) rfl ?_
  refine o_y (y_fieldAddr rfl) rfl ?_
  refine o_call rfl (unlock_i s tab m a c) (by repeat (first | with_reducible exact Takes.nil | (apply Takes.cons; focus (repeat (first | with_reducible exact Rem.here | apply Rem.there))))) rfl ?_
  rintro _ _ ⟨rfl, rfl⟩
  simp only [List.append_eq, List.cons_append, List.nil_append, List.append_nil, tup]
  refine o_nil ?_
  exact f_end0 rfl ⟨rfl, rfl⟩

theorem b32_f : Fn Tryz.prog 195 [.bool true] [] (fun v L => v = .int .u32 1 ∧ L = []) := by
  refine fn_start Tryz.func195 rfl rfl rfl fun F => ?_
  refine c_seq ?_
  refine c_region ?_
  refine o_y (y_assign rfl) rfl ?_
  refine o_nil ?_
  refine f_seq ?_
  refine c_seq ?_
  refine c_seq ?_
  refine c_region ?_
  refine o_y (y_move rfl) rfl ?_
  refine o_nil ?_
  refine f_seq ?_
  refine c_true rfl ?_
  refine c_seq ?_
  refine c_region ?_
  refine o_y (y_assign rfl) rfl ?_
  refine o_nil ?_
  refine f_seq ?_
  refine c_ret ?_
  refine f_seq_ret ?_
  exact f_ret rfl ⟨rfl, rfl⟩

theorem done_store (d : Int) (b c : Value) : FnD Tryz.prog 191 [.pointer (some ⟨s, 0, none⟩), .bool true] [Blk s (sobj (.int .u32 d) b c tab m)] (fun v L => v = .tuple ⟨[]⟩ ∧ L = [Blk s (sobj (.int .u32 1) b c tab m)]) := by
  refine fnD_start Tryz.func191 rfl rfl rfl fun F => ?_
  refine pl_start [4, 5] Tryz.mixed ?_; intro hd
  refine pl_take (i := 0) rfl (by kernel_rfl) (y_move rfl) ?_ hd; clear hd; intro hd
  refine pl_take (i := 1) rfl (by kernel_rfl) (y_nilCheck rfl) ?_ hd; clear hd; intro hd
  refine pl_take (i := 2) rfl (by kernel_rfl) (y_fieldAddr0 rfl) ?_ hd; clear hd; intro hd
  refine pl_take (i := 3) rfl (by kernel_rfl) (y_move rfl) ?_ hd; clear hd; intro hd
  refine pl_sole (i := 4) (by kernel_rfl) rfl ?_ hd; clear hd; intro hd
  refine o_call rfl b32_f (by repeat (first | with_reducible exact Takes.nil | (apply Takes.cons; focus (repeat (first | with_reducible exact Rem.here | apply Rem.there))))) rfl ?_
  rintro _ _ ⟨rfl, rfl⟩
  simp only [List.append_eq, List.cons_append, List.nil_append, List.append_nil, tup]
  refine pl_back (by repeat (first | with_reducible exact Owes.nil | with_reducible refine Owes.same ?_ | with_reducible refine Owes.any ?_ | refine Owes.waived 4 (by kernel_rfl) ?_)) ?_ hd; clear hd; intro hd
  refine pl_sole (i := 5) (by kernel_rfl) rfl ?_ hd; clear hd; intro hd
  refine o_astore rfl rfl rfl rfl rfl ?_
  refine pl_back (by repeat (first | with_reducible exact Owes.nil | with_reducible refine Owes.same ?_ | with_reducible refine Owes.any ?_ | refine Owes.waived 5 (by kernel_rfl) ?_ | refine Owes.waived 4 (by kernel_rfl) ?_)) ?_ hd; clear hd; intro hd
  refine pl_done (by kernel_rfl) ?_ hd
  exact f_end0 rfl ⟨rfl, rfl⟩

end

theorem slow_f (s : Nat) (m : Value) : Fn Tryz.prog 184 [.pointer (some ⟨s, 0, none⟩), .func (.func 176) ⟨[.pointer (some ⟨s, 0, none⟩)]⟩ ⟨[]⟩] [Blk s (sobj (.int .u32 0) (.int .i32 0) (.int .u32 0) (List.replicate 256 0) m)]
    (fun v L => v = .tuple ⟨[]⟩ ∧ L = [Blk s (sobj (.int .u32 1) (.int .i32 0) (.int .u32 0) crcTab m)]) := by
  refine fn_startR Tryz.func184 rfl rfl rfl fun F hro => ?_
  refine c_seq ?_
  refine c_region ?_
  refine o_y (y_move rfl) rfl ?_
  refine o_y (y_nilCheck rfl) rfl ?_
  refine o_y (y_fieldAddr0 rfl) rfl ?_
  refine o_call rfl (lock_m s (List.replicate 256 0) m (.int .u32 0) (.int .u32 0)) (by repeat (first | with_reducible exact Takes.nil | (apply Takes.cons; focus (repeat (first | with_reducible exact Rem.here | apply Rem.there))))) rfl ?_
  rintro _ _ ⟨rfl, rfl⟩
  simp only [List.append_eq, List.cons_append, List.nil_append, List.append_nil, tup]
  refine o_nil ?_
  refine f_seq ?_
  refine c_seq ?_
  refine c_regionD hro ?_
  refine o_y (y_move rfl) rfl ?_
  refine o_y (y_nilCheck rfl) rfl ?_
  refine o_y (y_fieldAddr0 rfl) rfl ?_
  refine o_defer rfl ?_
  refine o_nil ?_
  refine f_seq ?_
  refine c_seq ?_
  refine c_region ?_
  refine o_y (y_move rfl) rfl ?_
  refine o_y (y_nilCheck rfl) rfl ?_
  refine o_y (y_fieldAddr0 rfl) rfl ?_
  refine o_call rfl (done_off s (List.replicate 256 0) m (.int .i32 1) (.int .u32 0)) (by repeat (first | with_reducible exact Takes.nil | (apply Takes.cons; focus (repeat (first | with_reducible exact Rem.here | apply Rem.there))))) rfl ?_
  rintro _ _ ⟨rfl, rfl⟩
  simp only [List.append_eq, List.cons_append, List.nil_append, List.append_nil, tup]
  refine o_y (y_not rfl) rfl ?_
  refine o_nil ?_
  refine f_seq ?_
  refine c_true rfl ?_
  refine c_seq ?_
  refine c_regionD hro ?_
  refine o_y (y_move rfl) rfl ?_
  refine o_y (y_nilCheck rfl) rfl ?_
  refine o_y (y_fieldAddr0 rfl) rfl ?_
  refine o_defer rfl ?_
  refine o_nil ?_
  refine f_seq ?_
  refine c_region ?_
  refine o_y (y_move rfl) rfl ?_
  refine o_call_val rfl rfl (fill_f s (.int .u32 0) (.int .i32 1) (.int .u32 0) m) (by repeat (first | with_reducible exact Takes.nil | (apply Takes.cons; focus (repeat (first | with_reducible exact Rem.here | apply Rem.there))))) rfl ?_
  rintro _ _ ⟨rfl, rfl⟩
  simp only [List.append_eq, List.cons_append, List.nil_append, List.append_nil, tup]
  refine o_nil ?_
  refine f_leave_end (done_store s crcTab m 0 (.int .i32 1) (.int .u32 0)) (by repeat (first | with_reducible exact Takes.nil | (apply Takes.cons; focus (repeat (first | with_reducible exact Rem.here | apply Rem.there))))) ?_
  rintro _ _ ⟨rfl, rfl⟩
  simp only [List.append_eq, List.cons_append, List.nil_append, List.append_nil, tup]
  refine f_leave_end (unlock_m s crcTab m (.int .u32 1) (.int .u32 0)) (by repeat (first | with_reducible exact Takes.nil | (apply Takes.cons; focus (repeat (first | with_reducible exact Rem.here | apply Rem.there))))) ?_
  rintro _ _ ⟨rfl, rfl⟩
  simp only [List.append_eq, List.cons_append, List.nil_append, List.append_nil, tup]
  exact f_end rfl ⟨rfl, rfl⟩

/-- One that makes sums: its table is made, or not yet; so many bytes were summed. -/
structure SX where
  on : Bool
  n : Int
abbrev SX.obj (x : SX) : Obj := sobj (.int .u32 (if x.on then 1 else 0)) (.int .i32 0) (.int .u32 0) (if x.on then crcTab else List.replicate 256 0) (.int .i64 x.n)
def SumR (s : Nat) : Asrt := fun r => ∃ x : SX, sep [Blk s x.obj] r
instance {s : Nat} : Opens (SumR s) SX (fun _ => True) (fun x => [Blk s x.obj]) := ⟨fun _ ⟨x, h⟩ => ⟨x, trivial, h⟩⟩
theorem SumR.off {s : Nat} {n : Int} : ∀ r, sep [Blk s (sobj (.int .u32 0) (.int .i32 0) (.int .u32 0) (List.replicate 256 0) (.int .i64 n))] r → SumR s r := fun _ h => ⟨⟨false, n⟩, h⟩
theorem SumR.lit {s : Nat} {n : Int} : ∀ r, sep [Blk s (sobj (.int .u32 1) (.int .i32 0) (.int .u32 0) crcTab (.int .i64 n))] r → SumR s r := fun _ h => ⟨⟨true, n⟩, h⟩

theorem sum_new : Fn Tryz.prog 66 [] [] (fun v L => ∃ s, v = .pointer (some ⟨s, 0, none⟩) ∧ L = [SumR s]) :=
  Fn.frame new_s (by repeat (first | with_reducible exact Takes.nil | (apply Takes.cons; focus (repeat (first | with_reducible exact Rem.here | apply Rem.there))))) fun v L => by
    rintro ⟨s, rfl, rfl⟩
    refine ⟨_, _, ⟨s, rfl, rfl⟩, rfl, ?_⟩
    simp only [List.append_eq, List.cons_append, List.nil_append, List.append_nil, tup]
    exact Ent.put (P := [Blk s (sobj (.int .u32 0) (.int .i32 0) (.int .u32 0) (List.replicate 256 0) (.int .i64 0))]) (by repeat (first | with_reducible exact Takes.nil | (apply Takes.cons; focus (repeat (first | with_reducible exact Rem.here | apply Rem.there))))) SumR.off Ent.nil

theorem once_f (s : Nat) (x : SX) : Fn Tryz.prog 175 [.pointer (some ⟨s, 0, none⟩), .func (.func 176) ⟨[.pointer (some ⟨s, 0, none⟩)]⟩ ⟨[]⟩] [Blk s x.obj]
    (fun v L => v = .tuple ⟨[]⟩ ∧ L = [Blk s (sobj (.int .u32 1) (.int .i32 0) (.int .u32 0) crcTab (.int .i64 x.n))]) := by
  refine fn_start Tryz.func175 rfl rfl rfl fun F => ?_
  obtain ⟨on, n⟩ := x
  cases on with
  | true =>
    dsimp only [SX.obj]
    simp only [if_true]
    refine c_seq ?_
    refine c_region ?_
    refine o_y (y_move rfl) rfl ?_
    refine o_y (y_nilCheck rfl) rfl ?_
    refine o_y (y_fieldAddr0 rfl) rfl ?_
    refine o_call rfl (done_on s crcTab (.int .i64 n) (.int .i32 0) (.int .u32 0)) (by repeat (first | with_reducible exact Takes.nil | (apply Takes.cons; focus (repeat (first | with_reducible exact Rem.here | apply Rem.there))))) rfl ?_
    rintro _ _ ⟨rfl, rfl⟩
    simp only [List.append_eq, List.cons_append, List.nil_append, List.append_nil, tup]
    refine o_y (y_not rfl) rfl ?_
    refine o_nil ?_
    refine f_seq ?_
    refine c_false rfl ?_
    refine c_skip ?_
    exact f_end rfl ⟨rfl, rfl⟩
  | false =>
    dsimp only [SX.obj]
    simp only [Bool.false_eq_true, if_false]
    refine c_seq ?_
    refine c_region ?_
    refine o_y (y_move rfl) rfl ?_
    refine o_y (y_nilCheck rfl) rfl ?_
    refine o_y (y_fieldAddr0 rfl) rfl ?_
    refine o_call rfl (done_off s (List.replicate 256 0) (.int .i64 n) (.int .i32 0) (.int .u32 0)) (by repeat (first | with_reducible exact Takes.nil | (apply Takes.cons; focus (repeat (first | with_reducible exact Rem.here | apply Rem.there))))) rfl ?_
    rintro _ _ ⟨rfl, rfl⟩
    simp only [List.append_eq, List.cons_append, List.nil_append, List.append_nil, tup]
    refine o_y (y_not rfl) rfl ?_
    refine o_nil ?_
    refine f_seq ?_
    refine c_true rfl ?_
    refine c_region ?_
    refine o_y (y_move rfl) rfl ?_
    refine o_y (y_move rfl) rfl ?_
    refine o_call rfl (slow_f s (.int .i64 n)) (by repeat (first | with_reducible exact Takes.nil | (apply Takes.cons; focus (repeat (first | with_reducible exact Rem.here | apply Rem.there))))) rfl ?_
    rintro _ _ ⟨rfl, rfl⟩
    simp only [List.append_eq, List.cons_append, List.nil_append, List.append_nil, tup]
    refine o_nil ?_
    exact f_end rfl ⟨rfl, rfl⟩

theorem i64_add_f (s : Nat) (a b c : Value) (tab : List Nat) (hl : tab.length = 256) (n k : Int) : Fn Tryz.prog 177 [.pointer (some ⟨s, 259, none⟩), .int .i64 k] [Blk s (sobj a b c tab (.int .i64 n))]
    (fun v L => ∃ n', v = .int .i64 n' ∧ L = [Blk s (sobj a b c tab (.int .i64 n'))]) := by
  refine fn_start Tryz.func177 rfl rfl rfl fun F => ?_
  have hset : SetL (a :: b :: c :: (tab.map u32V ++ [.int .i64 n])) 259 (.int .i64 (IntKind.i64.wrap (n + k))) (a :: b :: c :: (tab.map u32V ++ [.int .i64 (IntKind.i64.wrap (n + k))])) := ⟨by simp [hl], by
    rw [show 259 = 256 + 1 + 1 + 1 from rfl]
    simp only [List.set_cons_succ]
    rw [List.set_append_right _ _ (by rw [List.length_map, hl]; omega), List.length_map, hl]; rfl⟩
  have hg : (a :: b :: c :: (tab.map u32V ++ [.int .i64 n]))[259]? = some (.int .i64 n) := by
    rw [show 259 = 256 + 1 + 1 + 1 from rfl]
    simp only [List.getElem?_cons_succ]
    rw [List.getElem?_append_right (by rw [List.length_map, hl]; omega), List.length_map, hl]; rfl
  refine c_seq ?_
  refine c_region ?_
  refine o_y (y_assign rfl) rfl ?_
  refine o_nil ?_
  refine f_seq ?_
  refine c_seq ?_
  refine c_region ?_
  refine o_y (y_move rfl) rfl ?_
  refine o_y (y_nilCheck rfl) rfl ?_
  refine o_y (y_fieldAddr rfl) rfl ?_
  refine o_y (y_move rfl) rfl ?_
  refine o_aadd (hset := hset) rfl rfl hg rfl rfl ?_
  refine o_y (y_assign rfl) rfl ?_
  refine o_nil ?_
  refine f_seq ?_
  refine c_ret ?_
  exact f_ret rfl ⟨_, rfl, rfl⟩


set_option maxHeartbeats 3200000 in
/-- The sum of bytes that lie in a block of one's own. -/
theorem parts_f (s b off cap q : Nat) (cs : List Value) (T : TypeId) (fz : Nat × Nat) (p : Bool) (l : Bytes) (hl : getN cs off l.length = some (l.map byteV)) (hn : l.length ≤ 1000000) (x : SX) :
    Fn Tryz.prog 160 [.pointer (some ⟨s, 0, none⟩), .slice (some ⟨q, 0, none⟩) 1 1] [Blk s x.obj, Bkp p b (.cells ⟨cs⟩ T fz), Blk q (.cells ⟨[.slice (some ⟨b, off, none⟩) l.length cap]⟩ 126 (0, 0))]
      (fun v L => ∃ n, v = u32V (crcOf l) ∧ L = [Blk s (sobj (.int .u32 1) (.int .i32 0) (.int .u32 0) crcTab (.int .i64 n)), Bkp p b (.cells ⟨cs⟩ T fz)]) := by
  refine fn_start Tryz.func160 rfl rfl rfl fun F => ?_
  have hcl : crcTab.length = 256 := by simp [crcTab]
  have hg : ∀ i c, l[i]? = some c → cs[off + i * 1]? = some (byteV c) := by
    intro i c hi
    have hlt : i < l.length := by
      rcases Nat.lt_or_ge i l.length with h | h
      · exact h
      · rw [List.getElem?_eq_none h] at hi; cases hi
    have := (takeN_get hl).2 i hlt
    rw [List.getElem?_drop, List.getElem?_map, hi] at this
    rw [Nat.mul_one]; exact this
  refine c_seq ?_
  refine c_region ?_
  refine o_y (y_assign rfl) rfl ?_
  refine o_nil ?_
  refine f_seq ?_
  refine c_seq ?_
  refine c_region ?_
  refine o_y (y_move rfl) rfl ?_
  refine o_y (y_nilCheck rfl) rfl ?_
  refine o_y (y_fieldAddr0 rfl) rfl ?_
  refine o_y (y_move rfl) rfl ?_
  refine o_y (y_makeFunc rfl rfl) rfl ?_
  refine o_call rfl (once_f s x) (by repeat (first | with_reducible exact Takes.nil | (apply Takes.cons; focus (repeat (first | with_reducible exact Rem.here | apply Rem.there))))) rfl ?_
  rintro _ _ ⟨rfl, rfl⟩
  simp only [List.append_eq, List.cons_append, List.nil_append, List.append_nil, tup]
  refine o_nil ?_
  refine f_seq ?_
  refine c_seq ?_
  refine c_region ?_
  refine o_y (y_assign rfl) rfl ?_
  refine o_nil ?_
  refine f_seq ?_
  refine c_seq ?_
  refine c_seq ?_
  refine c_region ?_
  refine o_y (y_move rfl) rfl ?_
  refine o_y (y_len_slice rfl) rfl ?_
  refine o_y (y_move rfl) rfl ?_
  refine o_nil ?_
  refine f_seq ?_
  refine c_block ?_
  refine c_loop_inv (X := Nat × Int) (fun y => y.1 ≤ 1) (fun y => 1 - y.1)
    (fun y => [Blk s (sobj (.int .u32 1) (.int .i32 0) (.int .u32 0) crcTab (.int .i64 y.2)), Bkp p b (.cells ⟨cs⟩ T fz), Blk q (.cells ⟨[.slice (some ⟨b, off, none⟩) l.length cap]⟩ 126 (0, 0))])
    (fun y => [(0, .pointer (some ⟨s, 0, none⟩)), (5, u32V (if y.1 = 0 then 4294967295 else crcRun l)), (16, .slice (some ⟨q, 0, none⟩) 1 1), (17, .int .i64 1), (18, .int .i64 (y.1 : Int))]) (0, x.n) (Nat.zero_le _) (by repeat (first | with_reducible exact Ent.nil | (apply Ent.one; focus (repeat (first | with_reducible exact Rem.here | apply Rem.there))))) (by repeat (first | exact trivial | refine ⟨rfl, ?_⟩)) ?_
  rintro ⟨j, n⟩ hj ih
  dsimp only at hj ih ⊢
  by_cases h0 : j < 1
  case neg =>
    have : j = 1 := by omega
    subst this
    rw [if_neg (by decide)]
    clear ih
    refine c_seq ?_
    refine c_region ?_
    refine o_y (y_lss_f rfl rfl (by omega)) rfl ?_
    refine o_nil ?_
    refine f_seq ?_
    refine c_seq ?_
    refine c_false rfl ?_
    refine c_exit ?_
    refine f_seq_exit ?_
    refine f_seq_exit ?_
    refine f_block_here ?_
    refine f_seq ?_
    refine c_seq ?_
    refine c_region ?_
    refine o_y (y_move rfl) rfl ?_
    refine o_y (y_compl (crcRun l) rfl rfl rfl (by rw [hib32]; exact crcRun_lt l (by decide))) rfl ?_
    refine o_y (y_assign rfl) rfl ?_
    refine o_nil ?_
    refine f_seq ?_
    refine c_ret ?_
    exact f_ent (by repeat (first | with_reducible exact Ent.nil | (apply Ent.one; focus (repeat (first | with_reducible exact Rem.here | apply Rem.there))))) (f_ret rfl ⟨n, rfl, rfl⟩)
  case pos =>
  have : j = 0 := by omega
  subst this
  rw [if_pos rfl]
  refine c_seq ?_
  refine c_region ?_
  refine o_y (y_lss_t rfl rfl (by omega)) rfl ?_
  refine o_nil ?_
  refine f_seq ?_
  refine c_seq ?_
  refine c_true rfl ?_
  refine c_skip ?_
  refine f_seq ?_
  refine c_seq ?_
  refine c_block ?_
  refine c_seq ?_
  refine c_region ?_
  refine o_y (y_indexAddr 0 rfl rfl rfl (by decide)) rfl ?_
  refine o_y (y_load rfl rfl rfl) rfl ?_
  refine o_y (y_assign rfl) rfl ?_
  refine o_nil ?_
  refine f_seq ?_
  refine c_seq ?_
  refine c_seq ?_
  refine c_region ?_
  refine o_y (y_move rfl) rfl ?_
  refine o_y (y_len_slice rfl) rfl ?_
  refine o_y (y_move rfl) rfl ?_
  refine o_nil ?_
  refine f_seq ?_
  refine c_block ?_
  refine c_loop_inv (X := Nat) (fun i => i ≤ l.length) (fun i => l.length - i)
    (fun _ => [Blk s (sobj (.int .u32 1) (.int .i32 0) (.int .u32 0) crcTab (.int .i64 n)), Bkp p b (.cells ⟨cs⟩ T fz), Blk q (.cells ⟨[.slice (some ⟨b, off, none⟩) l.length cap]⟩ 126 (0, 0))])
    (fun i => [(0, .pointer (some ⟨s, 0, none⟩)), (5, u32V ((l.take i).foldl crcByte 4294967295)), (7, .slice (some ⟨b, off, none⟩) l.length cap), (16, .slice (some ⟨q, 0, none⟩) 1 1), (17, .int .i64 1), (18, .int .i64 ((0 : Nat) : Int)), (22, .slice (some ⟨b, off, none⟩) l.length cap), (23, .int .i64 (l.length : Int)), (24, .int .i64 (i : Int))]) 0 (Nat.zero_le _) (by repeat (first | with_reducible exact Ent.nil | (apply Ent.one; focus (repeat (first | with_reducible exact Rem.here | apply Rem.there))))) (by repeat (first | exact trivial | refine ⟨rfl, ?_⟩)) ?_
  intro i hi ih2
  by_cases hlt : i < l.length
  case neg =>
    clear ih2
    have : i = l.length := by omega
    subst this
    rw [List.take_length]
    refine c_seq ?_
    refine c_region ?_
    refine o_y (y_lss_f rfl rfl (by omega)) rfl ?_
    refine o_nil ?_
    refine f_seq ?_
    refine c_seq ?_
    refine c_false rfl ?_
    refine c_exit ?_
    refine f_seq_exit ?_
    refine f_seq_exit ?_
    refine f_block_here ?_
    refine f_seq ?_
    refine c_region ?_
    refine o_y (y_move rfl) rfl ?_
    refine o_y (y_nilCheck rfl) rfl ?_
    refine o_y (y_fieldAddr0 rfl) rfl ?_
    refine o_y (y_move rfl) rfl ?_
    refine o_y (y_len_slice rfl) rfl ?_
    refine o_call rfl (i64_add_f s (.int .u32 1) (.int .i32 0) (.int .u32 0) crcTab hcl n l.length) (by repeat (first | with_reducible exact Takes.nil | (apply Takes.cons; focus (repeat (first | with_reducible exact Rem.here | apply Rem.there))))) rfl ?_
    rintro _ _ ⟨n', rfl, rfl⟩
    simp only [List.append_eq, List.cons_append, List.nil_append, List.append_nil, tup]
    refine o_nil ?_
    refine f_block ?_
    refine f_seq ?_
    refine c_region ?_
    refine o_y (y_arith64 rfl rfl rfl (by omega)) rfl ?_
    refine o_y (y_move rfl) rfl ?_
    refine o_nil ?_
    exact f_next (by repeat (first | with_reducible exact Ent.nil | (apply Ent.one; focus (repeat (first | with_reducible exact Rem.here | apply Rem.there))))) (by repeat (first | exact trivial | refine ⟨rfl, ?_⟩)) (ih (1, n') (Nat.le_refl _) (by dsimp only; omega))
  case pos =>
  clear ih
  have hc : l[i]? = some l[i] := List.getElem?_eq_getElem hlt
  generalize l[i] = c at hc
  have hgc := hg i c hc
  have htk : (l.take (i + 1)).foldl crcByte 4294967295 = crcByte ((l.take i).foldl crcByte 4294967295) c := by rw [take_snoc' hc, List.foldl_append]; rfl
  have hv := crcRun_lt (l.take i) (v := 4294967295) (by decide)
  generalize (l.take i).foldl crcByte 4294967295 = v at htk hv
  have hxl : (v % 256) ^^^ c.toNat < 256 := Nat.xor_lt_two_pow (n := 8) (by omega) (UInt8.toNat_lt c)
  have hgt : (.int .u32 1 :: .int .i32 0 :: .int .u32 0 :: (crcTab.map u32V ++ [.int .i64 n]) : List Value)[3 + ((v % 256) ^^^ c.toNat) * 1]? = some (u32V (crcTab.getD ((v % 256) ^^^ c.toNat) 0)) := by
    rw [show 3 + ((v % 256) ^^^ c.toNat) * 1 = ((v % 256) ^^^ c.toNat) + 1 + 1 + 1 by omega]
    simp only [List.getElem?_cons_succ]
    rw [List.getElem?_append_left (by rw [List.length_map]; omega), List.getElem?_map, List.getD_eq_getElem?_getD, crcTab_get hxl]; rfl
  refine c_seq ?_
  refine c_region ?_
  refine o_y (y_lss_t rfl rfl (by omega)) rfl ?_
  refine o_nil ?_
  refine f_seq ?_
  refine c_seq ?_
  refine c_true rfl ?_
  refine c_skip ?_
  refine f_seq ?_
  refine c_seq ?_
  refine c_block ?_
  refine c_seq ?_
  refine c_region ?_
  refine o_y (y_indexAddr i rfl rfl rfl hlt) rfl ?_
  refine o_y (y_load rfl rfl hgc) rfl ?_
  refine o_y (y_assign rfl) rfl ?_
  refine o_nil ?_
  refine f_seq ?_
  refine c_region ?_
  refine o_y (y_move rfl) rfl ?_
  refine o_y (y_shr v 8 rfl rfl rfl rfl (by decide)) rfl ?_
  refine o_y (y_move rfl) rfl ?_
  refine o_y (y_move rfl) rfl ?_
  refine o_y (y_conv_int rfl) rfl ?_
  refine o_y (y_move rfl) rfl ?_
  rw [wrap_u8n v]
  refine o_y (y_xor (v % 256) c.toNat rfl rfl rfl rfl (by rw [hib8]; omega) (by rw [hib8]; exact UInt8.toNat_lt c)) rfl ?_
  refine o_y (y_nilCheck rfl) rfl ?_
  refine o_y (y_fieldAddr0 rfl) rfl ?_
  refine o_y (y_indexAddrA ((v % 256) ^^^ c.toNat) rfl rfl rfl hxl) rfl ?_
  refine o_y (y_load rfl rfl hgt) rfl ?_
  refine o_y (y_xor (v / 2 ^ 8) (crcTab.getD ((v % 256) ^^^ c.toNat) 0) rfl rfl rfl rfl (by rw [hib32]; omega) (by rw [hib32]; exact crcTab_lt _)) rfl ?_
  rw [show (v / 2 ^ 8) ^^^ crcTab.getD ((v % 256) ^^^ c.toNat) 0 = crcByte v c from rfl, ← htk]
  refine o_y (y_assign rfl) rfl ?_
  refine o_nil ?_
  refine f_block ?_
  refine f_seq ?_
  refine c_region ?_
  refine o_y (y_arith64 rfl rfl rfl (by omega)) rfl ?_
  refine o_y (y_move rfl) rfl ?_
  refine o_nil ?_
  exact f_next (by repeat (first | with_reducible exact Ent.nil | (apply Ent.one; focus (repeat (first | with_reducible exact Rem.here | apply Rem.there))))) (by repeat (first | exact trivial | refine ⟨rfl, ?_⟩)) (ih2 (i + 1) hlt (by omega))

theorem of_f (s b off cap : Nat) (cs : List Value) (T : TypeId) (fz : Nat × Nat) (p : Bool) (l : Bytes) (hl : getN cs off l.length = some (l.map byteV)) (hn : l.length ≤ 1000000) :
    Fn Tryz.prog 124 [.pointer (some ⟨s, 0, none⟩), .slice (some ⟨b, off, none⟩) l.length cap] [SumR s, Bkp p b (.cells ⟨cs⟩ T fz)] (fun v L => v = u32V (crcOf l) ∧ L = [SumR s, Bkp p b (.cells ⟨cs⟩ T fz)]) := by
  refine fn_open (A := SumR s) Rem.here (fun x _ => ?_)
  simp only [List.append_eq, List.cons_append, List.nil_append, List.append_nil, tup]
  refine fn_start Tryz.func124 rfl rfl rfl fun F => ?_
  refine c_seq ?_
  refine c_region ?_
  refine o_y (y_assign rfl) rfl ?_
  refine o_nil ?_
  refine f_seq ?_
  refine c_seq ?_
  refine c_region ?_
  refine o_y (y_move rfl) rfl ?_
  refine o_y (y_move rfl) rfl ?_
  refine o_buildSlice rfl rfl rfl rfl rfl (fun nb => ?_)
  rename Nat => nb
  refine o_call rfl (parts_f s b off cap nb cs T fz p l hl hn x) (by repeat (first | with_reducible exact Takes.nil | (apply Takes.cons; focus (repeat (first | with_reducible exact Rem.here | apply Rem.there))))) rfl ?_
  rintro _ _ ⟨n, rfl, rfl⟩
  simp only [List.append_eq, List.cons_append, List.nil_append, List.append_nil, tup]
  refine o_y (y_assign rfl) rfl ?_
  refine o_nil ?_
  refine f_seq ?_
  refine c_ret ?_
  exact f_ent (Ent.put (P := [Blk s (sobj (.int .u32 1) (.int .i32 0) (.int .u32 0) crcTab (.int .i64 n))]) (by repeat (first | with_reducible exact Takes.nil | (apply Takes.cons; focus (repeat (first | with_reducible exact Rem.here | apply Rem.there))))) SumR.lit (by repeat (first | with_reducible exact Ent.nil | (apply Ent.one; focus (repeat (first | with_reducible exact Rem.here | apply Rem.there)))))) (f_ret rfl ⟨rfl, rfl⟩)

theorem right_f (s b off cap : Nat) (cs : List Value) (T : TypeId) (fz : Nat × Nat) (p : Bool) (l : Bytes) (hl : getN cs off l.length = some (l.map byteV)) (hn : l.length ≤ 1000000) (c : Nat) :
    Fn Tryz.prog 117 [.pointer (some ⟨s, 0, none⟩), .slice (some ⟨b, off, none⟩) l.length cap, u32V c] [SumR s, Bkp p b (.cells ⟨cs⟩ T fz)] (fun v L => v = .bool (decide (crcOf l = c)) ∧ L = [SumR s, Bkp p b (.cells ⟨cs⟩ T fz)]) := by
  refine fn_start Tryz.func117 rfl rfl rfl fun F => ?_
  refine c_seq ?_
  refine c_region ?_
  refine o_y (y_assign rfl) rfl ?_
  refine o_nil ?_
  refine f_seq ?_
  refine c_seq ?_
  refine c_region ?_
  refine o_y (y_move rfl) rfl ?_
  refine o_y (y_move rfl) rfl ?_
  refine o_call rfl (of_f s b off cap cs T fz p l hl hn) (by repeat (first | with_reducible exact Takes.nil | (apply Takes.cons; focus (repeat (first | with_reducible exact Rem.here | apply Rem.there))))) rfl ?_
  rintro _ _ ⟨rfl, rfl⟩
  simp only [List.append_eq, List.cons_append, List.nil_append, List.append_nil, tup]
  by_cases h : crcOf l = c
  · rw [decide_eq_true h]
    refine o_y (y_move rfl) rfl ?_
    refine o_y (y_eql_t rfl rfl (by omega)) rfl ?_
    refine o_y (y_assign rfl) rfl ?_
    refine o_nil ?_
    refine f_seq ?_
    refine c_ret ?_
    exact f_ret rfl ⟨rfl, rfl⟩
  · rw [decide_eq_false h]
    refine o_y (y_move rfl) rfl ?_
    refine o_y (y_eql_f rfl rfl (by omega)) rfl ?_
    refine o_y (y_assign rfl) rfl ?_
    refine o_nil ?_
    refine f_seq ?_
    refine c_ret ?_
    exact f_ret rfl ⟨rfl, rfl⟩
end Go.Lun

/- A page's parts: room, whether cells fit, numbers of four bytes; library functions over strings and numbers. -/
namespace Go.Lun
open Go.Proofs

def strC (s : Bytes) : List Value := [str s]
instance {l : List UInt8} : CellsV (str l) [str l] := ⟨rfl, by simp [str, Value.oneCell']⟩

theorem flat_get {α : Type} (f : α → List Value) (k : Nat) (hf : ∀ x, (f x).length = k) : ∀ {xs : List α} {i : Nat} {x : α}, xs[i]? = some x → getN (xs.flatMap f) (i * k) k = some (f x)
  | [], i, x, h => by simp at h
  | y :: xs, 0, x, h => by
    simp only [List.getElem?_cons_zero, Option.some.injEq] at h
    subst h
    have := getN_front (f y) (xs.flatMap f)
    rw [hf] at this
    rw [Nat.zero_mul, List.flatMap_cons]; exact this
  | y :: xs, i + 1, x, h => by
    have ih := flat_get f k hf (xs := xs) (i := i) (by simpa using h)
    unfold getN at ih ⊢
    rw [List.flatMap_cons]
    have e : (i + 1) * k = (f y).length + i * k := by rw [hf, Nat.add_mul, Nat.one_mul, Nat.add_comm]
    rw [e, ← List.drop_drop, List.drop_left]; exact ih
theorem str_get {l : List Bytes} {cs : List Value} {off i : Nat} {s : Bytes} (h : getN cs off (l.length * 1) = some (l.flatMap strC)) (hs : l[i]? = some s) : cs[off + i * 1]? = some (str s) := by
  have g1 := getN_sub h (flat_get strC 1 (fun _ => rfl) hs)
  have g2 := (takeN_get g1).2 0 (by decide)
  rw [List.getElem?_drop, Nat.add_zero] at g2
  exact g2

def room (l : List Bytes) : Nat := (l.map fun c => 2 + c.length).sum
theorem room_snoc {l : List Bytes} {i : Nat} {c : Bytes} (h : l[i]? = some c) : room (l.take (i + 1)) = room (l.take i) + (2 + c.length) := by
  unfold room
  rw [take_snoc' h]; simp
def fitsP (l : List Bytes) : Bool := decide (room l ≤ 236) && l.all fun c => decide (c.length ≤ 235)
/-- Cells of which nobody fears that they don't end. -/
structure Small (l : List Bytes) : Prop where
  many : l.length ≤ 100000
  long : ∀ c ∈ l, c.length ≤ 100000
theorem Small.room {l : List Bytes} (h : Small l) (i : Nat) : room (l.take i) ≤ 10000200000 + 0 := by
  have : ∀ m : List Bytes, (∀ c ∈ m, c.length ≤ 100000) → Lun.room m ≤ m.length * 100002 := by
    intro m
    induction m with
    | nil => intro _; exact Nat.le_refl _
    | cons c m ih =>
      intro hm
      have h1 := ih (fun c hc => hm c (by simp [hc]))
      have h2 := hm c (by simp)
      simp only [Lun.room, List.map_cons, List.sum_cons, List.length_cons] at h1 ⊢
      omega
  have h1 := this (l.take i) (fun c hc => h.long c (List.mem_of_mem_take hc))
  have h2 : (l.take i).length ≤ 100000 := by rw [List.length_take]; have := h.many; omega
  have : (l.take i).length * 100002 ≤ 100000 * 100002 := Nat.mul_le_mul_right _ h2
  omega

section
variable {a : Option Addr} {cap : Nat} {q : Bool} {l : List Bytes}

theorem room_f (hs : Small l) : Fn Tryz.prog 158 [.slice a l.length cap] [RowA q strC 1 a l] (fun v L => v = .int .i64 (room l : Int) ∧ L = [RowA q strC 1 a l]) := by
  refine fn_start Tryz.func158 rfl rfl rfl fun F => ?_
  have hm := hs.many
  refine c_seq ?_
  refine c_region ?_
  refine o_y (y_assign rfl) rfl ?_
  refine o_nil ?_
  refine f_seq ?_
  refine c_seq ?_
  refine c_region ?_
  refine o_y (y_assign rfl) rfl ?_
  refine o_nil ?_
  refine f_seq ?_
  refine c_seq ?_
  refine c_seq ?_
  refine c_region ?_
  refine o_y (y_move rfl) rfl ?_
  refine o_y (y_len_slice rfl) rfl ?_
  refine o_y (y_move rfl) rfl ?_
  refine o_nil ?_
  refine f_seq ?_
  refine c_block ?_
  refine c_loop_inv (X := Nat) (fun i => i ≤ l.length) (fun i => l.length - i) (fun _ => [RowA q strC 1 a l])
    (fun i => [(3, .int .i64 (room (l.take i) : Int)), (6, .slice a l.length cap), (7, .int .i64 (l.length : Int)), (8, .int .i64 (i : Int))]) 0 (Nat.zero_le _) (by repeat (first | with_reducible exact Ent.nil | (apply Ent.one; focus (repeat (first | with_reducible exact Rem.here | apply Rem.there))))) (by repeat (first | exact trivial | refine ⟨rfl, ?_⟩)) ?_
  intro i hi ih
  by_cases hlt : i < l.length
  case neg =>
    have : i = l.length := by omega
    subst this
    rw [List.take_length]
    refine c_seq ?_
    refine c_region ?_
    refine o_y (y_lss_f rfl rfl (by omega)) rfl ?_
    refine o_nil ?_
    refine f_seq ?_
    refine c_seq ?_
    refine c_false rfl ?_
    refine c_exit ?_
    refine f_seq_exit ?_
    refine f_seq_exit ?_
    refine f_block_here ?_
    refine f_seq ?_
    refine c_seq ?_
    refine c_region ?_
    refine o_y (y_move rfl) rfl ?_
    refine o_y (y_assign rfl) rfl ?_
    refine o_nil ?_
    refine f_seq ?_
    refine c_ret ?_
    exact f_ent (by repeat (first | with_reducible exact Ent.nil | (apply Ent.one; focus (repeat (first | with_reducible exact Rem.here | apply Rem.there))))) (f_ret rfl ⟨rfl, rfl⟩)
  case pos =>
  have hc : l[i]? = some l[i] := List.getElem?_eq_getElem hlt
  have hcl := hs.long _ (List.getElem_mem hlt)
  generalize l[i] = c at hc hcl
  have hne : l ≠ [] := by intro h; rw [h] at hlt; exact absurd hlt (by simp)
  have hr := hs.room i
  have hsn := room_snoc hc
  refine c_open (h := RowA.opens (f := strC) hne) (by repeat (first | with_reducible exact Rem.here | apply Rem.there)) (fun y hy2 => ?_)
  obtain ⟨kb, ko, cs, T, fz⟩ := y
  obtain ⟨e1, e2⟩ := hy2
  dsimp only at e1 e2
  subst e1
  have hg := str_get e2 hc
  simp only [List.append_eq, List.cons_append, List.nil_append, List.append_nil, tup]
  refine c_seq ?_
  refine c_region ?_
  refine o_y (y_lss_t rfl rfl (by omega)) rfl ?_
  refine o_nil ?_
  refine f_seq ?_
  refine c_seq ?_
  refine c_true rfl ?_
  refine c_skip ?_
  refine f_seq ?_
  refine c_seq ?_
  refine c_block ?_
  refine c_seq ?_
  refine c_region ?_
  refine o_y (y_indexAddr i rfl rfl rfl hlt) rfl ?_
  refine o_y (y_load rfl rfl hg) rfl ?_
  refine o_y (y_assign rfl) rfl ?_
  refine o_nil ?_
  refine f_seq ?_
  refine c_region ?_
  refine o_y (y_move rfl) rfl ?_
  refine o_y (y_move rfl) rfl ?_
  refine o_y (y_len_str rfl) rfl ?_
  refine o_y (y_arith64 rfl rfl rfl (by omega)) rfl ?_
  refine o_y (y_arith64 rfl rfl rfl (by omega)) rfl ?_
  refine o_y (y_assign rfl) rfl ?_
  refine o_nil ?_
  refine f_block ?_
  refine f_seq ?_
  refine c_region ?_
  refine o_y (y_arith64 rfl rfl rfl (by omega)) rfl ?_
  refine o_y (y_move rfl) rfl ?_
  refine o_nil ?_
  rw [show (room (l.take i) : Int) + (2 + (c.length : Int)) = (room (l.take (i + 1)) : Int) by rw [hsn]; omega]
  exact f_next (Ent.put (P := [Bkp q kb (.cells ⟨cs⟩ T fz)]) (by repeat (first | with_reducible exact Takes.nil | (apply Takes.cons; focus (repeat (first | with_reducible exact Rem.here | apply Rem.there))))) (RowA.shut rfl e2) (by repeat (first | with_reducible exact Ent.nil | (apply Ent.one; focus (repeat (first | with_reducible exact Rem.here | apply Rem.there)))))) (by repeat (first | exact trivial | refine ⟨rfl, ?_⟩)) (ih (i + 1) hlt (by omega))

/-- Where a text is first that a function takes. -/
def idxI {α : Type} (pr : α → Bool) (l : List α) : Int := match l.findIdx? pr with
  | some i => (i : Int)
  | none => -1

theorem idxs_f (g : FuncId) [Callee Tryz.prog g] (fs us : List Value) (A : Asrt) (pr : Bytes → Bool) (hg : ∀ c ∈ l, Fn Tryz.prog g (fs ++ [str c] ++ us) [A] (fun v L => v = .bool (pr c) ∧ L = [A])) (hn : l.length ≤ 1000000) :
    Fn Tryz.prog 174 [.slice a l.length cap, .func (.func g) ⟨fs⟩ ⟨us⟩] [A, RowA q strC 1 a l] (fun v L => v = .int .i64 (idxI pr l) ∧ L = [A, RowA q strC 1 a l]) := by
  refine fn_start Tryz.func174 rfl rfl rfl fun F => ?_
  refine c_seq ?_
  refine c_region ?_
  refine o_y (y_assign rfl) rfl ?_
  refine o_nil ?_
  refine f_seq ?_
  refine c_seq ?_
  refine c_seq ?_
  refine c_region ?_
  refine o_y (y_move rfl) rfl ?_
  refine o_y (y_len_slice rfl) rfl ?_
  refine o_y (y_move rfl) rfl ?_
  refine o_nil ?_
  refine f_seq ?_
  refine c_block ?_
  refine c_loop_inv (X := Nat) (fun i => i ≤ l.length ∧ ∀ j (h : j < l.length), j < i → pr l[j] = false) (fun i => l.length - i) (fun _ => [A, RowA q strC 1 a l])
    (fun i => [(0, .slice a l.length cap), (1, .func (.func g) ⟨fs⟩ ⟨us⟩), (7, .int .i64 (l.length : Int)), (8, .int .i64 (i : Int))]) 0 ⟨Nat.zero_le _, fun j _ h => absurd h (by omega)⟩ (by repeat (first | with_reducible exact Ent.nil | (apply Ent.one; focus (repeat (first | with_reducible exact Rem.here | apply Rem.there))))) (by repeat (first | exact trivial | refine ⟨rfl, ?_⟩)) ?_
  rintro i ⟨hi, hno⟩ ih
  by_cases hlt : i < l.length
  case neg =>
    have hx : idxI pr l = -1 := by
      unfold idxI
      rw [List.findIdx?_eq_none_iff.2 (fun x hx => by
        obtain ⟨j, hj, rfl⟩ := List.mem_iff_getElem.1 hx
        exact hno j hj (by omega))]
    rw [hx]
    refine c_seq ?_
    refine c_region ?_
    refine o_y (y_lss_f rfl rfl (by omega)) rfl ?_
    refine o_nil ?_
    refine f_seq ?_
    refine c_seq ?_
    refine c_false rfl ?_
    refine c_exit ?_
    refine f_seq_exit ?_
    refine f_seq_exit ?_
    refine f_block_here ?_
    refine f_seq ?_
    refine c_seq ?_
    refine c_region ?_
    refine o_y (y_assign rfl) rfl ?_
    refine o_nil ?_
    refine f_seq ?_
    refine c_ret ?_
    exact f_ent (by repeat (first | with_reducible exact Ent.nil | (apply Ent.one; focus (repeat (first | with_reducible exact Rem.here | apply Rem.there))))) (f_ret rfl ⟨rfl, rfl⟩)
  case pos =>
  have hc : l[i]? = some l[i] := List.getElem?_eq_getElem hlt
  have hgi := hg _ (List.getElem_mem hlt)
  have hfi : pr l[i] = true → idxI pr l = (i : Int) := fun h => by
    unfold idxI
    rw [List.findIdx?_eq_some_iff_getElem.2 ⟨hlt, h, fun j hj => by rw [hno j (by omega) hj]; decide⟩]
  have hno' : pr l[i] = false → ∀ j (h : j < l.length), j < i + 1 → pr l[j] = false := fun h j hj hlt2 => by
    by_cases e : j = i
    · subst e; exact h
    · exact hno j hj (by omega)
  generalize l[i] = c at hc hgi hfi hno'
  have hne : l ≠ [] := by intro h; rw [h] at hlt; exact absurd hlt (by simp)
  refine c_open (h := RowA.opens (f := strC) hne) (by repeat (first | with_reducible exact Rem.here | apply Rem.there)) (fun y hy2 => ?_)
  obtain ⟨kb, ko, cs, T, fz⟩ := y
  obtain ⟨e1, e2⟩ := hy2
  dsimp only at e1 e2
  subst e1
  have hgt := str_get e2 hc
  simp only [List.append_eq, List.cons_append, List.nil_append, List.append_nil, tup]
  refine c_seq ?_
  refine c_region ?_
  refine o_y (y_lss_t rfl rfl (by omega)) rfl ?_
  refine o_nil ?_
  refine f_seq ?_
  refine c_seq ?_
  refine c_true rfl ?_
  refine c_skip ?_
  refine f_seq ?_
  refine c_seq ?_
  refine c_block ?_
  refine c_seq ?_
  refine c_region ?_
  refine o_y (y_move rfl) rfl ?_
  refine o_y (y_assign rfl) rfl ?_
  refine o_nil ?_
  refine f_seq ?_
  refine c_seq ?_
  refine c_region ?_
  refine o_y (y_move rfl) rfl ?_
  refine o_y (y_move rfl) rfl ?_
  refine o_y (y_move rfl) rfl ?_
  refine o_y (y_indexAddr i rfl rfl rfl hlt) rfl ?_
  refine o_y (y_load rfl rfl hgt) rfl ?_
  refine o_call_val rfl rfl hgi (by repeat (first | with_reducible exact Takes.nil | (apply Takes.cons; focus (repeat (first | with_reducible exact Rem.here | apply Rem.there))))) rfl ?_
  rintro _ _ ⟨rfl, rfl⟩
  simp only [List.append_eq, List.cons_append, List.nil_append, List.append_nil, tup]
  cases hp : pr c with
  | true =>
    rw [hfi hp]
    refine o_nil ?_
    refine f_seq ?_
    refine c_true rfl ?_
    refine c_seq ?_
    refine c_region ?_
    refine o_y (y_move rfl) rfl ?_
    refine o_y (y_assign rfl) rfl ?_
    refine o_nil ?_
    refine f_seq ?_
    refine c_ret ?_
    refine f_block_ret ?_
    refine f_seq_ret ?_
    refine f_seq_ret ?_
    refine f_block_ret ?_
    refine f_seq_ret ?_
    exact f_ent (Ent.one (by repeat (first | with_reducible exact Rem.here | apply Rem.there)) (Ent.put (P := [Bkp q kb (.cells ⟨cs⟩ T fz)]) (by repeat (first | with_reducible exact Takes.nil | (apply Takes.cons; focus (repeat (first | with_reducible exact Rem.here | apply Rem.there))))) (RowA.shut rfl e2) (by repeat (first | with_reducible exact Ent.nil | (apply Ent.one; focus (repeat (first | with_reducible exact Rem.here | apply Rem.there))))))) (f_ret rfl ⟨rfl, rfl⟩)
  | false =>
    refine o_nil ?_
    refine f_seq ?_
    refine c_false rfl ?_
    refine c_skip ?_
    refine f_block ?_
    refine f_seq ?_
    refine c_region ?_
    refine o_y (y_arith64 rfl rfl rfl (by omega)) rfl ?_
    refine o_y (y_move rfl) rfl ?_
    refine o_nil ?_
    exact f_next (Ent.one (by repeat (first | with_reducible exact Rem.here | apply Rem.there)) (Ent.put (P := [Bkp q kb (.cells ⟨cs⟩ T fz)]) (by repeat (first | with_reducible exact Takes.nil | (apply Takes.cons; focus (repeat (first | with_reducible exact Rem.here | apply Rem.there))))) (RowA.shut rfl e2) (by repeat (first | with_reducible exact Ent.nil | (apply Ent.one; focus (repeat (first | with_reducible exact Rem.here | apply Rem.there))))))) (by repeat (first | exact trivial | refine ⟨rfl, ?_⟩)) (ih (i + 1) ⟨hlt, hno' hp⟩ (by omega))

theorem idxI_nonneg {α : Type} (pr : α → Bool) (l : List α) : (0 ≤ idxI pr l) ↔ l.any pr = true := by
  unfold idxI
  cases h : l.findIdx? pr with
  | none =>
    have := List.findIdx?_eq_none_iff.1 h
    constructor
    · intro h; dsimp only at h; omega
    · intro h2
      obtain ⟨x, hx, hp⟩ := List.any_eq_true.1 h2
      rw [this x hx] at hp; cases hp
  | some i =>
    obtain ⟨hi, hp, _⟩ := List.findIdx?_eq_some_iff_getElem.1 h
    constructor
    · intro _; exact List.any_eq_true.2 ⟨_, List.getElem_mem hi, hp⟩
    · intro _; dsimp only; omega

theorem has_f (g : FuncId) [Callee Tryz.prog g] (fs us : List Value) (A : Asrt) (pr : Bytes → Bool) (hg : ∀ c ∈ l, Fn Tryz.prog g (fs ++ [str c] ++ us) [A] (fun v L => v = .bool (pr c) ∧ L = [A])) (hn : l.length ≤ 1000000) :
    Fn Tryz.prog 159 [.slice a l.length cap, .func (.func g) ⟨fs⟩ ⟨us⟩] [A, RowA q strC 1 a l] (fun v L => v = .bool (l.any pr) ∧ L = [A, RowA q strC 1 a l]) := by
  refine fn_start Tryz.func159 rfl rfl rfl fun F => ?_
  refine c_seq ?_
  refine c_region ?_
  refine o_y (y_assign rfl) rfl ?_
  refine o_nil ?_
  refine f_seq ?_
  refine c_seq ?_
  refine c_region ?_
  refine o_y (y_move rfl) rfl ?_
  refine o_y (y_move rfl) rfl ?_
  refine o_call rfl (idxs_f (a := a) (cap := cap) (q := q) (l := l) g fs us A pr hg hn) (by repeat (first | with_reducible exact Takes.nil | (apply Takes.cons; focus (repeat (first | with_reducible exact Rem.here | apply Rem.there))))) rfl ?_
  rintro _ _ ⟨rfl, rfl⟩
  simp only [List.append_eq, List.cons_append, List.nil_append, List.append_nil, tup]
  have hx := idxI_nonneg pr l
  cases h : l.any pr with
  | true =>
    have := hx.2 h
    refine o_y (y_geq_t rfl rfl (by omega)) rfl ?_
    refine o_y (y_assign rfl) rfl ?_
    refine o_nil ?_
    refine f_seq ?_
    refine c_ret ?_
    exact f_ret rfl ⟨rfl, rfl⟩
  | false =>
    have : ¬ 0 ≤ idxI pr l := fun h2 => by rw [hx.1 h2] at h; cases h
    refine o_y (y_geq_f rfl rfl (by omega)) rfl ?_
    refine o_y (y_assign rfl) rfl ?_
    refine o_nil ?_
    refine f_seq ?_
    refine c_ret ?_
    exact f_ret rfl ⟨rfl, rfl⟩

/-- Nothing at all. -/
def Emp : Asrt := fun _ => True

theorem long_f (c : Bytes) (hc : c.length ≤ 1000000) : Fn Tryz.prog 157 [str c] [Emp] (fun v L => v = .bool (!decide (c.length ≤ 235)) ∧ L = [Emp]) := by
  refine fn_start Tryz.func157 rfl rfl rfl fun F => ?_
  by_cases h : c.length ≤ 235
  · rw [decide_eq_true h]
    refine c_seq ?_
    refine c_region ?_
    refine o_y (y_assign rfl) rfl ?_
    refine o_nil ?_
    refine f_seq ?_
    refine c_seq ?_
    refine c_region ?_
    refine o_y (y_move rfl) rfl ?_
    refine o_y (y_len_str rfl) rfl ?_
    refine o_y (y_gtr_f rfl rfl (by omega)) rfl ?_
    refine o_y (y_assign rfl) rfl ?_
    refine o_nil ?_
    refine f_seq ?_
    refine c_ret ?_
    exact f_ret rfl ⟨rfl, rfl⟩
  · rw [decide_eq_false h]
    refine c_seq ?_
    refine c_region ?_
    refine o_y (y_assign rfl) rfl ?_
    refine o_nil ?_
    refine f_seq ?_
    refine c_seq ?_
    refine c_region ?_
    refine o_y (y_move rfl) rfl ?_
    refine o_y (y_len_str rfl) rfl ?_
    refine o_y (y_gtr_t rfl rfl (by omega)) rfl ?_
    refine o_y (y_assign rfl) rfl ?_
    refine o_nil ?_
    refine f_seq ?_
    refine c_ret ?_
    exact f_ret rfl ⟨rfl, rfl⟩

theorem fits_f (hs : Small l) : Fn Tryz.prog 120 [.slice a l.length cap] [RowA q strC 1 a l] (fun v L => v = .bool (fitsP l) ∧ L = [RowA q strC 1 a l]) := by
  refine fn_start Tryz.func120 rfl rfl rfl fun F => ?_
  have hm := hs.many
  refine c_seq ?_
  refine c_region ?_
  refine o_y (y_assign rfl) rfl ?_
  refine o_nil ?_
  refine f_seq ?_
  refine c_seq ?_
  refine c_region ?_
  refine o_y (y_assign rfl) rfl ?_
  refine o_nil ?_
  refine f_seq ?_
  refine c_seq ?_
  refine c_region ?_
  refine o_y (y_move rfl) rfl ?_
  refine o_call rfl (room_f hs) (by repeat (first | with_reducible exact Takes.nil | (apply Takes.cons; focus (repeat (first | with_reducible exact Rem.here | apply Rem.there))))) rfl ?_
  rintro _ _ ⟨rfl, rfl⟩
  simp only [List.append_eq, List.cons_append, List.nil_append, List.append_nil, tup]
  by_cases h : room l ≤ 236
  case neg =>
    rw [show fitsP l = false by simp [fitsP, h]]
    refine o_y (y_leq_f rfl rfl (by omega)) rfl ?_
    refine o_y (y_move rfl) rfl ?_
    refine o_skip rfl rfl ?_
    refine o_skip rfl rfl ?_
    refine o_skip rfl rfl ?_
    refine o_skip rfl rfl ?_
    refine o_y (y_pick_f rfl rfl) rfl ?_
    refine o_y (y_assign rfl) rfl ?_
    refine o_nil ?_
    refine f_seq ?_
    refine c_ret ?_
    exact f_ret rfl ⟨rfl, rfl⟩
  case pos =>
  refine o_y (y_leq_t rfl rfl (by omega)) rfl ?_
  refine o_y (y_move rfl) rfl ?_
  refine o_want rfl ?_
  refine o_y (y_move rfl) rfl ?_
  refine o_want rfl ?_
  refine o_y (y_move rfl) rfl ?_
  refine o_want rfl ?_
  refine o_ent (Ent.put (A := Emp) (P := []) (by repeat (first | with_reducible exact Takes.nil | (apply Takes.cons; focus (repeat (first | with_reducible exact Rem.here | apply Rem.there))))) (fun _ _ => trivial) (Ent.refl _)) ?_
  refine o_call rfl (has_f 157 [] [] Emp (fun c => !decide (c.length ≤ 235)) (fun c hc => long_f c (by have := hs.long c hc; omega)) (by omega)) (by repeat (first | with_reducible exact Takes.nil | (apply Takes.cons; focus (repeat (first | with_reducible exact Rem.here | apply Rem.there))))) rfl ?_
  rintro _ _ ⟨rfl, rfl⟩
  simp only [List.append_eq, List.cons_append, List.nil_append, List.append_nil, tup]
  have he : fitsP l = !(l.any fun c => !decide (c.length ≤ 235)) := by
    unfold fitsP
    rw [decide_eq_true h, Bool.true_and, List.any_eq_not_all_not]; simp
  rw [he]
  refine o_want rfl ?_
  refine o_y (y_not rfl) rfl ?_
  refine o_y (y_pick_t rfl rfl) rfl ?_
  refine o_y (y_assign rfl) rfl ?_
  refine o_nil ?_
  refine f_seq ?_
  refine c_ret ?_
  exact f_ent (by repeat (first | with_reducible exact Ent.nil | (apply Ent.one; focus (repeat (first | with_reducible exact Rem.here | apply Rem.there))))) (f_ret rfl ⟨rfl, rfl⟩)
end
end Go.Lun

/- Numbers of four bytes, laid and read; the greatest and the least of numbers; bytes compared. -/
namespace Go.Lun
open Go.Proofs

def byteN (n : Nat) : UInt8 := UInt8.ofNat (n % 256)
theorem byteN_val (n : Nat) : (byteN n).toNat = n % 256 := by
  unfold byteN
  rw [UInt8.toNat_ofNat']
  omega
theorem byteN_V (n : Nat) : byteV (byteN n) = .int .u8 ((n % 256 : Nat) : Int) := by unfold byteV; rw [byteN_val]
def four (u : Nat) : Bytes := [byteN (u / 2 ^ 24), byteN (u / 2 ^ 16), byteN (u / 2 ^ 8), byteN (u / 2 ^ 0)]
theorem four_get (u i : Nat) (h : i < 4) : (four u)[i]? = some (byteN (u / 2 ^ (24 - 8 * i))) := by
  have : i = 0 ∨ i = 1 ∨ i = 2 ∨ i = 3 := by omega
  rcases this with rfl | rfl | rfl | rfl <;> rfl
def num4 (l : Bytes) : Nat := (l.take 4).foldl (fun n c => (n * 2 ^ 8) ||| c.toNat) 0

theorem splb_snoc : ∀ (vs l : Bytes) (k : Nat) (v : UInt8), splb l k (vs ++ [v]) = (splb l k vs).set (k + vs.length) v
  | [], l, k, v => rfl
  | u :: vs, l, k, v => by
    simp only [List.cons_append, splb, List.length_cons]
    rw [splb_snoc vs, show k + (vs.length + 1) = k + 1 + vs.length by omega]

theorem put_f (b off k cap u : Nat) (n : Int) (hn : n = (u : Int)) (hu : u < 9223372036854775808) (l : Bytes) (hk : 4 ≤ k) (hl : off + 4 ≤ l.length) :
    Fn Tryz.prog 123 [.slice (some ⟨b, off, none⟩) k cap, .int .i64 n] [Blk b (bobj l)] (fun v L => v = .tuple ⟨[]⟩ ∧ L = [Blk b (bobj (splb l off (four u)))]) := by
  subst hn
  refine fn_start Tryz.func123 rfl rfl rfl fun F => ?_
  refine c_seq ?_
  refine c_region ?_
  refine o_y (y_move rfl) rfl ?_
  refine o_nil ?_
  refine f_seq ?_
  refine c_block ?_
  refine c_ent (M := [Blk b (bobj (splb l off ((four u).take 0)))]) (Ent.refl _) ?_
  refine c_loop_inv (X := Nat) (fun i => i ≤ 4) (fun i => 4 - i) (fun i => [Blk b (bobj (splb l off ((four u).take i)))]) (fun i => [(0, .slice (some ⟨b, off, none⟩) k cap), (1, .int .i64 (u : Int)), (5, .int .i64 (i : Int))]) 0 (by decide) (by repeat (first | with_reducible exact Ent.nil | (apply Ent.one; focus (repeat (first | with_reducible exact Rem.here | apply Rem.there))))) (by repeat (first | exact trivial | refine ⟨rfl, ?_⟩)) ?_
  intro i hi ih
  by_cases hlt : i < 4
  case neg =>
    have : i = 4 := by omega
    subst this
    rw [show (four u).take 4 = four u from rfl]
    refine c_seq ?_
    refine c_region ?_
    refine o_y (y_lss_f rfl rfl (by omega)) rfl ?_
    refine o_nil ?_
    refine f_seq ?_
    refine c_seq ?_
    refine c_false rfl ?_
    refine c_exit ?_
    refine f_seq_exit ?_
    refine f_seq_exit ?_
    refine f_block_here ?_
    exact f_ent (by repeat (first | with_reducible exact Ent.nil | (apply Ent.one; focus (repeat (first | with_reducible exact Rem.here | apply Rem.there))))) (f_end rfl ⟨rfl, rfl⟩)
  case pos =>
  have hg := four_get u i hlt
  have hs : splb l off ((four u).take (i + 1)) = (splb l off ((four u).take i)).set (off + i * 1) (byteN (u / 2 ^ (24 - 8 * i))) := by
    rw [take_snoc' hg, splb_snoc, List.length_take, show min i (four u).length = i by simp [four]; omega, Nat.mul_one]
  refine c_seq ?_
  refine c_region ?_
  refine o_y (y_lss_t rfl rfl (by omega)) rfl ?_
  refine o_nil ?_
  refine f_seq ?_
  refine c_seq ?_
  refine c_true rfl ?_
  refine c_skip ?_
  refine f_seq ?_
  refine c_seq ?_
  refine c_block ?_
  refine c_seq ?_
  refine c_region ?_
  refine o_y (y_move rfl) rfl ?_
  refine o_y (y_assign rfl) rfl ?_
  refine o_nil ?_
  refine f_seq ?_
  refine c_region ?_
  refine o_y (y_move rfl) rfl ?_
  refine o_y (y_move rfl) rfl ?_
  refine o_y (y_move rfl) rfl ?_
  refine o_y (y_move rfl) rfl ?_
  refine o_y (y_arith64 rfl rfl rfl (by omega)) rfl ?_
  refine o_y (y_arith64 rfl rfl rfl (by omega)) rfl ?_
  refine o_y (y_conv_u64 rfl (by omega)) rfl ?_
  refine o_y (y_shr u (24 - 8 * i) rfl rfl rfl (by omega) (by show 24 - 8 * i ≤ 64; omega)) rfl ?_
  refine o_y (y_conv_u8 (u / 2 ^ (24 - 8 * i)) rfl rfl) rfl ?_
  refine o_y (y_indexAddr i rfl rfl rfl (by omega)) rfl ?_
  have hlen : off + i * 1 < ((splb l off ((four u).take i)).map byteV).length := by rw [List.length_map, splb_len]; omega
  refine o_store rfl rfl rfl (hset := SetN.at hlen) frz0 ?_
  rw [← byteN_V, ← List.map_set, ← hs]
  refine o_nil ?_
  refine f_block ?_
  refine f_seq ?_
  refine c_region ?_
  refine o_y (y_arith64 rfl rfl rfl (by omega)) rfl ?_
  refine o_y (y_move rfl) rfl ?_
  refine o_nil ?_
  exact f_next (by repeat (first | with_reducible exact Ent.nil | (apply Ent.one; focus (repeat (first | with_reducible exact Rem.here | apply Rem.there))))) (by repeat (first | exact trivial | refine ⟨rfl, ?_⟩)) (ih (i + 1) hlt (by omega))

theorem byte_get {l : Bytes} {off i : Nat} {c : UInt8} (h : l[off + i]? = some c) : (l.map byteV)[off + i * 1]? = some (byteV c) := by
  rw [Nat.mul_one, List.getElem?_map, h]; rfl

theorem num_lt : ∀ (l : Bytes) (n k : Nat), n < 2 ^ k → l.foldl (fun n c => (n * 2 ^ 8) ||| c.toNat) n < 2 ^ (k + 8 * l.length)
  | [], n, k, h => by simpa using h
  | c :: l, n, k, h => by
    have h1 : (n * 2 ^ 8) ||| c.toNat < 2 ^ (k + 8) := Nat.or_lt_two_pow (by rw [Nat.pow_add]; exact Nat.mul_lt_mul_of_pos_right h (by decide)) (Nat.lt_of_lt_of_le (UInt8.toNat_lt c) (by rw [Nat.pow_add]; exact Nat.le_mul_of_pos_left _ (Nat.two_pow_pos k)))
    have := num_lt l _ (k + 8) h1
    rw [List.foldl_cons, List.length_cons, show k + 8 * (l.length + 1) = k + 8 + 8 * l.length by omega]
    exact this

theorem get_f (p : Bool) (b off k cap : Nat) (T : TypeId) (fz : Nat × Nat) (l : Bytes) (hk : 4 ≤ k) (hl : off + 4 ≤ l.length) :
    Fn Tryz.prog 118 [.slice (some ⟨b, off, none⟩) k cap] [Bkp p b (.cells ⟨l.map byteV⟩ T fz)] (fun v L => v = .int .i64 (num4 (l.drop off) : Int) ∧ L = [Bkp p b (.cells ⟨l.map byteV⟩ T fz)]) := by
  refine fn_start Tryz.func118 rfl rfl rfl fun F => ?_
  refine c_seq ?_
  refine c_region ?_
  refine o_y (y_assign rfl) rfl ?_
  refine o_nil ?_
  refine f_seq ?_
  refine c_seq ?_
  refine c_region ?_
  refine o_y (y_assign rfl) rfl ?_
  refine o_nil ?_
  refine f_seq ?_
  refine c_seq ?_
  refine c_seq ?_
  refine c_region ?_
  refine o_y (y_move rfl) rfl ?_
  refine o_nil ?_
  refine f_seq ?_
  refine c_block ?_
  refine c_loop_inv (X := Nat) (fun i => i ≤ 4) (fun i => 4 - i) (fun i => [Bkp p b (.cells ⟨l.map byteV⟩ T fz)])
    (fun i => [(0, .slice (some ⟨b, off, none⟩) k cap), (3, .int .i64 (((l.drop off).take i).foldl (fun n c => (n * 2 ^ 8) ||| c.toNat) 0 : Nat)), (5, .int .i64 (i : Int))]) 0 (by decide) (by repeat (first | with_reducible exact Ent.nil | (apply Ent.one; focus (repeat (first | with_reducible exact Rem.here | apply Rem.there))))) (by repeat (first | exact trivial | refine ⟨rfl, ?_⟩)) ?_
  intro i hi ih
  by_cases hlt : i < 4
  case neg =>
    have : i = 4 := by omega
    subst this
    refine c_seq ?_
    refine c_region ?_
    refine o_y (y_lss_f rfl rfl (by omega)) rfl ?_
    refine o_nil ?_
    refine f_seq ?_
    refine c_seq ?_
    refine c_false rfl ?_
    refine c_exit ?_
    refine f_seq_exit ?_
    refine f_seq_exit ?_
    refine f_block_here ?_
    refine f_seq ?_
    refine c_seq ?_
    refine c_region ?_
    refine o_y (y_move rfl) rfl ?_
    refine o_y (y_assign rfl) rfl ?_
    refine o_nil ?_
    refine f_seq ?_
    refine c_ret ?_
    exact f_ent (by repeat (first | with_reducible exact Ent.nil | (apply Ent.one; focus (repeat (first | with_reducible exact Rem.here | apply Rem.there))))) (f_ret rfl ⟨rfl, rfl⟩)
  case pos =>
  obtain ⟨c, hc⟩ : ∃ c, (l.drop off)[i]? = some c := ⟨_, List.getElem?_eq_getElem (by rw [List.length_drop]; omega)⟩
  have hc2 := hc
  rw [List.getElem?_drop] at hc2
  have hv := num_lt ((l.drop off).take i) 0 0 (by decide)
  have hll : ((l.drop off).take i).length ≤ 3 := by rw [List.length_take]; omega
  have hv2 : ((l.drop off).take i).foldl (fun n c => (n * 2 ^ 8) ||| c.toNat) 0 < 2 ^ 24 := Nat.lt_of_lt_of_le hv (Nat.pow_le_pow_right (by decide) (by omega))
  have hs : ((l.drop off).take (i + 1)).foldl (fun n c => (n * 2 ^ 8) ||| c.toNat) 0 = (((l.drop off).take i).foldl (fun n c => (n * 2 ^ 8) ||| c.toNat) 0 * 2 ^ 8) ||| c.toNat := by
    rw [take_snoc' hc, List.foldl_append]; rfl
  generalize ((l.drop off).take i).foldl (fun n c => (n * 2 ^ 8) ||| c.toNat) 0 = v at hv2 hs
  have hcl := UInt8.toNat_lt c
  refine c_seq ?_
  refine c_region ?_
  refine o_y (y_lss_t rfl rfl (by omega)) rfl ?_
  refine o_nil ?_
  refine f_seq ?_
  refine c_seq ?_
  refine c_true rfl ?_
  refine c_skip ?_
  refine f_seq ?_
  refine c_seq ?_
  refine c_block ?_
  refine c_seq ?_
  refine c_region ?_
  refine o_y (y_move rfl) rfl ?_
  refine o_y (y_assign rfl) rfl ?_
  refine o_nil ?_
  refine f_seq ?_
  refine c_region ?_
  refine o_y (y_move rfl) rfl ?_
  refine o_y (y_shl v 8 rfl rfl rfl rfl (by decide) (by rw [hib64]; omega)) rfl ?_
  refine o_y (y_move rfl) rfl ?_
  refine o_y (y_move rfl) rfl ?_
  refine o_y (y_indexAddr i rfl rfl rfl (by omega)) rfl ?_
  refine o_y (y_load rfl rfl (byte_get hc2)) rfl ?_
  refine o_y (y_conv_fit c.toNat rfl rfl (by rw [hib64]; omega)) rfl ?_
  refine o_y (y_or (v * 2 ^ 8) c.toNat rfl rfl rfl rfl (by rw [hib64]; omega) (by rw [hib64]; omega)) rfl ?_
  rw [← hs]
  refine o_y (y_assign rfl) rfl ?_
  refine o_nil ?_
  refine f_block ?_
  refine f_seq ?_
  refine c_region ?_
  refine o_y (y_arith64 rfl rfl rfl (by omega)) rfl ?_
  refine o_y (y_move rfl) rfl ?_
  refine o_nil ?_
  exact f_next (by repeat (first | with_reducible exact Ent.nil | (apply Ent.one; focus (repeat (first | with_reducible exact Rem.here | apply Rem.there))))) (by repeat (first | exact trivial | refine ⟨rfl, ?_⟩)) (ih (i + 1) hlt (by omega))

theorem equal_f (b c bo co bc cc : Nat) (p q : Bool) (T U : TypeId) (fz gz : Nat × Nat) (ds es : List Value) (l m : Bytes) (hl : getN ds bo l.length = some (l.map byteV)) (hm : getN es co m.length = some (m.map byteV)) :
    Fn Tryz.prog 119 [.slice (some ⟨b, bo, none⟩) l.length bc, .slice (some ⟨c, co, none⟩) m.length cc] [Bkp p b (.cells ⟨ds⟩ T fz), Bkp q c (.cells ⟨es⟩ U gz)]
      (fun v L => v = .bool (decide (l = m)) ∧ L = [Bkp p b (.cells ⟨ds⟩ T fz), Bkp q c (.cells ⟨es⟩ U gz)]) := by
  refine fn_start Tryz.func119 rfl rfl rfl fun F => ?_
  refine c_seq ?_
  refine c_region ?_
  refine o_y (y_assign rfl) rfl ?_
  refine o_nil ?_
  refine f_seq ?_
  refine c_seq ?_
  refine c_region ?_
  refine o_y (y_move rfl) rfl ?_
  refine o_y (y_conv_str (l := l) rfl hl) rfl ?_
  refine o_y (y_move rfl) rfl ?_
  refine o_y (y_conv_str (l := m) rfl hm) rfl ?_
  refine o_y (y_eq_str (c := decide (l = m)) rfl rfl rfl) rfl ?_
  refine o_y (y_assign rfl) rfl ?_
  refine o_nil ?_
  refine f_seq ?_
  refine c_ret ?_
  exact f_ret rfl ⟨rfl, rfl⟩
end Go.Lun

/- Arrays by value; the greatest and the least of numbers; a page's bytes. -/
namespace Go.Lun
open Go.Proofs

section
variable {P : Program} {n : Nat} {ds : List Deferred} {F : Fr} {L : List Asrt} {env : Env} {Q : Post} {ops : Array Oper} {rest : List Oper}
variable {dt : Option Tmp} {d : Tmp} {ty : TypeId} {pos : String} {af : Array Edge} {g : Option (Nat × Bool)}

theorem y_buildA {t e : TypeId} {parts : Array (Nat × Operand)} {pvs : List (Nat × Value)} {m : Nat} {z z' : Value} {sz by_ s1 b1 : Nat} {d' : TypeDesc} {zs ms : List Value} [Ty P t (.array m e) z sz by_] [Ty P e d' z' s1 b1] [hz : CellsV z zs]
    (he : evP env parts.toList = some pvs) (hf : Instr.fill (fun i => some (i * s1, s1)) ⟨zs⟩ pvs = some ⟨ms⟩) : Yld P n ds F L env ⟨dt, .build t parts, ty, pos, af, g⟩ (.agg ⟨ms⟩) := .mk fun w a _ k => by
  have e1 := k.evP he
  have e2 : (parts.map fun (i, x) => (i, a.eval x)) = ⟨pvs⟩ := by apply Array.ext'; simpa using e1
  simp only [execOp, Instr.build, e2, Sem.run_bind, run_zero, Result.andThen_ok, run_und, hz.out.1, run_size]
  simp [hf]
/-- x[:] of an array. -/
theorem y_sliceA {x : Operand} {t e : TypeId} {z z' : Value} {s1 b1 sz by_ b off len : Nat} {d' : TypeDesc} [Ty P t (.array len e) z s1 b1] [Ty P e d' z' sz by_] (hx : ev env x = some (.pointer (some ⟨b, off, none⟩))) (h0 : Nat.beq len 0 = false) :
    Yld P n ds F L env ⟨dt, .slice t x none none none, ty, pos, af, g⟩ (.slice (some ⟨b, off, none⟩) len len) := .mk fun w a _ k => by
  have e1 := k.ev hx
  have h1 := of_beq_ff h0
  simp [execOp, e1, Instr.sliceAt, run_und, run_size, Instr.sureAddr, Instr.sliceBounds, h1, add_none]
/-- x[i] of an array that is a value. -/
theorem y_indexV {x ix : Operand} {t e : TypeId} {z z' v : Value} {s1 b1 by_ len i : Nat} {d' : TypeDesc} {k0 : IntKind} {i0 : Int} {vs : List Value} [Ty P t (.array len e) z s1 b1] [Ty P e d' z' 1 by_] (ha : aggD d' = false)
    (hx : ev env x = some (.agg ⟨vs⟩)) (hi : ev env ix = some (.int k0 i0)) (h0 : i0 = (i : Int)) (h1 : i < len) (hv : vs[i]? = some v) :
    Yld P n ds F L env ⟨dt, .index t x ix, ty, pos, af, g⟩ v := .mk fun w a _ k => by
  have e1 := k.ev hx
  have e2 := k.ev hi
  subst h0
  have h2 : (0 : Int) ≤ (i : Int) ∧ (i : Int) < (len : Int) := ⟨by omega, by omega⟩
  simp [execOp, e1, e2, Instr.index, asIntOf, run_und, h2, run_size, part, run_isAgg, ha, hv, h1]
end

def intC (z : Int) : List Value := [.int .i64 z]
theorem int_get {l : List Int} {cs : List Value} {off i : Nat} {z : Int} (h : getN cs off (l.length * 1) = some (l.flatMap intC)) (hz : l[i]? = some z) : cs[off + i * 1]? = some (.int .i64 z) := by
  have g1 := getN_sub h (flat_get intC 1 (fun _ => rfl) hz)
  have g2 := (takeN_get g1).2 0 (by decide)
  rw [List.getElem?_drop, Nat.add_zero] at g2
  exact g2

theorem max_f (p : Bool) (b cap : Nat) (T : TypeId) (fz : Nat × Nat) (x y z : Int) :
    Fn Tryz.prog 121 [.slice (some ⟨b, 0, none⟩) 3 cap] [Bkp p b (.cells ⟨[.int .i64 x, .int .i64 y, .int .i64 z]⟩ T fz)] (fun v L => v = .int .i64 (max (max x y) z) ∧ L = [Bkp p b (.cells ⟨[.int .i64 x, .int .i64 y, .int .i64 z]⟩ T fz)]) := by
  refine fn_start Tryz.func121 rfl rfl rfl fun F => ?_
  refine c_seq ?_
  refine c_region ?_
  refine o_y (y_assign rfl) rfl ?_
  refine o_nil ?_
  refine f_seq ?_
  refine c_seq ?_
  refine c_seq ?_
  refine c_region ?_
  refine o_y (y_move rfl) rfl ?_
  refine o_y (y_len_slice rfl) rfl ?_
  refine o_y (y_lss_f rfl rfl (by omega)) rfl ?_
  refine o_nil ?_
  refine f_seq ?_
  refine c_false rfl ?_
  refine c_skip ?_
  refine f_seq ?_
  refine c_seq ?_
  refine c_region ?_
  refine o_y (y_move rfl) rfl ?_
  refine o_y (y_indexAddr 0 rfl rfl rfl (by decide)) rfl ?_
  refine o_y (y_load rfl rfl rfl) rfl ?_
  refine o_y (y_assign rfl) rfl ?_
  refine o_nil ?_
  refine f_seq ?_
  refine c_seq ?_
  refine c_seq ?_
  refine c_region ?_
  refine o_y (y_assign rfl) rfl ?_
  refine o_nil ?_
  refine f_seq ?_
  refine c_block ?_
  refine c_loop_inv (X := Nat) (fun i => 1 ≤ i ∧ i ≤ 3) (fun i => 3 - i) (fun _ => [Bkp p b (.cells ⟨[.int .i64 x, .int .i64 y, .int .i64 z]⟩ T fz)])
    (fun i => [(0, .slice (some ⟨b, 0, none⟩) 3 cap), (3, .int .i64 (if i = 1 then x else if i = 2 then max x y else max (max x y) z)), (4, .int .i64 (i : Int))]) 1 (by decide) (by repeat (first | with_reducible exact Ent.nil | (apply Ent.one; focus (repeat (first | with_reducible exact Rem.here | apply Rem.there))))) (by repeat (first | exact trivial | refine ⟨rfl, ?_⟩)) ?_
  rintro i ⟨h1, h3⟩ ih
  have : i = 1 ∨ i = 2 ∨ i = 3 := by omega
  rcases this with rfl | rfl | rfl
  · refine c_seq ?_
    refine c_seq ?_
    refine c_region ?_
    refine o_y (y_move rfl) rfl ?_
    refine o_y (y_move rfl) rfl ?_
    refine o_y (y_len_slice rfl) rfl ?_
    refine o_y (y_lss_t rfl rfl (by omega)) rfl ?_
    refine o_nil ?_
    refine f_seq ?_
    refine c_true rfl ?_
    refine c_skip ?_
    refine f_seq ?_
    refine c_seq ?_
    refine c_block ?_
    refine c_region ?_
    refine o_y (y_move rfl) rfl ?_
    refine o_y (y_move rfl) rfl ?_
    refine o_y (y_move rfl) rfl ?_
    refine o_y (y_indexAddr 1 rfl rfl rfl (by decide)) rfl ?_
    refine o_y (y_load rfl rfl rfl) rfl ?_
    refine o_y (y_max rfl rfl) rfl ?_
    refine o_y (y_assign rfl) rfl ?_
    refine o_nil ?_
    refine f_block ?_
    refine f_seq ?_
    refine c_region ?_
    refine o_y (y_move rfl) rfl ?_
    refine o_y (y_arith64 rfl rfl rfl (by omega)) rfl ?_
    refine o_y (y_assign rfl) rfl ?_
    refine o_nil ?_
    exact f_next (by repeat (first | with_reducible exact Ent.nil | (apply Ent.one; focus (repeat (first | with_reducible exact Rem.here | apply Rem.there))))) (by repeat (first | exact trivial | refine ⟨rfl, ?_⟩)) (ih 2 (by decide) (by decide))
  · refine c_seq ?_
    refine c_seq ?_
    refine c_region ?_
    refine o_y (y_move rfl) rfl ?_
    refine o_y (y_move rfl) rfl ?_
    refine o_y (y_len_slice rfl) rfl ?_
    refine o_y (y_lss_t rfl rfl (by omega)) rfl ?_
    refine o_nil ?_
    refine f_seq ?_
    refine c_true rfl ?_
    refine c_skip ?_
    refine f_seq ?_
    refine c_seq ?_
    refine c_block ?_
    refine c_region ?_
    refine o_y (y_move rfl) rfl ?_
    refine o_y (y_move rfl) rfl ?_
    refine o_y (y_move rfl) rfl ?_
    refine o_y (y_indexAddr 2 rfl rfl rfl (by decide)) rfl ?_
    refine o_y (y_load rfl rfl rfl) rfl ?_
    refine o_y (y_max rfl rfl) rfl ?_
    refine o_y (y_assign rfl) rfl ?_
    refine o_nil ?_
    refine f_block ?_
    refine f_seq ?_
    refine c_region ?_
    refine o_y (y_move rfl) rfl ?_
    refine o_y (y_arith64 rfl rfl rfl (by omega)) rfl ?_
    refine o_y (y_assign rfl) rfl ?_
    refine o_nil ?_
    exact f_next (by repeat (first | with_reducible exact Ent.nil | (apply Ent.one; focus (repeat (first | with_reducible exact Rem.here | apply Rem.there))))) (by repeat (first | exact trivial | refine ⟨rfl, ?_⟩)) (ih 3 (by decide) (by decide))
  · clear ih
    refine c_seq ?_
    refine c_seq ?_
    refine c_region ?_
    refine o_y (y_move rfl) rfl ?_
    refine o_y (y_move rfl) rfl ?_
    refine o_y (y_len_slice rfl) rfl ?_
    refine o_y (y_lss_f rfl rfl (by omega)) rfl ?_
    refine o_nil ?_
    refine f_seq ?_
    refine c_false rfl ?_
    refine c_exit ?_
    refine f_seq_exit ?_
    refine f_seq_exit ?_
    refine f_block_here ?_
    refine f_seq ?_
    refine c_seq ?_
    refine c_region ?_
    refine o_y (y_move rfl) rfl ?_
    refine o_y (y_assign rfl) rfl ?_
    refine o_nil ?_
    refine f_seq ?_
    refine c_ret ?_
    exact f_ret rfl ⟨rfl, rfl⟩

theorem min_f (p : Bool) (b cap : Nat) (T : TypeId) (fz : Nat × Nat) (x y z : Int) :
    Fn Tryz.prog 122 [.slice (some ⟨b, 0, none⟩) 3 cap] [Bkp p b (.cells ⟨[.int .i64 x, .int .i64 y, .int .i64 z]⟩ T fz)] (fun v L => v = .int .i64 (min (min x y) z) ∧ L = [Bkp p b (.cells ⟨[.int .i64 x, .int .i64 y, .int .i64 z]⟩ T fz)]) := by
  refine fn_start Tryz.func122 rfl rfl rfl fun F => ?_
  refine c_seq ?_
  refine c_region ?_
  refine o_y (y_assign rfl) rfl ?_
  refine o_nil ?_
  refine f_seq ?_
  refine c_seq ?_
  refine c_seq ?_
  refine c_region ?_
  refine o_y (y_move rfl) rfl ?_
  refine o_y (y_len_slice rfl) rfl ?_
  refine o_y (y_lss_f rfl rfl (by omega)) rfl ?_
  refine o_nil ?_
  refine f_seq ?_
  refine c_false rfl ?_
  refine c_skip ?_
  refine f_seq ?_
  refine c_seq ?_
  refine c_region ?_
  refine o_y (y_move rfl) rfl ?_
  refine o_y (y_indexAddr 0 rfl rfl rfl (by decide)) rfl ?_
  refine o_y (y_load rfl rfl rfl) rfl ?_
  refine o_y (y_assign rfl) rfl ?_
  refine o_nil ?_
  refine f_seq ?_
  refine c_seq ?_
  refine c_seq ?_
  refine c_region ?_
  refine o_y (y_assign rfl) rfl ?_
  refine o_nil ?_
  refine f_seq ?_
  refine c_block ?_
  refine c_loop_inv (X := Nat) (fun i => 1 ≤ i ∧ i ≤ 3) (fun i => 3 - i) (fun _ => [Bkp p b (.cells ⟨[.int .i64 x, .int .i64 y, .int .i64 z]⟩ T fz)])
    (fun i => [(0, .slice (some ⟨b, 0, none⟩) 3 cap), (3, .int .i64 (if i = 1 then x else if i = 2 then min x y else min (min x y) z)), (4, .int .i64 (i : Int))]) 1 (by decide) (by repeat (first | with_reducible exact Ent.nil | (apply Ent.one; focus (repeat (first | with_reducible exact Rem.here | apply Rem.there))))) (by repeat (first | exact trivial | refine ⟨rfl, ?_⟩)) ?_
  rintro i ⟨h1, h3⟩ ih
  have : i = 1 ∨ i = 2 ∨ i = 3 := by omega
  rcases this with rfl | rfl | rfl
  · refine c_seq ?_
    refine c_seq ?_
    refine c_region ?_
    refine o_y (y_move rfl) rfl ?_
    refine o_y (y_move rfl) rfl ?_
    refine o_y (y_len_slice rfl) rfl ?_
    refine o_y (y_lss_t rfl rfl (by omega)) rfl ?_
    refine o_nil ?_
    refine f_seq ?_
    refine c_true rfl ?_
    refine c_skip ?_
    refine f_seq ?_
    refine c_seq ?_
    refine c_block ?_
    refine c_region ?_
    refine o_y (y_move rfl) rfl ?_
    refine o_y (y_move rfl) rfl ?_
    refine o_y (y_move rfl) rfl ?_
    refine o_y (y_indexAddr 1 rfl rfl rfl (by decide)) rfl ?_
    refine o_y (y_load rfl rfl rfl) rfl ?_
    refine o_y (y_min rfl rfl) rfl ?_
    refine o_y (y_assign rfl) rfl ?_
    refine o_nil ?_
    refine f_block ?_
    refine f_seq ?_
    refine c_region ?_
    refine o_y (y_move rfl) rfl ?_
    refine o_y (y_arith64 rfl rfl rfl (by omega)) rfl ?_
    refine o_y (y_assign rfl) rfl ?_
    refine o_nil ?_
    exact f_next (by repeat (first | with_reducible exact Ent.nil | (apply Ent.one; focus (repeat (first | with_reducible exact Rem.here | apply Rem.there))))) (by repeat (first | exact trivial | refine ⟨rfl, ?_⟩)) (ih 2 (by decide) (by decide))
  · refine c_seq ?_
    refine c_seq ?_
    refine c_region ?_
    refine o_y (y_move rfl) rfl ?_
    refine o_y (y_move rfl) rfl ?_
    refine o_y (y_len_slice rfl) rfl ?_
    refine o_y (y_lss_t rfl rfl (by omega)) rfl ?_
    refine o_nil ?_
    refine f_seq ?_
    refine c_true rfl ?_
    refine c_skip ?_
    refine f_seq ?_
    refine c_seq ?_
    refine c_block ?_
    refine c_region ?_
    refine o_y (y_move rfl) rfl ?_
    refine o_y (y_move rfl) rfl ?_
    refine o_y (y_move rfl) rfl ?_
    refine o_y (y_indexAddr 2 rfl rfl rfl (by decide)) rfl ?_
    refine o_y (y_load rfl rfl rfl) rfl ?_
    refine o_y (y_min rfl rfl) rfl ?_
    refine o_y (y_assign rfl) rfl ?_
    refine o_nil ?_
    refine f_block ?_
    refine f_seq ?_
    refine c_region ?_
    refine o_y (y_move rfl) rfl ?_
    refine o_y (y_arith64 rfl rfl rfl (by omega)) rfl ?_
    refine o_y (y_assign rfl) rfl ?_
    refine o_nil ?_
    exact f_next (by repeat (first | with_reducible exact Ent.nil | (apply Ent.one; focus (repeat (first | with_reducible exact Rem.here | apply Rem.there))))) (by repeat (first | exact trivial | refine ⟨rfl, ?_⟩)) (ih 3 (by decide) (by decide))
  · clear ih
    refine c_seq ?_
    refine c_seq ?_
    refine c_region ?_
    refine o_y (y_move rfl) rfl ?_
    refine o_y (y_move rfl) rfl ?_
    refine o_y (y_len_slice rfl) rfl ?_
    refine o_y (y_lss_f rfl rfl (by omega)) rfl ?_
    refine o_nil ?_
    refine f_seq ?_
    refine c_false rfl ?_
    refine c_exit ?_
    refine f_seq_exit ?_
    refine f_seq_exit ?_
    refine f_block_here ?_
    refine f_seq ?_
    refine c_seq ?_
    refine c_region ?_
    refine o_y (y_move rfl) rfl ?_
    refine o_y (y_assign rfl) rfl ?_
    refine o_nil ?_
    refine f_seq ?_
    refine c_ret ?_
    exact f_ret rfl ⟨rfl, rfl⟩

/-! ### A page -/

structure PG where
  kind : Int
  no : Int
  epoch : Int
  link : Int
  cells : List Bytes
abbrev PG.vals (p : PG) (a : Option Addr) (cap : Nat) : List Value := [.int .i64 p.kind, .int .i64 p.no, .int .i64 p.epoch, .int .i64 p.link, .slice a p.cells.length cap]
def PG.ok (p : PG) : Prop := 1 ≤ p.kind ∧ p.kind ≤ 255 ∧ 0 ≤ p.no ∧ p.no ≤ 4294967295 ∧ 0 ≤ p.epoch ∧ p.epoch ≤ 4294967295 ∧ 0 ≤ p.link ∧ p.link ≤ 4294967295
instance (p : PG) : Decidable p.ok := by unfold PG.ok; infer_instance
def zeros : Bytes := List.replicate 256 0
def PG.head (p : PG) : Bytes := splb (splb (splb (splb (splb zeros 0 [byteN p.kind.toNat]) 1 [byteN p.cells.length]) 2 (four p.no.toNat)) 6 (four p.epoch.toNat)) 10 (four p.link.toNat)
/-- A cell laid: its number, where the last one began, the bytes. -/
def layCell (st : Nat × Nat × Bytes) (c : Bytes) : Nat × Nat × Bytes :=
  (st.1 + 1, st.2.1 - c.length, splb (splb (splb st.2.2 (14 + 2 * st.1) [byteN (st.2.1 - c.length)]) (15 + 2 * st.1) [byteN c.length]) (st.2.1 - c.length) c)
def PG.laid (p : PG) (k : Nat) : Nat × Nat × Bytes := (p.cells.take k).foldl layCell (0, 252, p.head)
def PG.body (p : PG) : Bytes := (p.laid p.cells.length).2.2
def PG.bytes (p : PG) : Bytes := splb p.body 252 (four (crcOf (p.body.take 252)))
end Go.Lun

/- A page's bytes, made. -/
namespace Go.Lun
open Go.Proofs

section
variable {P : Program} {n : Nat} {ds : List Deferred} {F : Fr} {L : List Asrt} {env : Env} {Q : Post} {ops : Array Oper} {rest : List Oper}
variable {dt : Option Tmp} {ty : TypeId} {pos : String} {af : Array Edge} {g : Option (Nat × Bool)}
/-- Where a row begins that is cut at a place: at that place, but at its old head if nothing is left. -/
def cutAt (k cap sz off : Nat) : Nat := if cap = k then off else off + k * sz
theorem y_slice_from {x : Operand} {lo : Option Operand} {t e : TypeId} {z z' : Value} {s1 b1 sz by_ b off len cap : Nat} {d' : TypeDesc} (l : Nat) [Ty P t (.slice e) z s1 b1] [Ty P e d' z' sz by_]
    (hx : ev env x = some (.slice (some ⟨b, off, none⟩) len cap)) (hl : bndE env lo 0 = some (l : Int)) (h1 : l ≤ len) (h2 : len ≤ cap) :
    Yld P n ds F L env ⟨dt, .slice t x lo none none, ty, pos, af, g⟩ (.slice (some ⟨b, cutAt l cap sz off, none⟩) (len - l) (cap - l)) := by
  have := y_slice (P := P) (n := n) (ds := ds) (F := F) (L := L) (dt := dt) (ty := ty) (pos := pos) (af := af) (g := g) (t := t) (lo := lo) (hi := none) (mx := none) l len cap hx hl rfl rfl (fun h => by cases h) h1 h2 (Nat.le_refl _)
  unfold cutAt
  by_cases hc : cap = l
  · rw [if_pos hc]; rw [if_pos hc] at this; exact this
  · rw [if_neg hc]; rw [if_neg hc] at this; exact this
theorem Src.str (l : Bytes) : Src P F L 1 (str l) l.length (l.map byteV) := fun w _ => ⟨by simp [Lun.str, Builtin.lenOf]; rfl, by simp, fun j hj => by
  have h : (⟨⟨l⟩⟩ : ByteArray).extract 0 j = ⟨⟨l.take j⟩⟩ := by
    apply ByteArray.ext
    apply Array.ext'
    simp [ByteArray.data_extract]
  simp only [Lun.str, Builtin.firstCells, h]
  simp [Function.comp_def]
  rfl⟩
end

theorem spl_cut {l ys : Bytes} {k : Nat} (hl : l.length = 256) (hk : k ≤ 256) (hy : ys.length ≤ 256 - k) : spl (l.map byteV) (cutAt k 256 1 0) ((ys.map byteV).take (min ys.length (256 - k) * 1)) = (splb l k ys).map byteV := by
  have e1 : min ys.length (256 - k) * 1 = ys.length := by omega
  rw [e1, List.take_of_length_le (by simp), splb_map]
  unfold cutAt
  by_cases h : 256 = k
  · have : ys = [] := List.eq_nil_of_length_eq_zero (by omega)
    subst this; rfl
  · rw [if_neg h, Nat.zero_add, Nat.mul_one]

theorem room_le (l : List Bytes) (k : Nat) : room (l.take k) ≤ room l := by
  have h : ∀ a b : List Bytes, room (a ++ b) = room a + room b := fun a b => by simp [room]
  conv => rhs; rw [← List.take_append_drop k l, h]
  omega
theorem laid_snoc {p : PG} {k : Nat} {c : Bytes} (h : p.cells[k]? = some c) : p.laid (k + 1) = layCell (p.laid k) c := by
  unfold PG.laid
  rw [take_snoc' h, List.foldl_append]; rfl
theorem head_len (p : PG) : p.head.length = 256 := by simp only [PG.head, splb_len]; unfold zeros; rw [List.length_replicate]
theorem laid_facts {p : PG} (hr : room p.cells ≤ 236) : ∀ k, k ≤ p.cells.length → (p.laid k).1 = k ∧ (p.laid k).2.1 + room (p.cells.take k) = 252 + 2 * k ∧ (p.laid k).2.2.length = 256
  | 0, _ => ⟨rfl, rfl, head_len p⟩
  | k + 1, h => by
    obtain ⟨h1, h2, h3⟩ := laid_facts hr k (by omega)
    have hc : p.cells[k]? = some p.cells[k] := List.getElem?_eq_getElem (by omega)
    have hs := room_snoc hc
    have hl := room_le p.cells (k + 1)
    rw [laid_snoc hc]
    refine ⟨by simp only [layCell, h1], ?_, by simp only [layCell, splb_len]; exact h3⟩
    simp only [layCell]
    omega
theorem room_two (l : List Bytes) : 2 * l.length ≤ room l := by
  induction l with
  | nil => exact Nat.le_refl _
  | cons c l ih => simp only [room, List.map_cons, List.sum_cons, List.length_cons] at ih ⊢; omega

theorem set_byte {l : Bytes} {i u : Nat} : (l.map byteV).set i (.int .u8 ((u % 256 : Nat) : Int)) = (splb l i [byteN u]).map byteV := by
  rw [← byteN_V, ← List.map_set]; rfl

/-- A page's head, number by number. -/
def PG.hd (p : PG) : Nat → Bytes
  | 0 => splb (splb zeros 0 [byteN p.kind.toNat]) 1 [byteN p.cells.length]
  | 1 => splb (splb (splb zeros 0 [byteN p.kind.toNat]) 1 [byteN p.cells.length]) 2 (four p.no.toNat)
  | 2 => splb (splb (splb (splb zeros 0 [byteN p.kind.toNat]) 1 [byteN p.cells.length]) 2 (four p.no.toNat)) 6 (four p.epoch.toNat)
  | _ => p.head
theorem zeros_len : zeros.length = 256 := by unfold zeros; rw [List.length_replicate]
theorem hd_len (p : PG) : ∀ i, (p.hd i).length = 256
  | 0 => by simp only [PG.hd, splb_len, zeros_len]
  | 1 => by simp only [PG.hd, splb_len, zeros_len]
  | 2 => by simp only [PG.hd, splb_len, zeros_len]
  | _ + 3 => head_len p

/-- What a page's number of an error is. -/
def PG.err (p : PG) : Int := if fitsP p.cells = true then (if p.ok then 0 else 41) else 40

set_option maxHeartbeats 6400000 in
theorem pput_f (s : Nat) (q : Bool) (p : PG) (a : Option Addr) (cap : Nat) (hs : Small p.cells) :
    Fn Tryz.prog 78 [.pointer (some ⟨s, 0, none⟩), .agg ⟨p.vals a cap⟩] [SumR s, RowA q strC 1 a p.cells]
      (fun v L => (p.err ≠ 0 ∧ v = .tuple ⟨[.slice none 0 0, .int .i64 p.err]⟩ ∧ L = [SumR s, RowA q strC 1 a p.cells]) ∨ (p.err = 0 ∧ ∃ b, v = .tuple ⟨[pageV b, .int .i64 0]⟩ ∧ L = [SumR s, RowA q strC 1 a p.cells, Blk b (bobj p.bytes)])) := by
  refine fn_start Tryz.func78 rfl rfl rfl fun F => ?_
  dsimp only [PG.vals]
  refine c_seq ?_
  refine c_region ?_
  refine o_box rfl rfl (fun pb => ?_)
  refine o_y (y_assign rfl) rfl ?_
  refine o_y (y_assign rfl) rfl ?_
  refine o_nil ?_
  refine f_seq ?_
  refine c_seq ?_
  refine c_region ?_
  refine o_y (y_fieldAddr0 rfl) rfl ?_
  refine o_y (y_load rfl rfl rfl) rfl ?_
  refine o_y (y_fieldAddr0 rfl) rfl ?_
  refine o_y (y_load rfl rfl rfl) rfl ?_
  refine o_y (y_fieldAddr0 rfl) rfl ?_
  refine o_y (y_load rfl rfl rfl) rfl ?_
  refine o_y (y_buildA (ms := [.int .i64 p.no, .int .i64 p.epoch, .int .i64 p.link]) rfl rfl) rfl ?_
  refine o_alloc rfl (fun fb => ?_)
  refine o_store rfl rfl rfl frz0 ?_
  refine o_nil ?_
  refine f_seq ?_
  refine c_seq ?_
  refine c_block ?_
  refine c_seq ?_
  refine c_region ?_
  refine o_y (y_fieldAddr0 rfl) rfl ?_
  refine o_y (y_load rfl rfl rfl) rfl ?_
  refine o_call rfl (fits_f hs) (by repeat (first | with_reducible exact Takes.nil | (apply Takes.cons; focus (repeat (first | with_reducible exact Rem.here | apply Rem.there))))) rfl ?_
  rintro _ _ ⟨rfl, rfl⟩
  simp only [List.append_eq, List.cons_append, List.nil_append, List.append_nil, tup]
  cases hfit : fitsP p.cells with
  | false =>
    have he : p.err = 40 := by unfold PG.err; rw [if_neg (by rw [hfit]; decide)]
    rw [he]
    refine o_y (y_not rfl) rfl ?_
    refine o_y (y_assign rfl) rfl ?_
    refine o_nil ?_
    refine f_seq ?_
    refine c_true rfl ?_
    refine c_seq ?_
    refine c_region ?_
    refine o_y (y_assign rfl) rfl ?_
    refine o_y (y_assign rfl) rfl ?_
    refine o_nil ?_
    refine f_seq ?_
    refine c_ret ?_
    refine f_block_ret ?_
    refine f_seq_ret ?_
    exact f_ent (by repeat (first | with_reducible exact Ent.nil | (apply Ent.one; focus (repeat (first | with_reducible exact Rem.here | apply Rem.there))))) (f_ret rfl (.inl ⟨by decide, rfl, rfl⟩))
  | true =>
  have hroom : room p.cells ≤ 236 := by unfold fitsP at hfit; simp only [Bool.and_eq_true, decide_eq_true_eq] at hfit; exact hfit.1
  have h2 := room_two p.cells
  by_cases k1 : p.kind < 1
  · have hok : ¬ p.ok := fun h => by have := h.1; omega
    rw [show p.err = 41 by unfold PG.err; rw [if_pos hfit, if_neg hok]]
    refine o_y (y_not rfl) rfl ?_
    refine o_y (y_assign rfl) rfl ?_
    refine o_nil ?_
    refine f_seq ?_
    refine c_false rfl ?_
    refine c_seq ?_
    refine c_region ?_
    refine o_y (y_fieldAddr0 rfl) rfl ?_
    refine o_y (y_load rfl rfl rfl) rfl ?_
    refine o_y (y_lss_t rfl rfl (by omega)) rfl ?_
    refine o_y (y_move rfl) rfl ?_
    refine o_skip rfl rfl ?_
    refine o_skip rfl rfl ?_
    refine o_skip rfl rfl ?_
    refine o_y (y_pick_t rfl rfl) rfl ?_
    refine o_y (y_move rfl) rfl ?_
    refine o_skip rfl rfl ?_
    refine o_skip rfl rfl ?_
    refine o_skip rfl rfl ?_
    refine o_y (y_pick_t rfl rfl) rfl ?_
    refine o_y (y_move rfl) rfl ?_
    refine o_skip rfl rfl ?_
    refine o_skip rfl rfl ?_
    refine o_skip rfl rfl ?_
    refine o_y (y_pick_t rfl rfl) rfl ?_
    refine o_y (y_assign rfl) rfl ?_
    refine o_nil ?_
    refine f_seq ?_
    refine c_true rfl ?_
    refine c_seq ?_
    refine c_region ?_
    refine o_y (y_assign rfl) rfl ?_
    refine o_y (y_assign rfl) rfl ?_
    refine o_nil ?_
    refine f_seq ?_
    refine c_ret ?_
    refine f_block_ret ?_
    refine f_seq_ret ?_
    exact f_ent (by repeat (first | with_reducible exact Ent.nil | (apply Ent.one; focus (repeat (first | with_reducible exact Rem.here | apply Rem.there))))) (f_ret rfl (.inl ⟨by decide, rfl, rfl⟩))
  by_cases k2 : 255 < p.kind
  · have hok : ¬ p.ok := fun h => by have := h.2.1; omega
    rw [show p.err = 41 by unfold PG.err; rw [if_pos hfit, if_neg hok]]
    refine o_y (y_not rfl) rfl ?_
    refine o_y (y_assign rfl) rfl ?_
    refine o_nil ?_
    refine f_seq ?_
    refine c_false rfl ?_
    refine c_seq ?_
    refine c_region ?_
    refine o_y (y_fieldAddr0 rfl) rfl ?_
    refine o_y (y_load rfl rfl rfl) rfl ?_
    refine o_y (y_lss_f rfl rfl (by omega)) rfl ?_
    refine o_y (y_move rfl) rfl ?_
    refine o_want rfl ?_
    refine o_y (y_fieldAddr0 rfl) rfl ?_
    refine o_want rfl ?_
    refine o_y (y_load rfl rfl rfl) rfl ?_
    refine o_want rfl ?_
    refine o_y (y_gtr_t rfl rfl (by omega)) rfl ?_
    refine o_y (y_pick_f rfl rfl) rfl ?_
    refine o_y (y_move rfl) rfl ?_
    refine o_skip rfl rfl ?_
    refine o_skip rfl rfl ?_
    refine o_skip rfl rfl ?_
    refine o_y (y_pick_t rfl rfl) rfl ?_
    refine o_y (y_move rfl) rfl ?_
    refine o_skip rfl rfl ?_
    refine o_skip rfl rfl ?_
    refine o_skip rfl rfl ?_
    refine o_y (y_pick_t rfl rfl) rfl ?_
    refine o_y (y_assign rfl) rfl ?_
    refine o_nil ?_
    refine f_seq ?_
    refine c_true rfl ?_
    refine c_seq ?_
    refine c_region ?_
    refine o_y (y_assign rfl) rfl ?_
    refine o_y (y_assign rfl) rfl ?_
    refine o_nil ?_
    refine f_seq ?_
    refine c_ret ?_
    refine f_block_ret ?_
    refine f_seq_ret ?_
    exact f_ent (by repeat (first | with_reducible exact Ent.nil | (apply Ent.one; focus (repeat (first | with_reducible exact Rem.here | apply Rem.there))))) (f_ret rfl (.inl ⟨by decide, rfl, rfl⟩))
  refine o_y (y_not rfl) rfl ?_
  refine o_y (y_assign rfl) rfl ?_
  refine o_nil ?_
  refine f_seq ?_
  refine c_false rfl ?_
  refine c_seq ?_
  refine c_region ?_
  refine o_y (y_fieldAddr0 rfl) rfl ?_
  refine o_y (y_load rfl rfl rfl) rfl ?_
  refine o_y (y_lss_f rfl rfl (by omega)) rfl ?_
  refine o_y (y_move rfl) rfl ?_
  refine o_want rfl ?_
  refine o_y (y_fieldAddr0 rfl) rfl ?_
  refine o_want rfl ?_
  refine o_y (y_load rfl rfl rfl) rfl ?_
  refine o_want rfl ?_
  refine o_y (y_gtr_f rfl rfl (by omega)) rfl ?_
  refine o_y (y_pick_f rfl rfl) rfl ?_
  refine o_y (y_move rfl) rfl ?_
  refine o_want rfl ?_
  refine o_y (y_sliceA rfl rfl) rfl ?_
  refine o_want rfl ?_
  refine o_call rfl (max_f true fb 3 210 (0, 0) p.no p.epoch p.link) (by repeat (first | with_reducible exact Takes.nil | (apply Takes.cons; focus (repeat (first | with_reducible exact Rem.here | apply Rem.there))))) rfl ?_
  rintro _ _ ⟨rfl, rfl⟩
  simp only [List.append_eq, List.cons_append, List.nil_append, List.append_nil, tup]
  by_cases k3 : 4294967295 < max (max p.no p.epoch) p.link
  · have hok : ¬ p.ok := fun h => by obtain ⟨_, _, _, _, _, _, _, _⟩ := h; omega
    rw [show p.err = 41 by unfold PG.err; rw [if_pos hfit, if_neg hok]]
    refine o_want rfl ?_
    refine o_y (y_gtr_t rfl rfl (by omega)) rfl ?_
    refine o_y (y_pick_f rfl rfl) rfl ?_
    refine o_y (y_move rfl) rfl ?_
    refine o_skip rfl rfl ?_
    refine o_skip rfl rfl ?_
    refine o_skip rfl rfl ?_
    refine o_y (y_pick_t rfl rfl) rfl ?_
    refine o_y (y_assign rfl) rfl ?_
    refine o_nil ?_
    refine f_seq ?_
    refine c_true rfl ?_
    refine c_seq ?_
    refine c_region ?_
    refine o_y (y_assign rfl) rfl ?_
    refine o_y (y_assign rfl) rfl ?_
    refine o_nil ?_
    refine f_seq ?_
    refine c_ret ?_
    refine f_block_ret ?_
    refine f_seq_ret ?_
    exact f_ent (by repeat (first | with_reducible exact Ent.nil | (apply Ent.one; focus (repeat (first | with_reducible exact Rem.here | apply Rem.there))))) (f_ret rfl (.inl ⟨by decide, rfl, rfl⟩))
  refine o_want rfl ?_
  refine o_y (y_gtr_f rfl rfl (by omega)) rfl ?_
  refine o_y (y_pick_f rfl rfl) rfl ?_
  refine o_y (y_move rfl) rfl ?_
  refine o_want rfl ?_
  refine o_y (y_sliceA rfl rfl) rfl ?_
  refine o_want rfl ?_
  refine o_call rfl (min_f true fb 3 210 (0, 0) p.no p.epoch p.link) (by repeat (first | with_reducible exact Takes.nil | (apply Takes.cons; focus (repeat (first | with_reducible exact Rem.here | apply Rem.there))))) rfl ?_
  rintro _ _ ⟨rfl, rfl⟩
  simp only [List.append_eq, List.cons_append, List.nil_append, List.append_nil, tup]
  by_cases k4 : min (min p.no p.epoch) p.link < 0
  · have hok : ¬ p.ok := fun h => by obtain ⟨_, _, _, _, _, _, _, _⟩ := h; omega
    rw [show p.err = 41 by unfold PG.err; rw [if_pos hfit, if_neg hok]]
    refine o_want rfl ?_
    refine o_y (y_lss_t rfl rfl (by omega)) rfl ?_
    refine o_y (y_pick_f rfl rfl) rfl ?_
    refine o_y (y_assign rfl) rfl ?_
    refine o_nil ?_
    refine f_seq ?_
    refine c_true rfl ?_
    refine c_seq ?_
    refine c_region ?_
    refine o_y (y_assign rfl) rfl ?_
    refine o_y (y_assign rfl) rfl ?_
    refine o_nil ?_
    refine f_seq ?_
    refine c_ret ?_
    refine f_block_ret ?_
    refine f_seq_ret ?_
    exact f_ent (by repeat (first | with_reducible exact Ent.nil | (apply Ent.one; focus (repeat (first | with_reducible exact Rem.here | apply Rem.there))))) (f_ret rfl (.inl ⟨by decide, rfl, rfl⟩))
  have hok : p.ok := by unfold PG.ok; omega
  have he0 : p.err = 0 := by unfold PG.err; rw [if_pos hfit, if_pos hok]
  refine o_want rfl ?_
  refine o_y (y_lss_f rfl rfl (by omega)) rfl ?_
  refine o_y (y_pick_f rfl rfl) rfl ?_
  refine o_y (y_assign rfl) rfl ?_
  refine o_nil ?_
  refine f_seq ?_
  refine c_false rfl ?_
  refine c_skip ?_
  refine f_block ?_
  refine f_seq ?_
  refine c_seq ?_
  refine c_region ?_
  refine o_makeSlice1 256 256 rfl rfl (by omega) (by omega) (by omega) rfl (fun bb => ?_)
  rw [show List.replicate 256 (Value.int .u8 0) = zeros.map byteV by unfold zeros; rw [List.map_replicate]; rfl]
  refine o_y (y_assign rfl) rfl ?_
  refine o_nil ?_
  refine f_seq ?_
  refine c_seq ?_
  refine c_ent (M := [Blk pb (.cells ⟨[.int .i64 p.kind, .int .i64 p.no, .int .i64 p.epoch, .int .i64 p.link, .slice a p.cells.length cap]⟩ 65 (0, 0)), Blk bb (bobj zeros), Blk fb (.cells ⟨[.int .i64 p.no, .int .i64 p.epoch, .int .i64 p.link]⟩ 210 (0, 0)), RowA q strC 1 a p.cells, SumR s]) (by repeat (first | with_reducible exact Ent.nil | (apply Ent.one; focus (repeat (first | with_reducible exact Rem.here | apply Rem.there))))) ?_
  have hkn : p.kind = ((p.kind.toNat : Nat) : Int) := by omega
  refine pl_start [10, 12] Tryz.mixed ?_; intro hd
  refine pl_lock (A := Blk _ _) Rem.here rfl ?_ hd; intro hb0
  refine pl_take (i := 0) rfl (by kernel_rfl) (y_move rfl) ?_ hd; clear hd; intro hd
  refine pl_take (i := 1) rfl (by kernel_rfl) (y_move rfl) ?_ hd; clear hd; intro hd
  refine pl_take (i := 2) rfl (by kernel_rfl) (y_fieldAddr0 rfl) ?_ hd; clear hd; intro hd
  refine pl_take (i := 3) rfl (by kernel_rfl) (y_load rfl rfl rfl) ?_ hd; clear hd; intro hd
  refine pl_take (i := 4) rfl (by kernel_rfl) (y_conv_u8 p.kind.toNat rfl hkn) ?_ hd; clear hd; intro hd
  refine pl_take (i := 5) rfl (by kernel_rfl) (y_fieldAddr0 rfl) ?_ hd; clear hd; intro hd
  refine pl_take (i := 6) rfl (by kernel_rfl) (y_load rfl rfl rfl) ?_ hd; clear hd; intro hd
  refine pl_take (i := 7) rfl (by kernel_rfl) (y_len_slice rfl) ?_ hd; clear hd; intro hd
  refine pl_take (i := 8) rfl (by kernel_rfl) (y_conv_u8 p.cells.length rfl rfl) ?_ hd; clear hd; intro hd
  refine pl_take (i := 9) rfl (by kernel_rfl) (y_indexAddr 0 rfl rfl rfl (by decide)) ?_ hd; clear hd; intro hd
  refine pl_sole (i := 10) (by kernel_rfl) rfl ?_ hd; clear hd; intro hd
  refine o_store rfl rfl rfl (hset := SetN.at (by rw [List.length_map, zeros_len]; decide)) frz0 ?_
  rw [set_byte, show 0 + 0 * 1 = 0 from rfl]
  refine pl_back (by repeat (first | with_reducible exact Owes.nil | with_reducible refine Owes.same ?_ | with_reducible refine Owes.any ?_ | refine Owes.waived 10 (by kernel_rfl) ?_)) ?_ hd; clear hd; intro hd
  refine pl_take (i := 11) rfl (by kernel_rfl) (y_indexAddr 1 rfl rfl rfl (by decide)) ?_ hd; clear hd; intro hd
  refine pl_sole (i := 12) (by kernel_rfl) rfl ?_ hd; clear hd; intro hd
  refine o_store rfl rfl rfl (hset := SetN.at (by rw [List.length_map, splb_len, zeros_len]; decide)) frz0 ?_
  rw [set_byte, show 0 + 1 * 1 = 1 from rfl, show splb (splb zeros 0 [byteN p.kind.toNat]) 1 [byteN p.cells.length] = p.hd 0 from rfl]
  refine pl_back (by repeat (first | with_reducible exact Owes.nil | with_reducible refine Owes.same ?_ | with_reducible refine Owes.any ?_ | refine Owes.waived 12 (by kernel_rfl) ?_ | refine Owes.waived 10 (by kernel_rfl) ?_)) ?_ hd; clear hd; intro hd
  refine pl_done (by kernel_rfl) ?_ hd
  refine f_unlock (A := Blk _ _) ?_
  refine f_seq ?_
  refine c_seq ?_
  refine c_seq ?_
  refine c_region ?_
  refine o_y (y_loadN rfl rfl rfl) rfl ?_
  refine o_y (y_move rfl) rfl ?_
  refine o_nil ?_
  refine f_seq ?_
  refine c_block ?_
  obtain ⟨q1, q2, q3, q4, q5, q6, q7, q8⟩ := hok
  refine c_loop_inv (X := Nat) (fun i => i ≤ 3) (fun i => 3 - i) (fun i => [Blk bb (bobj (p.hd i)), Blk pb (.cells ⟨[.int .i64 p.kind, .int .i64 p.no, .int .i64 p.epoch, .int .i64 p.link, .slice a p.cells.length cap]⟩ 65 (0, 0)), RowA q strC 1 a p.cells, SumR s])
    (fun i => [(0, .pointer (some ⟨s, 0, none⟩)), (3, .pointer (some ⟨pb, 0, none⟩)), (7, pageV bb), (56, .agg ⟨[.int .i64 p.no, .int .i64 p.epoch, .int .i64 p.link]⟩), (57, .int .i64 (i : Int))]) 0 (by decide) (by repeat (first | with_reducible exact Ent.nil | (apply Ent.one; focus (repeat (first | with_reducible exact Rem.here | apply Rem.there))))) (by repeat (first | exact trivial | refine ⟨rfl, ?_⟩)) ?_
  intro i hi ih
  have hi4 : i = 0 ∨ i = 1 ∨ i = 2 ∨ i = 3 := by omega
  rcases hi4 with rfl | rfl | rfl | rfl
  · refine c_seq ?_
    refine c_region ?_
    refine o_y (y_lss_t rfl rfl (by omega)) rfl ?_
    refine o_nil ?_
    refine f_seq ?_
    refine c_seq ?_
    refine c_true rfl ?_
    refine c_skip ?_
    refine f_seq ?_
    refine c_seq ?_
    refine c_block ?_
    refine c_seq ?_
    refine c_region ?_
    refine o_y (y_move rfl) rfl ?_
    refine o_y (y_indexV (i := 0) rfl rfl rfl rfl (by decide) rfl) rfl ?_
    refine o_y (y_assign rfl) rfl ?_
    refine o_y (y_assign rfl) rfl ?_
    refine o_nil ?_
    refine f_seq ?_
    refine c_region ?_
    refine o_y (y_move rfl) rfl ?_
    refine o_y (y_move rfl) rfl ?_
    refine o_y (y_arith64 rfl rfl rfl (by omega)) rfl ?_
    refine o_y (y_arith64 rfl rfl rfl (by omega)) rfl ?_
    refine o_y (y_move rfl) rfl ?_
    refine o_y (y_arith64 rfl rfl rfl (by omega)) rfl ?_
    refine o_y (y_arith64 rfl rfl rfl (by omega)) rfl ?_
    refine o_y (y_move rfl) rfl ?_
    refine o_y (y_arith64 rfl rfl rfl (by omega)) rfl ?_
    refine o_y (y_arith64 rfl rfl rfl (by omega)) rfl ?_
    refine o_y (y_slice 2 6 6 rfl rfl rfl rfl (fun _ => rfl) (by decide) (by decide) (by decide)) rfl ?_
    refine o_y (y_move rfl) rfl ?_
    refine o_call rfl (put_f bb 2 4 4 p.no.toNat p.no (by omega) (by omega) (p.hd 0) (by decide) (by rw [hd_len]; decide)) (by repeat (first | with_reducible exact Takes.nil | (apply Takes.cons; focus (repeat (first | with_reducible exact Rem.here | apply Rem.there))))) rfl ?_
    rintro _ _ ⟨rfl, rfl⟩
    simp only [List.append_eq, List.cons_append, List.nil_append, List.append_nil, tup]
    rw [show splb (p.hd 0) 2 (four p.no.toNat) = p.hd 1 from rfl]
    refine o_nil ?_
    refine f_block ?_
    refine f_seq ?_
    refine c_region ?_
    refine o_y (y_arith64 rfl rfl rfl (by omega)) rfl ?_
    refine o_y (y_move rfl) rfl ?_
    refine o_nil ?_
    refine f_next ?_ ?_ (ih 1 (by decide) (by decide))
    · repeat (first | with_reducible exact Ent.nil | (apply Ent.one; focus (repeat (first | with_reducible exact Rem.here | apply Rem.there))))
    · repeat (first | exact trivial | refine ⟨rfl, ?_⟩)
  · refine c_seq ?_
    refine c_region ?_
    refine o_y (y_lss_t rfl rfl (by omega)) rfl ?_
    refine o_nil ?_
    refine f_seq ?_
    refine c_seq ?_
    refine c_true rfl ?_
    refine c_skip ?_
    refine f_seq ?_
    refine c_seq ?_
    refine c_block ?_
    refine c_seq ?_
    refine c_region ?_
    refine o_y (y_move rfl) rfl ?_
    refine o_y (y_indexV (i := 1) rfl rfl rfl rfl (by decide) rfl) rfl ?_
    refine o_y (y_assign rfl) rfl ?_
    refine o_y (y_assign rfl) rfl ?_
    refine o_nil ?_
    refine f_seq ?_
    refine c_region ?_
    refine o_y (y_move rfl) rfl ?_
    refine o_y (y_move rfl) rfl ?_
    refine o_y (y_arith64 rfl rfl rfl (by omega)) rfl ?_
    refine o_y (y_arith64 rfl rfl rfl (by omega)) rfl ?_
    refine o_y (y_move rfl) rfl ?_
    refine o_y (y_arith64 rfl rfl rfl (by omega)) rfl ?_
    refine o_y (y_arith64 rfl rfl rfl (by omega)) rfl ?_
    refine o_y (y_move rfl) rfl ?_
    refine o_y (y_arith64 rfl rfl rfl (by omega)) rfl ?_
    refine o_y (y_arith64 rfl rfl rfl (by omega)) rfl ?_
    refine o_y (y_slice 6 10 10 rfl rfl rfl rfl (fun _ => rfl) (by decide) (by decide) (by decide)) rfl ?_
    refine o_y (y_move rfl) rfl ?_
    refine o_call rfl (put_f bb 6 4 4 p.epoch.toNat p.epoch (by omega) (by omega) (p.hd 1) (by decide) (by rw [hd_len]; decide)) (by repeat (first | with_reducible exact Takes.nil | (apply Takes.cons; focus (repeat (first | with_reducible exact Rem.here | apply Rem.there))))) rfl ?_
    rintro _ _ ⟨rfl, rfl⟩
    simp only [List.append_eq, List.cons_append, List.nil_append, List.append_nil, tup]
    rw [show splb (p.hd 1) 6 (four p.epoch.toNat) = p.hd 2 from rfl]
    refine o_nil ?_
    refine f_block ?_
    refine f_seq ?_
    refine c_region ?_
    refine o_y (y_arith64 rfl rfl rfl (by omega)) rfl ?_
    refine o_y (y_move rfl) rfl ?_
    refine o_nil ?_
    refine f_next ?_ ?_ (ih 2 (by decide) (by decide))
    · repeat (first | with_reducible exact Ent.nil | (apply Ent.one; focus (repeat (first | with_reducible exact Rem.here | apply Rem.there))))
    · repeat (first | exact trivial | refine ⟨rfl, ?_⟩)
  · refine c_seq ?_
    refine c_region ?_
    refine o_y (y_lss_t rfl rfl (by omega)) rfl ?_
    refine o_nil ?_
    refine f_seq ?_
    refine c_seq ?_
    refine c_true rfl ?_
    refine c_skip ?_
    refine f_seq ?_
    refine c_seq ?_
    refine c_block ?_
    refine c_seq ?_
    refine c_region ?_
    refine o_y (y_move rfl) rfl ?_
    refine o_y (y_indexV (i := 2) rfl rfl rfl rfl (by decide) rfl) rfl ?_
    refine o_y (y_assign rfl) rfl ?_
    refine o_y (y_assign rfl) rfl ?_
    refine o_nil ?_
    refine f_seq ?_
    refine c_region ?_
    refine o_y (y_move rfl) rfl ?_
    refine o_y (y_move rfl) rfl ?_
    refine o_y (y_arith64 rfl rfl rfl (by omega)) rfl ?_
    refine o_y (y_arith64 rfl rfl rfl (by omega)) rfl ?_
    refine o_y (y_move rfl) rfl ?_
    refine o_y (y_arith64 rfl rfl rfl (by omega)) rfl ?_
    refine o_y (y_arith64 rfl rfl rfl (by omega)) rfl ?_
    refine o_y (y_move rfl) rfl ?_
    refine o_y (y_arith64 rfl rfl rfl (by omega)) rfl ?_
    refine o_y (y_arith64 rfl rfl rfl (by omega)) rfl ?_
    refine o_y (y_slice 10 14 14 rfl rfl rfl rfl (fun _ => rfl) (by decide) (by decide) (by decide)) rfl ?_
    refine o_y (y_move rfl) rfl ?_
    refine o_call rfl (put_f bb 10 4 4 p.link.toNat p.link (by omega) (by omega) (p.hd 2) (by decide) (by rw [hd_len]; decide)) (by repeat (first | with_reducible exact Takes.nil | (apply Takes.cons; focus (repeat (first | with_reducible exact Rem.here | apply Rem.there))))) rfl ?_
    rintro _ _ ⟨rfl, rfl⟩
    simp only [List.append_eq, List.cons_append, List.nil_append, List.append_nil, tup]
    rw [show splb (p.hd 2) 10 (four p.link.toNat) = p.hd 3 from rfl]
    refine o_nil ?_
    refine f_block ?_
    refine f_seq ?_
    refine c_region ?_
    refine o_y (y_arith64 rfl rfl rfl (by omega)) rfl ?_
    refine o_y (y_move rfl) rfl ?_
    refine o_nil ?_
    refine f_next ?_ ?_ (ih 3 (by decide) (by decide))
    · repeat (first | with_reducible exact Ent.nil | (apply Ent.one; focus (repeat (first | with_reducible exact Rem.here | apply Rem.there))))
    · repeat (first | exact trivial | refine ⟨rfl, ?_⟩)
  clear ih
  refine c_seq ?_
  refine c_region ?_
  refine o_y (y_lss_f rfl rfl (by omega)) rfl ?_
  refine o_nil ?_
  refine f_seq ?_
  refine c_seq ?_
  refine c_false rfl ?_
  refine c_exit ?_
  refine f_seq_exit ?_
  refine f_seq_exit ?_
  refine f_block_here ?_
  refine f_seq ?_
  refine c_seq ?_
  refine c_region ?_
  refine o_y (y_assign rfl) rfl ?_
  refine o_nil ?_
  refine f_seq ?_
  refine c_seq ?_
  refine c_seq ?_
  refine c_region ?_
  refine o_y (y_fieldAddr0 rfl) rfl ?_
  refine o_y (y_load rfl rfl rfl) rfl ?_
  refine o_y (y_len_slice rfl) rfl ?_
  refine o_y (y_move rfl) rfl ?_
  refine o_nil ?_
  refine f_seq ?_
  refine c_block ?_
  refine c_ent (M := [Blk bb (bobj (p.laid 0).2.2), Blk pb (.cells ⟨[.int .i64 p.kind, .int .i64 p.no, .int .i64 p.epoch, .int .i64 p.link, .slice a p.cells.length cap]⟩ 65 (0, 0)), RowA q strC 1 a p.cells, SumR s]) (Ent.trans (M := [Blk bb (bobj (p.hd 3)), Blk pb (.cells ⟨[.int .i64 p.kind, .int .i64 p.no, .int .i64 p.epoch, .int .i64 p.link, .slice a p.cells.length cap]⟩ 65 (0, 0)), RowA q strC 1 a p.cells, SumR s]) (by repeat (first | with_reducible exact Ent.nil | (apply Ent.one; focus (repeat (first | with_reducible exact Rem.here | apply Rem.there))))) (Ent.refl _)) ?_
  refine c_loop_inv (X := Nat) (fun k => k ≤ p.cells.length) (fun k => p.cells.length - k) (fun k => [Blk bb (bobj (p.laid k).2.2), Blk pb (.cells ⟨[.int .i64 p.kind, .int .i64 p.no, .int .i64 p.epoch, .int .i64 p.link, .slice a p.cells.length cap]⟩ 65 (0, 0)), RowA q strC 1 a p.cells, SumR s])
    (fun k => [(0, .pointer (some ⟨s, 0, none⟩)), (3, .pointer (some ⟨pb, 0, none⟩)), (7, pageV bb), (10, .int .i64 ((p.laid k).2.1 : Int)), (76, .slice a p.cells.length cap), (77, .int .i64 (p.cells.length : Int)), (78, .int .i64 (k : Int))]) 0 (Nat.zero_le _) (by repeat (first | with_reducible exact Ent.nil | (apply Ent.one; focus (repeat (first | with_reducible exact Rem.here | apply Rem.there))))) (by repeat (first | exact trivial | refine ⟨rfl, ?_⟩)) ?_
  intro k hk ih
  obtain ⟨f1, f2, f3⟩ := laid_facts hroom k hk
  by_cases hlt : k < p.cells.length
  case neg =>
    clear ih
    have : k = p.cells.length := by omega
    subst this
    rw [show (p.laid p.cells.length).2.2 = p.body from rfl] at f3 ⊢
    refine c_seq ?_
    refine c_region ?_
    refine o_y (y_lss_f rfl rfl (by omega)) rfl ?_
    refine o_nil ?_
    refine f_seq ?_
    refine c_seq ?_
    refine c_false rfl ?_
    refine c_exit ?_
    refine f_seq_exit ?_
    refine f_seq_exit ?_
    refine f_block_here ?_
    refine f_seq ?_
    refine c_seq ?_
    refine c_ent (M := [Blk bb (bobj p.body), SumR s, RowA q strC 1 a p.cells]) (by repeat (first | with_reducible exact Ent.nil | (apply Ent.one; focus (repeat (first | with_reducible exact Rem.here | apply Rem.there))))) ?_
    have hb1 : ((p.body.take 252).length) = 252 := by rw [List.length_take, f3]; decide
    have hget : getN (p.body.map byteV) 0 (p.body.take 252).length = some ((p.body.take 252).map byteV) := by
      rw [hb1, List.map_take]
      unfold getN
      rw [List.drop_zero, takeN_take (by rw [List.length_map, f3]; decide)]
    refine pl_start [5, 7] Tryz.mixed ?_; intro hd
    refine pl_take (i := 0) rfl (by kernel_rfl) (y_move rfl) ?_ hd; clear hd; intro hd
    refine pl_take (i := 1) rfl (by kernel_rfl) (y_slice_from 252 rfl rfl (by decide) (by decide)) ?_ hd; clear hd; intro hd
    refine pl_take (i := 2) rfl (by kernel_rfl) (y_move rfl) ?_ hd; clear hd; intro hd
    refine pl_take (i := 3) rfl (by kernel_rfl) (y_move rfl) ?_ hd; clear hd; intro hd
    refine pl_take (i := 4) rfl (by kernel_rfl) (y_slice 0 252 252 rfl rfl rfl rfl (fun _ => rfl) (by decide) (by decide) (by decide)) ?_ hd; clear hd; intro hd
    refine pl_sole (i := 5) (by kernel_rfl) rfl ?_ hd; clear hd; intro hd
    have hof := of_f s bb 0 252 (p.body.map byteV) 5 (0, 0) true (p.body.take 252) hget (by rw [hb1]; decide)
    rw [hb1] at hof
    refine o_call rfl hof (by repeat (first | with_reducible exact Takes.nil | (apply Takes.cons; focus (repeat (first | with_reducible exact Rem.here | apply Rem.there))))) rfl ?_
    rintro _ _ ⟨rfl, rfl⟩
    simp only [List.append_eq, List.cons_append, List.nil_append, List.append_nil, tup]
    refine pl_back (by repeat (first | with_reducible exact Owes.nil | with_reducible refine Owes.same ?_ | with_reducible refine Owes.any ?_ | refine Owes.waived 5 (by kernel_rfl) ?_)) ?_ hd; clear hd; intro hd
    refine pl_take (i := 6) rfl (by kernel_rfl) (y_conv_int rfl) ?_ hd; clear hd; intro hd
    refine pl_sole (i := 7) (by kernel_rfl) rfl ?_ hd; clear hd; intro hd
    refine o_call rfl (put_f bb 252 4 4 (crcOf (p.body.take 252)) (IntKind.i64.wrap (crcOf (p.body.take 252) : Int)) (wrap_nat (k := .i64) (by rw [hib64]; have := crcOf_lt (p.body.take 252); omega)) (by have := crcOf_lt (p.body.take 252); omega) p.body (by decide) (by rw [f3]; decide)) (by repeat (first | with_reducible exact Takes.nil | (apply Takes.cons; focus (repeat (first | with_reducible exact Rem.here | apply Rem.there))))) rfl ?_
    rintro _ _ ⟨rfl, rfl⟩
    simp only [List.append_eq, List.cons_append, List.nil_append, List.append_nil, tup]
    refine pl_back (by repeat (first | with_reducible exact Owes.nil | with_reducible refine Owes.same ?_ | with_reducible refine Owes.any ?_ | refine Owes.waived 7 (by kernel_rfl) ?_ | refine Owes.waived 5 (by kernel_rfl) ?_)) ?_ hd; clear hd; intro hd
    refine pl_done (by kernel_rfl) ?_ hd
    rw [show splb p.body 252 (four (crcOf (p.body.take 252))) = p.bytes from rfl]
    refine f_seq ?_
    refine c_seq ?_
    refine c_region ?_
    refine o_y (y_move rfl) rfl ?_
    refine o_y (y_assign rfl) rfl ?_
    refine o_y (y_assign rfl) rfl ?_
    refine o_nil ?_
    refine f_seq ?_
    refine c_ret ?_
    exact f_ent (by repeat (first | with_reducible exact Ent.nil | (apply Ent.one; focus (repeat (first | with_reducible exact Rem.here | apply Rem.there))))) (f_ret rfl (.inr ⟨he0, bb, rfl, rfl⟩))
  case pos =>
  have hc : p.cells[k]? = some p.cells[k] := List.getElem?_eq_getElem hlt
  generalize p.cells[k] = c at hc
  have hne : p.cells ≠ [] := by intro h; rw [h] at hlt; exact absurd hlt (by simp)
  have hsn := laid_snoc hc
  have hrs := room_snoc hc
  have hrl := room_le p.cells (k + 1)
  have hr2 := room_two (p.cells.take (k + 1))
  rw [List.length_take] at hr2
  have hr3 := room_two (p.cells.take k)
  rw [List.length_take] at hr3
  refine c_open (h := RowA.opens (f := strC) hne) (by repeat (first | with_reducible exact Rem.here | apply Rem.there)) (fun y hy2 => ?_)
  obtain ⟨kb, ko, cs, T, fz⟩ := y
  obtain ⟨e1, e2⟩ := hy2
  dsimp only at e1 e2
  subst e1
  have hg := str_get e2 hc
  have hlc : layCell (p.laid k) c = (k + 1, (p.laid k).2.1 - c.length, splb (splb (splb (p.laid k).2.2 (14 + 2 * k) [byteN ((p.laid k).2.1 - c.length)]) (15 + 2 * k) [byteN c.length]) ((p.laid k).2.1 - c.length) c) := by unfold layCell; rw [f1]
  rw [hlc] at hsn
  generalize p.laid k = st at f1 f2 f3 hsn
  obtain ⟨st1, e, bs⟩ := st
  dsimp only at f1 f2 f3 hsn ⊢
  simp only [List.append_eq, List.cons_append, List.nil_append, List.append_nil, tup]
  refine c_seq ?_
  refine c_region ?_
  refine o_y (y_lss_t rfl rfl (by omega)) rfl ?_
  refine o_nil ?_
  refine f_seq ?_
  refine c_seq ?_
  refine c_true rfl ?_
  refine c_skip ?_
  refine f_seq ?_
  refine c_seq ?_
  refine c_block ?_
  refine c_seq ?_
  refine c_region ?_
  refine o_y (y_move rfl) rfl ?_
  refine o_y (y_indexAddr k rfl rfl rfl hlt) rfl ?_
  refine o_y (y_load rfl rfl hg) rfl ?_
  refine o_y (y_assign rfl) rfl ?_
  refine o_y (y_assign rfl) rfl ?_
  refine o_nil ?_
  refine f_seq ?_
  refine c_seq ?_
  refine c_region ?_
  refine o_y (y_move rfl) rfl ?_
  refine o_y (y_move rfl) rfl ?_
  refine o_y (y_len_str rfl) rfl ?_
  refine o_y (y_arith64 rfl rfl rfl (by omega)) rfl ?_
  refine o_y (y_assign rfl) rfl ?_
  refine o_nil ?_
  refine f_seq ?_
  refine c_seq ?_
  refine c_region ?_
  refine o_y (y_move rfl) rfl ?_
  refine o_y (y_move rfl) rfl ?_
  refine o_y (y_arith64 rfl rfl rfl (by omega)) rfl ?_
  refine o_y (y_arith64 rfl rfl rfl (by omega)) rfl ?_
  refine o_y (y_move rfl) rfl ?_
  refine o_y (y_move rfl) rfl ?_
  refine o_y (y_arith64 rfl rfl rfl (by omega)) rfl ?_
  refine o_y (y_arith64 rfl rfl rfl (by omega)) rfl ?_
  refine o_y (y_arith64 rfl rfl rfl (by omega)) rfl ?_
  refine o_y (y_move rfl) rfl ?_
  refine o_y (y_conv_int rfl) rfl ?_
  refine o_y (y_move rfl) rfl ?_
  refine o_y (y_len_str rfl) rfl ?_
  refine o_y (y_conv_int rfl) rfl ?_
  rw [show (e : Int) - (c.length : Int) = ((e - c.length : Nat) : Int) by omega, wrap_u8n, wrap_u8n]
  refine o_y (y_indexAddr (14 + 2 * k) rfl rfl (by omega) (by omega)) rfl ?_
  refine o_store rfl rfl rfl (hset := SetN.at (by rw [List.length_map, f3]; omega)) frz0 ?_
  rw [set_byte, show 0 + (14 + 2 * k) * 1 = 14 + 2 * k by omega]
  refine o_y (y_indexAddr (15 + 2 * k) rfl rfl (by omega) (by omega)) rfl ?_
  refine o_store rfl rfl rfl (hset := SetN.at (by rw [List.length_map, splb_len, f3]; omega)) frz0 ?_
  rw [set_byte, show 0 + (15 + 2 * k) * 1 = 15 + 2 * k by omega]
  refine o_nil ?_
  refine f_seq ?_
  refine c_region ?_
  refine o_y (y_move rfl) rfl ?_
  refine o_y (y_move rfl) rfl ?_
  refine o_y (y_slice_from (len := 256) (cap := 256) (e - c.length) rfl rfl (by omega) (by decide)) rfl ?_
  refine o_y (y_move rfl) rfl ?_
  refine o_copy (k := c.length) (ys := c.map byteV) (cs' := (splb (splb (splb bs (14 + 2 * k) [byteN (e - c.length)]) (15 + 2 * k) [byteN c.length]) (e - c.length) c).map byteV) rfl rfl (Src.str c)
    (spl_cut (by rw [splb_len, splb_len]; exact f3) (by omega) (by omega)) (by unfold cutAt; rw [List.length_map, splb_len, splb_len, f3]; split <;> omega) (bytes_one c) frz0 rfl ?_
  refine o_nil ?_
  refine f_block ?_
  refine f_seq ?_
  refine c_region ?_
  refine o_y (y_arith64 rfl rfl rfl (by omega)) rfl ?_
  refine o_y (y_move rfl) rfl ?_
  refine o_nil ?_
  refine f_next ?_ ?_ (ih (k + 1) hlt (by omega))
  · rw [hsn]
    exact Ent.one (by repeat (first | with_reducible exact Rem.here | apply Rem.there)) (Ent.one (by repeat (first | with_reducible exact Rem.here | apply Rem.there)) (Ent.put (P := [Bkp q kb (.cells ⟨cs⟩ T fz)]) (by repeat (first | with_reducible exact Takes.nil | (apply Takes.cons; focus (repeat (first | with_reducible exact Rem.here | apply Rem.there))))) (RowA.shut rfl e2) (by repeat (first | with_reducible exact Ent.nil | (apply Ent.one; focus (repeat (first | with_reducible exact Rem.here | apply Rem.there)))))))
  · rw [hsn]
    repeat (first | exact trivial | refine ⟨rfl, ?_⟩)
end Go.Lun

/- A slice as Go has it. -/
namespace Go.Lun
open Go.Proofs

/-- A slice as Go has it. -/
structure Wf (a : Option Addr) (n cap : Nat) : Prop where
  le : n ≤ cap
  nil : a = none → n = 0 ∧ cap = 0
  at_ : ∀ x, a = some x → ∃ b off, x = ⟨b, off, none⟩
section
variable {P : Program} {n : Nat} {ds : List Deferred} {F : Fr} {L : List Asrt} {env : Env} {Q : Post} {ops : Array Oper} {rest : List Oper}
theorem sl_wf {E : TypeId} {sz len cap : Nat} {a : Option Addr} {xs : List Value} {r : Res} (h : Sl E sz a len cap xs r) : Wf a len cap := by
  obtain ⟨h0, ⟨rfl, rfl, rfl⟩ | ⟨b, rs, rfl, h2, h3, h4⟩⟩ := h.cases
  · exact ⟨Nat.le_refl _, fun _ => ⟨rfl, rfl⟩, fun x h => by cases h⟩
  · exact ⟨h2, (fun h => by cases h), fun x h => by injection h with h; exact ⟨_, _, h.symm⟩⟩
theorem f_openWf {E : TypeId} {sz len cap : Nat} {a : Option Addr} {xs : List Value} {R : List Asrt} {e : Exit} (hr : Rem L (Sl E sz a len cap xs) R) (h : Wf a len cap → FinJ P n ds F L env e Q) : FinJ P n ds F L env e Q := .mk fun w a' s o => by
  obtain ⟨r, hA, _⟩ := s.look hr
  exact (h (sl_wf hA)).out w a' s o
theorem o_openWf {E : TypeId} {sz len cap : Nat} {a : Option Addr} {xs : List Value} {R : List Asrt} {l : List Oper} (hr : Rem L (Sl E sz a len cap xs) R) (h : Wf a len cap → OpsJ P n ds F L env ops l Q) : OpsJ P n ds F L env ops l Q := .mk fun w a' s o => by
  obtain ⟨r, hA, _⟩ := s.look hr
  exact (h (sl_wf hA)).out w a' s o
theorem c_openWf {E : TypeId} {sz len cap : Nat} {a : Option Addr} {xs : List Value} {R : List Asrt} {c : Code} (hr : Rem L (Sl E sz a len cap xs) R) (h : Wf a len cap → CodeJ P n ds F L env c Q) : CodeJ P n ds F L env c Q := .mk fun w a' s o => by
  obtain ⟨r, hA, _⟩ := s.look hr
  exact (h (sl_wf hA)).out w a' s o
end
end Go.Lun

/- A page, read out of bytes. -/
namespace Go.Lun
open Go.Proofs

def byteAt (l : Bytes) (i : Nat) : Nat := (l.getD i 0).toNat
theorem byteAt_lt (l : Bytes) (i : Nat) : byteAt l i < 256 := UInt8.toNat_lt _
theorem byteAt_get {l : Bytes} {i : Nat} (h : i < l.length) : ∃ c, l[i]? = some c ∧ c.toNat = byteAt l i := ⟨l[i], List.getElem?_eq_getElem h, by unfold byteAt; rw [List.getD_eq_getElem?_getD, List.getElem?_eq_getElem h]; rfl⟩
/-- The first cells that bytes tell. -/
def parseC (l : Bytes) : Nat → Option (List Bytes)
  | 0 => some []
  | i + 1 => match parseC l i with
    | some cs => if byteAt l (14 + 2 * i) + byteAt l (15 + 2 * i) ≤ 252 then some (cs ++ [(l.drop (byteAt l (14 + 2 * i))).take (byteAt l (15 + 2 * i))]) else none
    | none => none
def PG.parse (l : Bytes) : Option PG :=
  if 14 + 2 * byteAt l 1 ≤ 252 then (parseC l (byteAt l 1)).map fun cs => ⟨byteAt l 0, num4 (l.drop 2), num4 (l.drop 6), num4 (l.drop 10), cs⟩ else none
def pgetE (l : Bytes) : Int :=
  if crcOf (l.take 252) = num4 (l.drop 252) then (match PG.parse l with
    | some p => if p.err = 0 ∧ p.bytes = l then 0 else 41
    | none => 41) else 42

theorem parseC_len {l : Bytes} : ∀ {i : Nat} {cs : List Bytes}, parseC l i = some cs → cs.length = i ∧ ∀ c ∈ cs, c.length ≤ 255
  | 0, cs, h => by injection h with h; subst h; exact ⟨rfl, fun c hc => by cases hc⟩
  | i + 1, cs, h => by
    simp only [parseC] at h
    cases hp : parseC l i with
    | none => rw [hp] at h; cases h
    | some cs0 =>
      rw [hp] at h
      dsimp only at h
      split at h
      · injection h with h
        subst h
        obtain ⟨h1, h2⟩ := parseC_len hp
        refine ⟨by simp [h1], fun c hc => ?_⟩
        rcases List.mem_append.1 hc with hc | hc
        · exact h2 c hc
        · rw [List.mem_singleton] at hc
          subst hc
          have := byteAt_lt l (15 + 2 * i)
          rw [List.length_take]; omega
      · cases h
theorem parseC_none {l : Bytes} {i : Nat} (h : parseC l i = none) : ∀ {n : Nat}, i ≤ n → parseC l n = none := by
  intro n hn
  induction n with
  | zero => have : i = 0 := by omega
            subst this; exact h
  | succ n ih =>
    by_cases e : i = n + 1
    · subst e; exact h
    · simp only [parseC]
      rw [ih (by omega)]
theorem num4_lt (l : Bytes) : num4 l < 4294967296 := by
  have h := num_lt (l.take 4) 0 0 (by decide)
  have h2 : (l.take 4).length ≤ 4 := by rw [List.length_take]; omega
  exact Nat.lt_of_lt_of_le h (by rw [Nat.zero_add]; exact Nat.pow_le_pow_right (by decide) (show 8 * (l.take 4).length ≤ 32 by omega))

theorem lay_len2 : ∀ (cs : List Bytes) (st : Nat × Nat × Bytes), (cs.foldl layCell st).2.2.length = st.2.2.length
  | [], _ => rfl
  | c :: cs, st => by rw [List.foldl_cons, lay_len2 cs]; simp only [layCell, splb_len]
theorem bytes_len (p : PG) : p.bytes.length = 256 := by
  unfold PG.bytes PG.body PG.laid
  rw [splb_len, lay_len2]; exact head_len p
theorem get_part {l : Bytes} {A B : Nat} (h : A + B ≤ l.length) : getN (l.map byteV) (if A + B = A then 0 else 0 + A * 1) (A + B - A) = some (((l.drop A).take B).map byteV) := by
  rw [show A + B - A = B by omega]
  by_cases hB : B = 0
  · subst hB; simp [getN, takeN]
  · rw [if_neg (by omega), Nat.zero_add, Nat.mul_one]
    unfold getN
    rw [takeN_take (by rw [List.length_drop, List.length_map]; omega), List.map_take, List.map_drop]

abbrev pgZero : Value := .agg ⟨[.int .i64 0, .int .i64 0, .int .i64 0, .int .i64 0, .slice none 0 0]⟩

set_option maxHeartbeats 6400000 in
theorem pget_f (s b : Nat) (l : Bytes) (hl : l.length = 256) :
    Fn Tryz.prog 77 [.pointer (some ⟨s, 0, none⟩), pageV b] [SumR s, Sh b (bobj l)]
      (fun v L => (pgetE l ≠ 0 ∧ v = .tuple ⟨[pgZero, .int .i64 (pgetE l)]⟩ ∧ L = [SumR s, Sh b (bobj l)]) ∨
        (pgetE l = 0 ∧ ∃ p a cap, PG.parse l = some p ∧ p.bytes = l ∧ p.err = 0 ∧ Wf a p.cells.length cap ∧ v = .tuple ⟨[.agg ⟨p.vals a cap⟩, .int .i64 0]⟩ ∧ L = [SumR s, Sh b (bobj l), RowA false strC 1 a p.cells])) := by
  refine fn_start Tryz.func77 rfl rfl rfl fun F => ?_
  have h252 : (l.take 252).length = 252 := by rw [List.length_take, hl]; decide
  have hget : getN (l.map byteV) 0 252 = some ((l.take 252).map byteV) := by
    rw [List.map_take]
    unfold getN
    rw [List.drop_zero, takeN_take (by rw [List.length_map, hl]; decide)]
  have hcr := num4_lt (l.drop 252)
  refine c_seq ?_
  refine c_region ?_
  refine o_alloc rfl (fun rb => ?_)
  refine o_y (y_assign rfl) rfl ?_
  refine o_nil ?_
  refine f_seq ?_
  refine c_seq ?_
  refine c_block ?_
  refine c_seq ?_
  refine c_region ?_
  refine o_y (y_move rfl) rfl ?_
  refine o_y (y_len_slice rfl) rfl ?_
  refine o_y (y_neq_f rfl rfl (by omega)) rfl ?_
  refine o_y (y_assign rfl) rfl ?_
  refine o_nil ?_
  refine f_seq ?_
  refine c_false rfl ?_
  refine c_seq ?_
  refine c_ent (Ent.trans (M := [Sh b (bobj l), SumR s, Blk rb (.cells ⟨[.int .i64 0, .int .i64 0, .int .i64 0, .int .i64 0, .slice none 0 0]⟩ 65 (0, 0))]) (by repeat (first | with_reducible exact Ent.nil | (apply Ent.one; focus (repeat (first | with_reducible exact Rem.here | apply Rem.there))))) Ent.dup) ?_
  have hright := right_f s b 0 252 (l.map byteV) 5 (0, 0) false (l.take 252) (by rw [h252]; exact hget) (by rw [h252]; decide) (num4 (l.drop 252))
  rw [h252] at hright
  by_cases hsum : crcOf (l.take 252) = num4 (l.drop 252)
  case neg =>
    have he : pgetE l = 42 := by unfold pgetE; rw [if_neg hsum]
    rw [decide_eq_false hsum] at hright
    refine pl_start [5, 7] Tryz.mixed ?_; intro hd
    refine pl_lock (A := Bkp _ _ _) Rem.here rfl ?_ hd; intro hb0
    refine pl_take (i := 0) rfl (by kernel_rfl) (y_move rfl) ?_ hd; clear hd; intro hd
    refine pl_take (i := 1) rfl (by kernel_rfl) (y_move rfl) ?_ hd; clear hd; intro hd
    refine pl_take (i := 2) rfl (by kernel_rfl) (y_slice 0 252 252 rfl rfl rfl rfl (fun _ => rfl) (by decide) (by decide) (by decide)) ?_ hd; clear hd; intro hd
    refine pl_take (i := 3) rfl (by kernel_rfl) (y_move rfl) ?_ hd; clear hd; intro hd
    refine pl_take (i := 4) rfl (by kernel_rfl) (y_slice_from 252 rfl rfl (by decide) (by decide)) ?_ hd; clear hd; intro hd
    refine pl_sole (i := 5) (by kernel_rfl) rfl ?_ hd; clear hd; intro hd
    refine o_call rfl (get_f false b 252 4 4 5 (0, 0) l (by decide) (by rw [hl]; decide)) (by repeat (first | with_reducible exact Takes.nil | (apply Takes.cons; focus (repeat (first | with_reducible exact Rem.here | apply Rem.there))))) rfl ?_
    rintro _ _ ⟨rfl, rfl⟩
    simp only [List.append_eq, List.cons_append, List.nil_append, List.append_nil, tup]
    refine pl_back (by repeat (first | with_reducible exact Owes.nil | with_reducible refine Owes.same ?_ | with_reducible refine Owes.any ?_ | refine Owes.waived 5 (by kernel_rfl) ?_)) ?_ hd; clear hd; intro hd
    refine pl_take (i := 6) rfl (by kernel_rfl) (y_conv_fit (num4 (l.drop 252)) rfl rfl (by rw [hib32]; exact hcr)) ?_ hd; clear hd; intro hd
    refine pl_sole (i := 7) (by kernel_rfl) rfl ?_ hd; clear hd; intro hd
    refine o_call rfl hright (by repeat (first | with_reducible exact Takes.nil | (apply Takes.cons; focus (repeat (first | with_reducible exact Rem.here | apply Rem.there))))) rfl ?_
    rintro _ _ ⟨rfl, rfl⟩
    simp only [List.append_eq, List.cons_append, List.nil_append, List.append_nil, tup]
    refine pl_back (by repeat (first | with_reducible exact Owes.nil | with_reducible refine Owes.same ?_ | with_reducible refine Owes.any ?_ | refine Owes.waived 7 (by kernel_rfl) ?_ | refine Owes.waived 5 (by kernel_rfl) ?_)) ?_ hd; clear hd; intro hd
    refine pl_take (i := 8) rfl (by kernel_rfl) (y_not rfl) ?_ hd; clear hd; intro hd
    refine pl_take (i := 9) rfl (by kernel_rfl) (y_assign rfl) ?_ hd; clear hd; intro hd
    refine pl_done (by kernel_rfl) ?_ hd
    refine f_unlock (A := Bkp _ _ _) ?_
    refine f_seq ?_
    refine c_true rfl ?_
    refine c_seq ?_
    refine c_region ?_
    refine o_y (y_build rfl) rfl ?_
    refine o_store rfl rfl rfl frz0 ?_
    refine o_y (y_assign rfl) rfl ?_
    refine o_nil ?_
    refine f_seq ?_
    refine c_ret ?_
    refine f_block_ret ?_
    refine f_seq_ret ?_
    exact f_retc rfl rfl rfl rfl rfl (by repeat (first | with_reducible exact Ent.nil | (apply Ent.one; focus (repeat (first | with_reducible exact Rem.here | apply Rem.there))))) (.inl ⟨by rw [he]; decide, by rw [he]; rfl, rfl⟩)
  case pos =>
  rw [decide_eq_true hsum] at hright
  refine pl_start [5, 7] Tryz.mixed ?_; intro hd
  refine pl_lock (A := Bkp _ _ _) Rem.here rfl ?_ hd; intro hb0
  refine pl_take (i := 0) rfl (by kernel_rfl) (y_move rfl) ?_ hd; clear hd; intro hd
  refine pl_take (i := 1) rfl (by kernel_rfl) (y_move rfl) ?_ hd; clear hd; intro hd
  refine pl_take (i := 2) rfl (by kernel_rfl) (y_slice 0 252 252 rfl rfl rfl rfl (fun _ => rfl) (by decide) (by decide) (by decide)) ?_ hd; clear hd; intro hd
  refine pl_take (i := 3) rfl (by kernel_rfl) (y_move rfl) ?_ hd; clear hd; intro hd
  refine pl_take (i := 4) rfl (by kernel_rfl) (y_slice_from 252 rfl rfl (by decide) (by decide)) ?_ hd; clear hd; intro hd
  refine pl_sole (i := 5) (by kernel_rfl) rfl ?_ hd; clear hd; intro hd
  refine o_call rfl (get_f false b 252 4 4 5 (0, 0) l (by decide) (by rw [hl]; decide)) (by repeat (first | with_reducible exact Takes.nil | (apply Takes.cons; focus (repeat (first | with_reducible exact Rem.here | apply Rem.there))))) rfl ?_
  rintro _ _ ⟨rfl, rfl⟩
  simp only [List.append_eq, List.cons_append, List.nil_append, List.append_nil, tup]
  refine pl_back (by repeat (first | with_reducible exact Owes.nil | with_reducible refine Owes.same ?_ | with_reducible refine Owes.any ?_ | refine Owes.waived 5 (by kernel_rfl) ?_)) ?_ hd; clear hd; intro hd
  refine pl_take (i := 6) rfl (by kernel_rfl) (y_conv_fit (num4 (l.drop 252)) rfl rfl (by rw [hib32]; exact hcr)) ?_ hd; clear hd; intro hd
  refine pl_sole (i := 7) (by kernel_rfl) rfl ?_ hd; clear hd; intro hd
  refine o_call rfl hright (by repeat (first | with_reducible exact Takes.nil | (apply Takes.cons; focus (repeat (first | with_reducible exact Rem.here | apply Rem.there))))) rfl ?_
  rintro _ _ ⟨rfl, rfl⟩
  simp only [List.append_eq, List.cons_append, List.nil_append, List.append_nil, tup]
  refine pl_back (by repeat (first | with_reducible exact Owes.nil | with_reducible refine Owes.same ?_ | with_reducible refine Owes.any ?_ | refine Owes.waived 7 (by kernel_rfl) ?_ | refine Owes.waived 5 (by kernel_rfl) ?_)) ?_ hd; clear hd; intro hd
  refine pl_take (i := 8) rfl (by kernel_rfl) (y_not rfl) ?_ hd; clear hd; intro hd
  refine pl_take (i := 9) rfl (by kernel_rfl) (y_assign rfl) ?_ hd; clear hd; intro hd
  refine pl_done (by kernel_rfl) ?_ hd
  refine f_unlock (A := Bkp _ _ _) ?_
  refine f_seq ?_
  refine c_false rfl ?_
  refine c_skip ?_
  refine f_block ?_
  refine f_seq ?_
  refine c_seq ?_
  obtain ⟨c0, hc0, hv0⟩ := byteAt_get (l := l) (i := 0) (by omega)
  obtain ⟨c1, hc1, hv1⟩ := byteAt_get (l := l) (i := 1) (by omega)
  have hb0 := byteAt_lt l 0
  have hb1 := byteAt_lt l 1
  refine c_ent (M := [Sh b (bobj l), Sh b (bobj l), SumR s, Blk rb (.cells ⟨[.int .i64 0, .int .i64 0, .int .i64 0, .int .i64 0, .slice none 0 0]⟩ 65 (0, 0))]) (by repeat (first | with_reducible exact Ent.nil | (apply Ent.one; focus (repeat (first | with_reducible exact Rem.here | apply Rem.there))))) ?_
  refine c_cut (X := Nat) (fun pb => [Blk pb (.cells ⟨[.int .i64 (byteAt l 0 : Int), .int .i64 (num4 (l.drop 2) : Int), .int .i64 (num4 (l.drop 6) : Int), .int .i64 (num4 (l.drop 10) : Int), .slice none 0 0]⟩ 65 (0, 0)), Sh b (bobj l), Sh b (bobj l), SumR s, Blk rb (.cells ⟨[.int .i64 0, .int .i64 0, .int .i64 0, .int .i64 0, .slice none 0 0]⟩ 65 (0, 0))])
    (fun pb => [(0, .pointer (some ⟨s, 0, none⟩)), (1, pageV b), (4, .pointer (some ⟨rb, 0, none⟩)), (5, .int .i64 0), (6, .pointer (some ⟨pb, 0, none⟩))]) ?_ ?_
  ·
    refine pl_start [6, 9, 12, 14, 15] Tryz.mixed ?_; intro hd
    refine pl_lock (A := Bkp _ _ _) Rem.here rfl ?_ hd; intro hb0
    refine pl_take (i := 0) rfl (by kernel_rfl) (y_move rfl) ?_ hd; clear hd; intro hd
    refine pl_take (i := 1) rfl (by kernel_rfl) (y_indexAddr 0 rfl rfl rfl (by decide)) ?_ hd; clear hd; intro hd
    refine pl_take (i := 2) rfl (by kernel_rfl) (y_load rfl rfl (byte_get (off := 0) hc0)) ?_ hd; clear hd; intro hd
    refine pl_take (i := 3) rfl (by kernel_rfl) (y_conv_fit c0.toNat rfl rfl (by rw [hib64, hv0]; omega)) ?_ hd; clear hd; intro hd
    refine pl_take (i := 4) rfl (by kernel_rfl) (y_move rfl) ?_ hd; clear hd; intro hd
    refine pl_take (i := 5) rfl (by kernel_rfl) (y_slice_from 2 rfl rfl (by decide) (by decide)) ?_ hd; clear hd; intro hd
    refine pl_take (i := 7) rfl (by kernel_rfl) (y_move rfl) ?_ hd; clear hd; intro hd
    refine pl_take (i := 8) rfl (by kernel_rfl) (y_slice_from 6 rfl rfl (by decide) (by decide)) ?_ hd; clear hd; intro hd
    refine pl_take (i := 10) rfl (by kernel_rfl) (y_move rfl) ?_ hd; clear hd; intro hd
    refine pl_take (i := 11) rfl (by kernel_rfl) (y_slice_from 10 rfl rfl (by decide) (by decide)) ?_ hd; clear hd; intro hd
    refine pl_two (i := 6) (j := 14) (by kernel_rfl) rfl rfl ?_ ?_ hd
    · clear hd; intro hd
      refine o_call rfl (get_f false b 2 254 254 5 (0, 0) l (by decide) (by rw [hl]; decide)) (by repeat (first | with_reducible exact Takes.nil | (apply Takes.cons; focus (repeat (first | with_reducible exact Rem.here | apply Rem.there))))) rfl ?_
      rintro _ _ ⟨rfl, rfl⟩
      simp only [List.append_eq, List.cons_append, List.nil_append, List.append_nil, tup]
      refine pl_back (by repeat (first | with_reducible exact Owes.nil | with_reducible refine Owes.same ?_ | with_reducible refine Owes.any ?_ | refine Owes.waived 6 (by kernel_rfl) ?_)) ?_ hd; clear hd; intro hd
      refine pl_two (i := 9) (j := 14) (by kernel_rfl) rfl rfl ?_ ?_ hd
      · clear hd; intro hd
        refine o_call rfl (get_f false b 6 250 250 5 (0, 0) l (by decide) (by rw [hl]; decide)) (by repeat (first | with_reducible exact Takes.nil | (apply Takes.cons; focus (repeat (first | with_reducible exact Rem.here | apply Rem.there))))) rfl ?_
        rintro _ _ ⟨rfl, rfl⟩
        simp only [List.append_eq, List.cons_append, List.nil_append, List.append_nil, tup]
        refine pl_back (by repeat (first | with_reducible exact Owes.nil | with_reducible refine Owes.same ?_ | with_reducible refine Owes.any ?_ | refine Owes.waived 9 (by kernel_rfl) ?_ | refine Owes.waived 6 (by kernel_rfl) ?_)) ?_ hd; clear hd; intro hd
        refine pl_two (i := 12) (j := 14) (by kernel_rfl) rfl rfl ?_ ?_ hd
        · clear hd; intro hd
          refine o_call rfl (get_f false b 10 246 246 5 (0, 0) l (by decide) (by rw [hl]; decide)) (by repeat (first | with_reducible exact Takes.nil | (apply Takes.cons; focus (repeat (first | with_reducible exact Rem.here | apply Rem.there))))) rfl ?_
          rintro _ _ ⟨rfl, rfl⟩
          simp only [List.append_eq, List.cons_append, List.nil_append, List.append_nil, tup]
          refine pl_back (by repeat (first | with_reducible exact Owes.nil | with_reducible refine Owes.same ?_ | with_reducible refine Owes.any ?_ | refine Owes.waived 12 (by kernel_rfl) ?_ | refine Owes.waived 9 (by kernel_rfl) ?_ | refine Owes.waived 6 (by kernel_rfl) ?_)) ?_ hd; clear hd; intro hd
          refine pl_take (i := 13) rfl (by kernel_rfl) (y_build rfl) ?_ hd; clear hd; intro hd
          refine pl_sole (i := 14) (by kernel_rfl) rfl ?_ hd; clear hd; intro hd
          refine o_alloc rfl (fun pb => ?_)
          refine pl_back (by repeat (first | with_reducible exact Owes.nil | with_reducible refine Owes.same ?_ | with_reducible refine Owes.any ?_ | refine Owes.waived 14 (by kernel_rfl) ?_ | refine Owes.waived 12 (by kernel_rfl) ?_ | refine Owes.waived 9 (by kernel_rfl) ?_ | refine Owes.waived 6 (by kernel_rfl) ?_)) ?_ hd; clear hd; intro hd
          refine pl_sole (i := 15) (by kernel_rfl) rfl ?_ hd; clear hd; intro hd
          refine o_store rfl rfl rfl frz0 ?_
          refine pl_back (by repeat (first | with_reducible exact Owes.nil | with_reducible refine Owes.same ?_ | with_reducible refine Owes.any ?_ | refine Owes.waived 15 (by kernel_rfl) ?_ | refine Owes.waived 14 (by kernel_rfl) ?_ | refine Owes.waived 12 (by kernel_rfl) ?_ | refine Owes.waived 9 (by kernel_rfl) ?_ | refine Owes.waived 6 (by kernel_rfl) ?_)) ?_ hd; clear hd; intro hd
          refine pl_done (by kernel_rfl) ?_ hd
          refine f_unlock (A := Bkp _ _ _) ?_
          rw [hv0]
          exact f_cut pb (by repeat (first | with_reducible exact Ent.nil | (apply Ent.one; focus (repeat (first | with_reducible exact Rem.here | apply Rem.there))))) (by repeat (first | exact trivial | refine ⟨rfl, ?_⟩))
        · clear hd; intro hd
          refine o_alloc rfl (fun pb => ?_)
          refine pl_back (by repeat (first | with_reducible exact Owes.nil | with_reducible refine Owes.same ?_ | with_reducible refine Owes.any ?_ | refine Owes.waived 14 (by kernel_rfl) ?_ | refine Owes.waived 9 (by kernel_rfl) ?_ | refine Owes.waived 6 (by kernel_rfl) ?_)) ?_ hd; clear hd; intro hd
          refine pl_sole (i := 12) (by kernel_rfl) rfl ?_ hd; clear hd; intro hd
          refine o_call rfl (get_f false b 10 246 246 5 (0, 0) l (by decide) (by rw [hl]; decide)) (by repeat (first | with_reducible exact Takes.nil | (apply Takes.cons; focus (repeat (first | with_reducible exact Rem.here | apply Rem.there))))) rfl ?_
          rintro _ _ ⟨rfl, rfl⟩
          simp only [List.append_eq, List.cons_append, List.nil_append, List.append_nil, tup]
          refine pl_back (by repeat (first | with_reducible exact Owes.nil | with_reducible refine Owes.same ?_ | with_reducible refine Owes.any ?_ | refine Owes.waived 12 (by kernel_rfl) ?_ | refine Owes.waived 14 (by kernel_rfl) ?_ | refine Owes.waived 9 (by kernel_rfl) ?_ | refine Owes.waived 6 (by kernel_rfl) ?_)) ?_ hd; clear hd; intro hd
          refine pl_take (i := 13) rfl (by kernel_rfl) (y_build rfl) ?_ hd; clear hd; intro hd
          refine pl_sole (i := 15) (by kernel_rfl) rfl ?_ hd; clear hd; intro hd
          refine o_store rfl rfl rfl frz0 ?_
          refine pl_back (by repeat (first | with_reducible exact Owes.nil | with_reducible refine Owes.same ?_ | with_reducible refine Owes.any ?_ | refine Owes.waived 15 (by kernel_rfl) ?_ | refine Owes.waived 12 (by kernel_rfl) ?_ | refine Owes.waived 14 (by kernel_rfl) ?_ | refine Owes.waived 9 (by kernel_rfl) ?_ | refine Owes.waived 6 (by kernel_rfl) ?_)) ?_ hd; clear hd; intro hd
          refine pl_done (by kernel_rfl) ?_ hd
          refine f_unlock (A := Bkp _ _ _) ?_
          rw [hv0]
          exact f_cut pb (by repeat (first | with_reducible exact Ent.nil | (apply Ent.one; focus (repeat (first | with_reducible exact Rem.here | apply Rem.there))))) (by repeat (first | exact trivial | refine ⟨rfl, ?_⟩))
      · clear hd; intro hd
        refine o_alloc rfl (fun pb => ?_)
        refine pl_back (by repeat (first | with_reducible exact Owes.nil | with_reducible refine Owes.same ?_ | with_reducible refine Owes.any ?_ | refine Owes.waived 14 (by kernel_rfl) ?_ | refine Owes.waived 6 (by kernel_rfl) ?_)) ?_ hd; clear hd; intro hd
        refine pl_sole (i := 9) (by kernel_rfl) rfl ?_ hd; clear hd; intro hd
        refine o_call rfl (get_f false b 6 250 250 5 (0, 0) l (by decide) (by rw [hl]; decide)) (by repeat (first | with_reducible exact Takes.nil | (apply Takes.cons; focus (repeat (first | with_reducible exact Rem.here | apply Rem.there))))) rfl ?_
        rintro _ _ ⟨rfl, rfl⟩
        simp only [List.append_eq, List.cons_append, List.nil_append, List.append_nil, tup]
        refine pl_back (by repeat (first | with_reducible exact Owes.nil | with_reducible refine Owes.same ?_ | with_reducible refine Owes.any ?_ | refine Owes.waived 9 (by kernel_rfl) ?_ | refine Owes.waived 14 (by kernel_rfl) ?_ | refine Owes.waived 6 (by kernel_rfl) ?_)) ?_ hd; clear hd; intro hd
        refine pl_sole (i := 12) (by kernel_rfl) rfl ?_ hd; clear hd; intro hd
        refine o_call rfl (get_f false b 10 246 246 5 (0, 0) l (by decide) (by rw [hl]; decide)) (by repeat (first | with_reducible exact Takes.nil | (apply Takes.cons; focus (repeat (first | with_reducible exact Rem.here | apply Rem.there))))) rfl ?_
        rintro _ _ ⟨rfl, rfl⟩
        simp only [List.append_eq, List.cons_append, List.nil_append, List.append_nil, tup]
        refine pl_back (by repeat (first | with_reducible exact Owes.nil | with_reducible refine Owes.same ?_ | with_reducible refine Owes.any ?_ | refine Owes.waived 12 (by kernel_rfl) ?_ | refine Owes.waived 9 (by kernel_rfl) ?_ | refine Owes.waived 14 (by kernel_rfl) ?_ | refine Owes.waived 6 (by kernel_rfl) ?_)) ?_ hd; clear hd; intro hd
        refine pl_take (i := 13) rfl (by kernel_rfl) (y_build rfl) ?_ hd; clear hd; intro hd
        refine pl_sole (i := 15) (by kernel_rfl) rfl ?_ hd; clear hd; intro hd
        refine o_store rfl rfl rfl frz0 ?_
        refine pl_back (by repeat (first | with_reducible exact Owes.nil | with_reducible refine Owes.same ?_ | with_reducible refine Owes.any ?_ | refine Owes.waived 15 (by kernel_rfl) ?_ | refine Owes.waived 12 (by kernel_rfl) ?_ | refine Owes.waived 9 (by kernel_rfl) ?_ | refine Owes.waived 14 (by kernel_rfl) ?_ | refine Owes.waived 6 (by kernel_rfl) ?_)) ?_ hd; clear hd; intro hd
        refine pl_done (by kernel_rfl) ?_ hd
        refine f_unlock (A := Bkp _ _ _) ?_
        rw [hv0]
        exact f_cut pb (by repeat (first | with_reducible exact Ent.nil | (apply Ent.one; focus (repeat (first | with_reducible exact Rem.here | apply Rem.there))))) (by repeat (first | exact trivial | refine ⟨rfl, ?_⟩))
    · clear hd; intro hd
      refine o_alloc rfl (fun pb => ?_)
      refine pl_back (by repeat (first | with_reducible exact Owes.nil | with_reducible refine Owes.same ?_ | with_reducible refine Owes.any ?_ | refine Owes.waived 14 (by kernel_rfl) ?_)) ?_ hd; clear hd; intro hd
      refine pl_sole (i := 6) (by kernel_rfl) rfl ?_ hd; clear hd; intro hd
      refine o_call rfl (get_f false b 2 254 254 5 (0, 0) l (by decide) (by rw [hl]; decide)) (by repeat (first | with_reducible exact Takes.nil | (apply Takes.cons; focus (repeat (first | with_reducible exact Rem.here | apply Rem.there))))) rfl ?_
      rintro _ _ ⟨rfl, rfl⟩
      simp only [List.append_eq, List.cons_append, List.nil_append, List.append_nil, tup]
      refine pl_back (by repeat (first | with_reducible exact Owes.nil | with_reducible refine Owes.same ?_ | with_reducible refine Owes.any ?_ | refine Owes.waived 6 (by kernel_rfl) ?_ | refine Owes.waived 14 (by kernel_rfl) ?_)) ?_ hd; clear hd; intro hd
      refine pl_sole (i := 9) (by kernel_rfl) rfl ?_ hd; clear hd; intro hd
      refine o_call rfl (get_f false b 6 250 250 5 (0, 0) l (by decide) (by rw [hl]; decide)) (by repeat (first | with_reducible exact Takes.nil | (apply Takes.cons; focus (repeat (first | with_reducible exact Rem.here | apply Rem.there))))) rfl ?_
      rintro _ _ ⟨rfl, rfl⟩
      simp only [List.append_eq, List.cons_append, List.nil_append, List.append_nil, tup]
      refine pl_back (by repeat (first | with_reducible exact Owes.nil | with_reducible refine Owes.same ?_ | with_reducible refine Owes.any ?_ | refine Owes.waived 9 (by kernel_rfl) ?_ | refine Owes.waived 6 (by kernel_rfl) ?_ | refine Owes.waived 14 (by kernel_rfl) ?_)) ?_ hd; clear hd; intro hd
      refine pl_sole (i := 12) (by kernel_rfl) rfl ?_ hd; clear hd; intro hd
      refine o_call rfl (get_f false b 10 246 246 5 (0, 0) l (by decide) (by rw [hl]; decide)) (by repeat (first | with_reducible exact Takes.nil | (apply Takes.cons; focus (repeat (first | with_reducible exact Rem.here | apply Rem.there))))) rfl ?_
      rintro _ _ ⟨rfl, rfl⟩
      simp only [List.append_eq, List.cons_append, List.nil_append, List.append_nil, tup]
      refine pl_back (by repeat (first | with_reducible exact Owes.nil | with_reducible refine Owes.same ?_ | with_reducible refine Owes.any ?_ | refine Owes.waived 12 (by kernel_rfl) ?_ | refine Owes.waived 9 (by kernel_rfl) ?_ | refine Owes.waived 6 (by kernel_rfl) ?_ | refine Owes.waived 14 (by kernel_rfl) ?_)) ?_ hd; clear hd; intro hd
      refine pl_take (i := 13) rfl (by kernel_rfl) (y_build rfl) ?_ hd; clear hd; intro hd
      refine pl_sole (i := 15) (by kernel_rfl) rfl ?_ hd; clear hd; intro hd
      refine o_store rfl rfl rfl frz0 ?_
      refine pl_back (by repeat (first | with_reducible exact Owes.nil | with_reducible refine Owes.same ?_ | with_reducible refine Owes.any ?_ | refine Owes.waived 15 (by kernel_rfl) ?_ | refine Owes.waived 12 (by kernel_rfl) ?_ | refine Owes.waived 9 (by kernel_rfl) ?_ | refine Owes.waived 6 (by kernel_rfl) ?_ | refine Owes.waived 14 (by kernel_rfl) ?_)) ?_ hd; clear hd; intro hd
      refine pl_done (by kernel_rfl) ?_ hd
      refine f_unlock (A := Bkp _ _ _) ?_
      rw [hv0]
      exact f_cut pb (by repeat (first | with_reducible exact Ent.nil | (apply Ent.one; focus (repeat (first | with_reducible exact Rem.here | apply Rem.there))))) (by repeat (first | exact trivial | refine ⟨rfl, ?_⟩))
  intro pb
  refine c_seq ?_
  refine c_region ?_
  refine o_y (y_move rfl) rfl ?_
  refine o_y (y_indexAddr 1 rfl rfl rfl (by decide)) rfl ?_
  refine o_y (y_load rfl rfl (byte_get (off := 0) hc1)) rfl ?_
  refine o_y (y_conv_fit c1.toNat rfl rfl (by rw [hib64, hv1]; omega)) rfl ?_
  rw [hv1]
  by_cases hn : 14 + 2 * byteAt l 1 ≤ 252
  case neg =>
    have he : pgetE l = 41 := by unfold pgetE PG.parse; rw [if_pos hsum, if_neg hn]
    refine o_y (y_assign rfl) rfl ?_
    refine o_nil ?_
    refine f_seq ?_
    refine c_seq ?_
    refine c_seq ?_
    refine c_region ?_
    refine o_y (y_move rfl) rfl ?_
    refine o_y (y_arith64 rfl rfl rfl (by omega)) rfl ?_
    refine o_y (y_arith64 rfl rfl rfl (by omega)) rfl ?_
    refine o_y (y_gtr_t rfl rfl (by omega)) rfl ?_
    refine o_nil ?_
    refine f_seq ?_
    refine c_true rfl ?_
    refine c_seq ?_
    refine c_region ?_
    refine o_y (y_build rfl) rfl ?_
    refine o_store rfl rfl rfl frz0 ?_
    refine o_y (y_assign rfl) rfl ?_
    refine o_nil ?_
    refine f_seq ?_
    refine c_ret ?_
    refine f_seq_ret ?_
    exact f_retc rfl rfl rfl rfl rfl (by repeat (first | with_reducible exact Ent.nil | (apply Ent.one; focus (repeat (first | with_reducible exact Rem.here | apply Rem.there))))) (.inl ⟨by rw [he]; decide, by rw [he]; rfl, rfl⟩)
  refine o_y (y_assign rfl) rfl ?_
  refine o_nil ?_
  refine f_seq ?_
  refine c_seq ?_
  refine c_seq ?_
  refine c_region ?_
  refine o_y (y_move rfl) rfl ?_
  refine o_y (y_arith64 rfl rfl rfl (by omega)) rfl ?_
  refine o_y (y_arith64 rfl rfl rfl (by omega)) rfl ?_
  refine o_y (y_gtr_f rfl rfl (by omega)) rfl ?_
  refine o_nil ?_
  refine f_seq ?_
  refine c_false rfl ?_
  refine c_skip ?_
  refine f_seq ?_
  refine c_seq ?_
  refine c_seq ?_
  refine c_region ?_
  refine o_y (y_move rfl) rfl ?_
  refine o_y (y_move rfl) rfl ?_
  refine o_nil ?_
  refine f_seq ?_
  refine c_block ?_
  refine c_ent (Ent.put (A := Sl 9 1 none 0 0 (([] : List Bytes).flatMap strC)) (P := []) (by repeat (first | with_reducible exact Takes.nil | (apply Takes.cons; focus (repeat (first | with_reducible exact Rem.here | apply Rem.there))))) Sl.shut_nil (Ent.refl _)) ?_
  refine c_loop_inv (X := Nat × List Bytes × Option Addr × Nat) (fun x => x.1 ≤ byteAt l 1 ∧ parseC l x.1 = some x.2.1) (fun x => byteAt l 1 - x.1)
    (fun x => [Blk pb (.cells ⟨[.int .i64 (byteAt l 0 : Int), .int .i64 (num4 (l.drop 2) : Int), .int .i64 (num4 (l.drop 6) : Int), .int .i64 (num4 (l.drop 10) : Int), .slice x.2.2.1 x.1 x.2.2.2]⟩ 65 (0, 0)), Sh b (bobj l), Sh b (bobj l), Sl 9 1 x.2.2.1 x.1 x.2.2.2 (x.2.1.flatMap strC), SumR s, Blk rb (.cells ⟨[.int .i64 0, .int .i64 0, .int .i64 0, .int .i64 0, .slice none 0 0]⟩ 65 (0, 0))])
    (fun x => [(0, .pointer (some ⟨s, 0, none⟩)), (1, pageV b), (4, .pointer (some ⟨rb, 0, none⟩)), (6, .pointer (some ⟨pb, 0, none⟩)), (52, .int .i64 (byteAt l 1 : Int)), (53, .int .i64 (x.1 : Int))]) (0, [], none, 0) ⟨Nat.zero_le _, rfl⟩ (by repeat (first | with_reducible exact Ent.nil | (apply Ent.one; focus (repeat (first | with_reducible exact Rem.here | apply Rem.there))))) (by repeat (first | exact trivial | refine ⟨rfl, ?_⟩)) ?_
  rintro ⟨i, cs, a, cap⟩ ⟨hi, hp⟩ ih
  dsimp only at hi hp ih ⊢
  obtain ⟨hlen, hlong⟩ := parseC_len hp
  by_cases hlt : i < byteAt l 1
  case neg =>
    clear ih
    have : i = byteAt l 1 := by omega
    subst this
    have hparse : PG.parse l = some ⟨byteAt l 0, num4 (l.drop 2), num4 (l.drop 6), num4 (l.drop 10), cs⟩ := by unfold PG.parse; rw [if_pos hn, hp]; rfl
    have hsm : Small cs := ⟨by omega, fun c hc => by have := hlong c hc; omega⟩
    have hE : pgetE l = if (PG.mk (byteAt l 0) (num4 (l.drop 2)) (num4 (l.drop 6)) (num4 (l.drop 10)) cs).err = 0 ∧ (PG.mk (byteAt l 0) (num4 (l.drop 2)) (num4 (l.drop 6)) (num4 (l.drop 10)) cs).bytes = l then 0 else 41 := by
      unfold pgetE; rw [if_pos hsum, hparse]
    rw [← hlen]
    refine c_ent (M := [Sl 9 1 a cs.length cap (cs.flatMap strC), Blk pb (.cells ⟨[.int .i64 (byteAt l 0 : Int), .int .i64 (num4 (l.drop 2) : Int), .int .i64 (num4 (l.drop 6) : Int), .int .i64 (num4 (l.drop 10) : Int), .slice a cs.length cap]⟩ 65 (0, 0)), Sh b (bobj l), SumR s, Blk rb (.cells ⟨[.int .i64 0, .int .i64 0, .int .i64 0, .int .i64 0, .slice none 0 0]⟩ 65 (0, 0))]) (by repeat (first | with_reducible exact Ent.nil | (apply Ent.one; focus (repeat (first | with_reducible exact Rem.here | apply Rem.there))))) ?_
    refine c_openWf (by repeat (first | with_reducible exact Rem.here | apply Rem.there)) (fun hwf => ?_)
    refine c_shareSl strC cs (by repeat (first | with_reducible exact Rem.here | apply Rem.there)) rfl rfl ?_
    have hput := pput_f s false ⟨byteAt l 0, num4 (l.drop 2), num4 (l.drop 6), num4 (l.drop 10), cs⟩ a cap hsm
    have hbl := bytes_len ⟨byteAt l 0, num4 (l.drop 2), num4 (l.drop 6), num4 (l.drop 10), cs⟩
    generalize hpe : PG.mk (byteAt l 0) (num4 (l.drop 2)) (num4 (l.drop 6)) (num4 (l.drop 10)) cs = p at hE hparse hput hbl
    have hpc : p.cells = cs := by rw [← hpe]
    refine c_seq ?_
    refine c_region ?_
    refine o_y (y_lss_f rfl rfl (by omega)) rfl ?_
    refine o_nil ?_
    refine f_seq ?_
    refine c_seq ?_
    refine c_false rfl ?_
    refine c_exit ?_
    refine f_seq_exit ?_
    refine f_seq_exit ?_
    refine f_block_here ?_
    refine f_seq ?_
    refine c_seq ?_
    refine c_seq ?_
    refine c_region ?_
    refine o_y (y_move rfl) rfl ?_
    refine o_y (y_loadN rfl rfl rfl) rfl ?_
    refine o_call rfl (show Fn Tryz.prog 78 [.pointer (some ⟨s, 0, none⟩), .agg ⟨[.int .i64 (byteAt l 0 : Int), .int .i64 (num4 (l.drop 2) : Int), .int .i64 (num4 (l.drop 6) : Int), .int .i64 (num4 (l.drop 10) : Int), .slice a cs.length cap]⟩] [SumR s, RowA false strC 1 a cs] _ from by
      have := hput; rw [← hpe] at this; exact this) (by repeat (first | with_reducible exact Takes.nil | (apply Takes.cons; focus (repeat (first | with_reducible exact Rem.here | apply Rem.there))))) rfl ?_
    rw [hpe]
    rintro _ _ (⟨hne, rfl, rfl⟩ | ⟨he0, nb, rfl, rfl⟩)
    · have he : pgetE l = 41 := by rw [hE, if_neg (fun h => hne h.1)]
      simp only [List.append_eq, List.cons_append, List.nil_append, List.append_nil, tup]
      refine o_y (y_move rfl) rfl ?_
      refine o_y (y_extract rfl rfl) rfl ?_
      refine o_y (y_extract rfl rfl) rfl ?_
      refine o_y (y_assign rfl) rfl ?_
      refine o_y (y_assign rfl) rfl ?_
      refine o_nil ?_
      refine f_seq ?_
      refine c_seq ?_
      refine c_region ?_
      refine o_y (y_move rfl) rfl ?_
      refine o_y (y_neq_t rfl rfl (by omega)) rfl ?_
      refine o_y (y_move rfl) rfl ?_
      refine o_skip rfl rfl ?_
      refine o_skip rfl rfl ?_
      refine o_skip rfl rfl ?_
      refine o_skip rfl rfl ?_
      refine o_y (y_pick_t rfl rfl) rfl ?_
      refine o_nil ?_
      refine f_seq ?_
      refine c_true rfl ?_
      refine c_seq ?_
      refine c_region ?_
      refine o_y (y_build rfl) rfl ?_
      refine o_store rfl rfl rfl frz0 ?_
      refine o_y (y_assign rfl) rfl ?_
      refine o_nil ?_
      refine f_seq ?_
      refine c_ret ?_
      refine f_seq_ret ?_
      exact f_retc rfl rfl rfl rfl rfl (by repeat (first | with_reducible exact Ent.nil | (apply Ent.one; focus (repeat (first | with_reducible exact Rem.here | apply Rem.there))))) (.inl ⟨by rw [he]; decide, by rw [he]; rfl, rfl⟩)
    · simp only [List.append_eq, List.cons_append, List.nil_append, List.append_nil, tup]
      refine o_y (y_move rfl) rfl ?_
      refine o_y (y_extract rfl rfl) rfl ?_
      refine o_y (y_extract rfl rfl) rfl ?_
      refine o_y (y_assign rfl) rfl ?_
      refine o_y (y_assign rfl) rfl ?_
      refine o_nil ?_
      refine f_seq ?_
      refine c_seq ?_
      refine c_region ?_
      refine o_y (y_move rfl) rfl ?_
      refine o_y (y_neq_f rfl rfl (by omega)) rfl ?_
      refine o_y (y_move rfl) rfl ?_
      refine o_want rfl ?_
      refine o_y (y_move rfl) rfl ?_
      refine o_want rfl ?_
      refine o_y (y_move rfl) rfl ?_
      refine o_want rfl ?_
      have heq := equal_f nb b 0 0 256 256 true false 5 5 (0, 0) (0, 0) (p.bytes.map byteV) (l.map byteV) p.bytes l (by have := getN_front (p.bytes.map byteV) []; simpa using this) (by have := getN_front (l.map byteV) []; simpa using this)
      rw [hbl, hl] at heq
      refine o_call rfl heq (by repeat (first | with_reducible exact Takes.nil | (apply Takes.cons; focus (repeat (first | with_reducible exact Rem.here | apply Rem.there))))) rfl ?_
      rintro _ _ ⟨rfl, rfl⟩
      simp only [List.append_eq, List.cons_append, List.nil_append, List.append_nil, tup]
      by_cases hb : p.bytes = l
      · have he : pgetE l = 0 := by rw [hE, if_pos ⟨he0, hb⟩]
        rw [decide_eq_true hb]
        refine o_want rfl ?_
        refine o_y (y_not rfl) rfl ?_
        refine o_y (y_pick_f rfl rfl) rfl ?_
        refine o_nil ?_
        refine f_seq ?_
        refine c_false rfl ?_
        refine c_skip ?_
        refine f_seq ?_
        refine c_seq ?_
        refine c_region ?_
        refine o_y (y_loadN rfl rfl rfl) rfl ?_
        refine o_store rfl rfl rfl frz0 ?_
        refine o_y (y_assign rfl) rfl ?_
        refine o_nil ?_
        refine f_seq ?_
        refine c_ret ?_
        subst hpe
        exact f_retc rfl rfl rfl rfl rfl (by repeat (first | with_reducible exact Ent.nil | (apply Ent.one; focus (repeat (first | with_reducible exact Rem.here | apply Rem.there))))) (.inr ⟨he, _, a, cap, hparse, hb, he0, hwf, rfl, rfl⟩)
      · have he : pgetE l = 41 := by rw [hE, if_neg (fun h => hb h.2)]
        rw [decide_eq_false hb]
        refine o_want rfl ?_
        refine o_y (y_not rfl) rfl ?_
        refine o_y (y_pick_f rfl rfl) rfl ?_
        refine o_nil ?_
        refine f_seq ?_
        refine c_true rfl ?_
        refine c_seq ?_
        refine c_region ?_
        refine o_y (y_build rfl) rfl ?_
        refine o_store rfl rfl rfl frz0 ?_
        refine o_y (y_assign rfl) rfl ?_
        refine o_nil ?_
        refine f_seq ?_
        refine c_ret ?_
        refine f_seq_ret ?_
        exact f_retc rfl rfl rfl rfl rfl (by repeat (first | with_reducible exact Ent.nil | (apply Ent.one; focus (repeat (first | with_reducible exact Rem.here | apply Rem.there))))) (.inl ⟨by rw [he]; decide, by rw [he]; rfl, rfl⟩)
  case pos =>
  obtain ⟨c2, hc2, hv2⟩ := byteAt_get (l := l) (i := 14 + 2 * i) (by omega)
  obtain ⟨c3, hc3, hv3⟩ := byteAt_get (l := l) (i := 15 + 2 * i) (by omega)
  have hA := byteAt_lt l (14 + 2 * i)
  have hB := byteAt_lt l (15 + 2 * i)
  have hg2 : (l.map byteV)[0 + (14 + 2 * i) * 1]? = some (byteV c2) := byte_get (off := 0) (by rw [Nat.zero_add]; exact hc2)
  have hg3 : (l.map byteV)[0 + (15 + 2 * i) * 1]? = some (byteV c3) := byte_get (off := 0) (by rw [Nat.zero_add]; exact hc3)
  have hps : parseC l (i + 1) = if byteAt l (14 + 2 * i) + byteAt l (15 + 2 * i) ≤ 252 then some (cs ++ [(l.drop (byteAt l (14 + 2 * i))).take (byteAt l (15 + 2 * i))]) else none := by simp only [parseC, hp]
  rw [← hv2, ← hv3] at hps
  rw [← hv2] at hA
  rw [← hv3] at hB
  refine c_seq ?_
  refine c_region ?_
  refine o_y (y_lss_t rfl rfl (by omega)) rfl ?_
  refine o_nil ?_
  refine f_seq ?_
  refine c_seq ?_
  refine c_true rfl ?_
  refine c_skip ?_
  refine f_seq ?_
  refine c_seq ?_
  refine c_block ?_
  refine c_seq ?_
  refine c_region ?_
  refine o_y (y_move rfl) rfl ?_
  refine o_y (y_assign rfl) rfl ?_
  refine o_nil ?_
  refine f_seq ?_
  refine c_seq ?_
  refine pl_start [] Tryz.mixed ?_; intro hd
  refine pl_lock (A := Bkp _ _ _) (Rem.there Rem.here) rfl ?_ hd; intro hb0
  refine pl_take (i := 0) rfl (by kernel_rfl) (y_move rfl) ?_ hd; clear hd; intro hd
  refine pl_take (i := 1) rfl (by kernel_rfl) (y_move rfl) ?_ hd; clear hd; intro hd
  refine pl_take (i := 2) rfl (by kernel_rfl) (y_arith64 rfl rfl rfl (by omega)) ?_ hd; clear hd; intro hd
  refine pl_take (i := 3) rfl (by kernel_rfl) (y_arith64 rfl rfl rfl (by omega)) ?_ hd; clear hd; intro hd
  refine pl_take (i := 4) rfl (by kernel_rfl) (y_indexAddr (14 + 2 * i) rfl rfl (by omega) (by omega)) ?_ hd; clear hd; intro hd
  refine pl_take (i := 5) rfl (by kernel_rfl) (y_load rfl rfl hg2) ?_ hd; clear hd; intro hd
  refine pl_take (i := 6) rfl (by kernel_rfl) (y_conv_fit c2.toNat rfl rfl (by rw [hib64]; omega)) ?_ hd; clear hd; intro hd
  refine pl_take (i := 7) rfl (by kernel_rfl) (y_move rfl) ?_ hd; clear hd; intro hd
  refine pl_take (i := 8) rfl (by kernel_rfl) (y_move rfl) ?_ hd; clear hd; intro hd
  refine pl_take (i := 9) rfl (by kernel_rfl) (y_arith64 rfl rfl rfl (by omega)) ?_ hd; clear hd; intro hd
  refine pl_take (i := 10) rfl (by kernel_rfl) (y_arith64 rfl rfl rfl (by omega)) ?_ hd; clear hd; intro hd
  refine pl_take (i := 11) rfl (by kernel_rfl) (y_arith64 rfl rfl rfl (by omega)) ?_ hd; clear hd; intro hd
  refine pl_take (i := 12) rfl (by kernel_rfl) (y_indexAddr (15 + 2 * i) rfl rfl (by omega) (by omega)) ?_ hd; clear hd; intro hd
  refine pl_take (i := 13) rfl (by kernel_rfl) (y_load rfl rfl hg3) ?_ hd; clear hd; intro hd
  refine pl_take (i := 14) rfl (by kernel_rfl) (y_conv_fit c3.toNat rfl rfl (by rw [hib64]; omega)) ?_ hd; clear hd; intro hd
  refine pl_take (i := 15) rfl (by kernel_rfl) (y_assign rfl) ?_ hd; clear hd; intro hd
  refine pl_take (i := 16) rfl (by kernel_rfl) (y_assign rfl) ?_ hd; clear hd; intro hd
  refine pl_done (by kernel_rfl) ?_ hd
  refine f_unlock (A := Bkp _ _ _) ?_
  by_cases hAB : c2.toNat + c3.toNat ≤ 252
  case neg =>
    rw [if_neg hAB] at hps
    have he : pgetE l = 41 := by unfold pgetE PG.parse; rw [if_pos hsum, if_pos hn, parseC_none hps (by omega)]; rfl
    refine f_seq ?_
    refine c_seq ?_
    refine c_seq ?_
    refine c_region ?_
    refine o_y (y_move rfl) rfl ?_
    refine o_y (y_move rfl) rfl ?_
    refine o_y (y_arith64 rfl rfl rfl (by omega)) rfl ?_
    refine o_y (y_gtr_t rfl rfl (by omega)) rfl ?_
    refine o_nil ?_
    refine f_seq ?_
    refine c_true rfl ?_
    refine c_seq ?_
    refine c_region ?_
    refine o_y (y_build rfl) rfl ?_
    refine o_store rfl rfl rfl frz0 ?_
    refine o_y (y_assign rfl) rfl ?_
    refine o_nil ?_
    refine f_seq ?_
    refine c_ret ?_
    refine f_seq_ret ?_
    refine f_block_ret ?_
    refine f_seq_ret ?_
    refine f_seq_ret ?_
    refine f_block_ret ?_
    refine f_seq_ret ?_
    exact f_retc rfl rfl rfl rfl rfl (by repeat (first | with_reducible exact Ent.nil | (apply Ent.one; focus (repeat (first | with_reducible exact Rem.here | apply Rem.there))))) (.inl ⟨by rw [he]; decide, by rw [he]; rfl, rfl⟩)
  rw [if_pos hAB] at hps
  have hpart := get_part (l := l) (A := c2.toNat) (B := c3.toNat) (by omega)
  generalize (l.drop c2.toNat).take c3.toNat = cell at hps hpart
  have hfl : (cs.flatMap strC) ++ [str cell] = (cs ++ [cell]).flatMap strC := by rw [List.flatMap_append]; rfl
  refine f_seq ?_
  refine c_seq ?_
  refine c_seq ?_
  refine c_region ?_
  refine o_y (y_move rfl) rfl ?_
  refine o_y (y_move rfl) rfl ?_
  refine o_y (y_arith64 rfl rfl rfl (by omega)) rfl ?_
  refine o_y (y_gtr_f rfl rfl (by omega)) rfl ?_
  refine o_nil ?_
  refine f_seq ?_
  refine c_false rfl ?_
  refine c_skip ?_
  refine f_seq ?_
  refine c_ent (M := [Blk pb (.cells ⟨[.int .i64 (byteAt l 0 : Int), .int .i64 (num4 (l.drop 2) : Int), .int .i64 (num4 (l.drop 6) : Int), .int .i64 (num4 (l.drop 10) : Int), .slice a i cap]⟩ 65 (0, 0)), Sh b (bobj l), Sh b (bobj l), Sl 9 1 a i cap (cs.flatMap strC), SumR s, Blk rb (.cells ⟨[.int .i64 0, .int .i64 0, .int .i64 0, .int .i64 0, .slice none 0 0]⟩ 65 (0, 0))]) (by repeat (first | with_reducible exact Ent.nil | (apply Ent.one; focus (repeat (first | with_reducible exact Rem.here | apply Rem.there))))) ?_
  refine pl_start [12, 13, 15] Tryz.mixed ?_; intro hd
  refine pl_lock (A := Bkp _ _ _) Rem.here rfl ?_ hd; intro hb0
  refine pl_lock (A := Bkp _ _ _) Rem.here rfl ?_ hd; intro hb1
  refine pl_take (i := 0) rfl (by kernel_rfl) (y_fieldAddr0 rfl) ?_ hd; clear hd; intro hd
  refine pl_take (i := 1) rfl (by kernel_rfl) (y_load rfl rfl rfl) ?_ hd; clear hd; intro hd
  refine pl_take (i := 2) rfl (by kernel_rfl) (y_move rfl) ?_ hd; clear hd; intro hd
  refine pl_take (i := 3) rfl (by kernel_rfl) (y_move rfl) ?_ hd; clear hd; intro hd
  refine pl_take (i := 4) rfl (by kernel_rfl) (y_move rfl) ?_ hd; clear hd; intro hd
  refine pl_take (i := 5) rfl (by kernel_rfl) (y_move rfl) ?_ hd; clear hd; intro hd
  refine pl_take (i := 6) rfl (by kernel_rfl) (y_arith64 rfl rfl rfl (by omega)) ?_ hd; clear hd; intro hd
  refine pl_take (i := 7) rfl (by kernel_rfl) (y_move rfl) ?_ hd; clear hd; intro hd
  refine pl_take (i := 8) rfl (by kernel_rfl) (y_move rfl) ?_ hd; clear hd; intro hd
  refine pl_take (i := 9) rfl (by kernel_rfl) (y_arith64 rfl rfl rfl (by omega)) ?_ hd; clear hd; intro hd
  refine pl_take (i := 10) rfl (by kernel_rfl) (y_slice c2.toNat (c2.toNat + c3.toNat) (c2.toNat + c3.toNat) rfl rfl rfl rfl (fun _ => rfl) (by omega) (by omega) (by omega)) ?_ hd; clear hd; intro hd
  refine pl_take (i := 11) rfl (by kernel_rfl) (y_conv_str (l := cell) rfl hpart) ?_ hd; clear hd; intro hd
  refine pl_sole (i := 12) (by kernel_rfl) rfl ?_ hd; clear hd; intro hd
  refine o_buildSlice rfl rfl rfl rfl rfl (fun nb => ?_)
  refine pl_back (by repeat (first | with_reducible exact Owes.nil | with_reducible refine Owes.same ?_ | with_reducible refine Owes.any ?_ | refine Owes.waived 12 (by kernel_rfl) ?_)) ?_ hd; clear hd; intro hd
  refine pl_sole (i := 13) (by kernel_rfl) rfl ?_ hd; clear hd; intro hd
  refine o_append (k := 1) (ys := [str cell]) rfl rfl (Src.slice rfl) (by repeat (first | with_reducible exact Rem.here | apply Rem.there)) (by simp [str, Value.oneCell']) (by omega) rfl (by omega) rfl (fun a2 cap2 => ?_)
  rw [hfl]
  refine pl_back (by repeat (first | with_reducible exact Owes.nil | with_reducible refine Owes.same ?_ | with_reducible refine Owes.any ?_ | refine Owes.waived 13 (by kernel_rfl) ?_ | refine Owes.waived 12 (by kernel_rfl) ?_)) ?_ hd; clear hd; intro hd
  refine pl_take (i := 14) rfl (by kernel_rfl) (y_fieldAddr0 rfl) ?_ hd; clear hd; intro hd
  refine pl_sole (i := 15) (by kernel_rfl) rfl ?_ hd; clear hd; intro hd
  refine o_unlock (A := Bkp _ _ _) ?_
  refine o_unlock (A := Bkp _ _ _) ?_
  refine o_store rfl rfl rfl frz0 ?_
  refine pl_back (by repeat (first | with_reducible exact Owes.nil | with_reducible refine Owes.same ?_ | with_reducible refine Owes.any ?_ | refine Owes.waived 15 (by kernel_rfl) ?_ | refine Owes.waived 13 (by kernel_rfl) ?_ | refine Owes.waived 12 (by kernel_rfl) ?_)) ?_ hd; clear hd; intro hd
  refine pl_done (by kernel_rfl) ?_ hd
  refine f_block ?_
  refine f_seq ?_
  refine c_region ?_
  refine o_y (y_arith64 rfl rfl rfl (by omega)) rfl ?_
  refine o_y (y_move rfl) rfl ?_
  refine o_nil ?_
  exact f_next (by repeat (first | with_reducible exact Ent.nil | (apply Ent.one; focus (repeat (first | with_reducible exact Rem.here | apply Rem.there))))) (by repeat (first | exact trivial | refine ⟨rfl, ?_⟩)) (ih (i + 1, cs ++ [cell], a2, cap2) ⟨hlt, hps⟩ (by dsimp only; omega))
end Go.Lun

/- Package super: Check, cell. -/
namespace Go.Lun
open Go.Proofs

structure SP where
  e : Int
  root : Int
  free : Int
  pages : Int
deriving DecidableEq
abbrev SP.vals (x : SP) : List Value := [.int .i64 x.e, .int .i64 x.root, .int .i64 x.free, .int .i64 x.pages]
abbrev superO (x : SP) : Obj := .cells ⟨x.vals⟩ 29 (0, 0)
def SP.pl (x : SP) (n : Int) : Prop := n = 0 ∨ 2 ≤ n ∧ n < x.pages
instance (x : SP) (n : Int) : Decidable (x.pl n) := by unfold SP.pl; infer_instance
def SP.ok (x : SP) : Prop := 0 ≤ x.e ∧ x.e ≤ 4294967295 ∧ 2 ≤ x.pages ∧ x.pages ≤ 4096 ∧ x.pl x.root ∧ x.pl x.free
instance (x : SP) : Decidable x.ok := by unfold SP.ok; infer_instance

section
variable {P : Program} {n : Nat} {ds : List Deferred} {F : Fr} {L : List Asrt} {env : Env} {Q : Post} {ops : Array Oper} {rest : List Oper}
def yieldU (env : Env) (ops : Array Oper) (j : Nat) : Bool :=
  match ((ops[j]?).bind (·.dst)).bind (look env) with
  | some (.bool _) => false
  | some _ => true
  | none => false
theorem yieldU_eq {a : Act} (k : Ok n ds env a) {j : Nat} (h : yieldU env ops j = true) : yielded ops a.tmps j = none := by
  unfold yieldU at h; unfold yielded
  cases hj : (ops[j]?).bind (·.dst) with
  | none => rw [hj] at h; cases h
  | some t =>
    rw [hj] at h
    simp only [Option.bind_some] at h ⊢
    cases ht : look env t with
    | none => rw [ht] at h; cases h
    | some v =>
      rw [ht] at h; rw [k.val t v ht]
      cases v <;> first | rfl | cases h
/-- An operation that waits for one that was left out itself. -/
theorem o_skipU {d : Tmp} {op : Op} {ty : TypeId} {pos : String} {af : Array Edge} {j : Nat} {b : Bool} (hy : yieldU env ops j = true) (hd : fits n (some d) = true)
    (h : OpsJ P n ds F L ((d, undef) :: env) ops rest Q) : OpsJ P n ds F L env ops (⟨some d, op, ty, pos, af, some (j, b)⟩ :: rest) Q := .mk fun w a s k => by
  unfold wpList
  rw [if_neg (by simp [Region.wanted, yieldU_eq k hy])]
  exact h.out w _ s (k.put hd _)
end

theorem place_f (b : Nat) (x : SP) (k : Int) : Fn Tryz.prog 173 [.int .i64 k, .pointer (some ⟨b, 0, none⟩)] [Blk b (superO x)] (fun v L => v = .bool (decide (x.pl k)) ∧ L = [Blk b (superO x)]) := by
  refine fn_start Tryz.func173 rfl rfl rfl fun F => ?_
  by_cases h0 : k = 0
  · rw [decide_eq_true (show x.pl k from .inl h0)]
    refine c_seq ?_
    refine c_region ?_
    refine o_y (y_assign rfl) rfl ?_
    refine o_nil ?_
    refine f_seq ?_
    refine c_seq ?_
    refine c_region ?_
    refine o_y (y_move rfl) rfl ?_
    refine o_y (y_eql_t rfl rfl (by omega)) rfl ?_
    refine o_y (y_move rfl) rfl ?_
    refine o_skip rfl rfl ?_
    refine o_skip rfl rfl ?_
    refine o_skip rfl rfl ?_
    refine o_skipU rfl rfl ?_
    refine o_skipU rfl rfl ?_
    refine o_skipU rfl rfl ?_
    refine o_skipU rfl rfl ?_
    refine o_skip rfl rfl ?_
    refine o_y (y_pick_t rfl rfl) rfl ?_
    refine o_y (y_assign rfl) rfl ?_
    refine o_nil ?_
    refine f_seq ?_
    refine c_ret ?_
    exact f_ent (by repeat (first | with_reducible exact Ent.nil | (apply Ent.one; focus (repeat (first | with_reducible exact Rem.here | apply Rem.there))))) (f_ret rfl ⟨rfl, rfl⟩)
  by_cases h1 : 2 ≤ k
  · by_cases h2 : k < x.pages
    · rw [decide_eq_true (show x.pl k from .inr ⟨h1, h2⟩)]
      refine c_seq ?_
      refine c_region ?_
      refine o_y (y_assign rfl) rfl ?_
      refine o_nil ?_
      refine f_seq ?_
      refine c_seq ?_
      refine c_region ?_
      refine o_y (y_move rfl) rfl ?_
      refine o_y (y_eql_f rfl rfl (by omega)) rfl ?_
      refine o_y (y_move rfl) rfl ?_
      refine o_want rfl ?_
      refine o_y (y_move rfl) rfl ?_
      refine o_want rfl ?_
      refine o_y (y_geq_t rfl rfl (by omega)) rfl ?_
      refine o_want rfl ?_
      refine o_y (y_move rfl) rfl ?_
      refine o_want rfl ?_
      refine o_y (y_move rfl) rfl ?_
      refine o_want rfl ?_
      refine o_y (y_fieldAddr0 rfl) rfl ?_
      refine o_want rfl ?_
      refine o_y (y_load rfl rfl rfl) rfl ?_
      refine o_want rfl ?_
      refine o_y (y_lss_t rfl rfl (by omega)) rfl ?_
      refine o_want rfl ?_
      refine o_y (y_pick_t rfl rfl) rfl ?_
      refine o_y (y_pick_f rfl rfl) rfl ?_
      refine o_y (y_assign rfl) rfl ?_
      refine o_nil ?_
      refine f_seq ?_
      refine c_ret ?_
      exact f_ent (by repeat (first | with_reducible exact Ent.nil | (apply Ent.one; focus (repeat (first | with_reducible exact Rem.here | apply Rem.there))))) (f_ret rfl ⟨rfl, rfl⟩)
    · rw [decide_eq_false (show ¬ x.pl k from fun h => by rcases h with h | h <;> omega)]
      refine c_seq ?_
      refine c_region ?_
      refine o_y (y_assign rfl) rfl ?_
      refine o_nil ?_
      refine f_seq ?_
      refine c_seq ?_
      refine c_region ?_
      refine o_y (y_move rfl) rfl ?_
      refine o_y (y_eql_f rfl rfl (by omega)) rfl ?_
      refine o_y (y_move rfl) rfl ?_
      refine o_want rfl ?_
      refine o_y (y_move rfl) rfl ?_
      refine o_want rfl ?_
      refine o_y (y_geq_t rfl rfl (by omega)) rfl ?_
      refine o_want rfl ?_
      refine o_y (y_move rfl) rfl ?_
      refine o_want rfl ?_
      refine o_y (y_move rfl) rfl ?_
      refine o_want rfl ?_
      refine o_y (y_fieldAddr0 rfl) rfl ?_
      refine o_want rfl ?_
      refine o_y (y_load rfl rfl rfl) rfl ?_
      refine o_want rfl ?_
      refine o_y (y_lss_f rfl rfl (by omega)) rfl ?_
      refine o_want rfl ?_
      refine o_y (y_pick_t rfl rfl) rfl ?_
      refine o_y (y_pick_f rfl rfl) rfl ?_
      refine o_y (y_assign rfl) rfl ?_
      refine o_nil ?_
      refine f_seq ?_
      refine c_ret ?_
      exact f_ent (by repeat (first | with_reducible exact Ent.nil | (apply Ent.one; focus (repeat (first | with_reducible exact Rem.here | apply Rem.there))))) (f_ret rfl ⟨rfl, rfl⟩)
  · rw [decide_eq_false (show ¬ x.pl k from fun h => by rcases h with h | h <;> omega)]
    refine c_seq ?_
    refine c_region ?_
    refine o_y (y_assign rfl) rfl ?_
    refine o_nil ?_
    refine f_seq ?_
    refine c_seq ?_
    refine c_region ?_
    refine o_y (y_move rfl) rfl ?_
    refine o_y (y_eql_f rfl rfl (by omega)) rfl ?_
    refine o_y (y_move rfl) rfl ?_
    refine o_want rfl ?_
    refine o_y (y_move rfl) rfl ?_
    refine o_want rfl ?_
    refine o_y (y_geq_f rfl rfl (by omega)) rfl ?_
    refine o_want rfl ?_
    refine o_y (y_move rfl) rfl ?_
    refine o_skip rfl rfl ?_
    refine o_skip rfl rfl ?_
    refine o_skip rfl rfl ?_
    refine o_skip rfl rfl ?_
    refine o_want rfl ?_
    refine o_y (y_pick_f rfl rfl) rfl ?_
    refine o_y (y_pick_f rfl rfl) rfl ?_
    refine o_y (y_assign rfl) rfl ?_
    refine o_nil ?_
    refine f_seq ?_
    refine c_ret ?_
    exact f_ent (by repeat (first | with_reducible exact Ent.nil | (apply Ent.one; focus (repeat (first | with_reducible exact Rem.here | apply Rem.there))))) (f_ret rfl ⟨rfl, rfl⟩)

theorem y_makeFunc1 {P : Program} {n : Nat} {ds : List Deferred} {F : Fr} {L : List Asrt} {env : Env} {dt : Option Tmp} {ty : TypeId} {pos : String} {af : Array Edge} {g : Option (Nat × Bool)} {fn : Go.Fn} {x : Operand} {v : Value} (h : ev env x = some v) :
    Yld P n ds F L env ⟨dt, .makeFunc fn #[] #[x], ty, pos, af, g⟩ (.func fn ⟨[]⟩ ⟨[v]⟩) := y_makeFunc rfl (by simp only [evs]; rw [h])

set_option maxHeartbeats 1600000 in
theorem scheck_f (x : SP) : Fn Tryz.prog 149 [.agg ⟨x.vals⟩] [] (fun v L => v = .bool (decide x.ok) ∧ L = []) := by
  refine fn_start Tryz.func149 rfl rfl rfl fun F => ?_
  refine c_seq ?_
  refine c_region ?_
  refine o_box rfl rfl (fun xb => ?_)
  refine o_y (y_assign rfl) rfl ?_
  refine o_nil ?_
  refine f_seq ?_
  refine c_seq ?_
  refine c_region ?_
  refine o_y (y_makeFunc1 rfl) rfl ?_
  refine o_y (y_assign rfl) rfl ?_
  refine o_nil ?_
  refine f_seq ?_
  by_cases h0 : x.e < 0
  · rw [decide_eq_false (show ¬ x.ok from fun h => by have := h.1; omega)]
    refine c_seq ?_
    refine c_region ?_
    refine o_y (y_fieldAddr0 rfl) rfl ?_
    refine o_y (y_load rfl rfl rfl) rfl ?_
    refine o_y (y_geq_f rfl rfl (by omega)) rfl ?_
    refine o_y (y_move rfl) rfl ?_
    refine o_skip rfl rfl ?_
    refine o_skip rfl rfl ?_
    refine o_skip rfl rfl ?_
    refine o_y (y_pick_f rfl rfl) rfl ?_
    refine o_y (y_move rfl) rfl ?_
    refine o_skip rfl rfl ?_
    refine o_skip rfl rfl ?_
    refine o_skip rfl rfl ?_
    refine o_y (y_pick_f rfl rfl) rfl ?_
    refine o_y (y_move rfl) rfl ?_
    refine o_skip rfl rfl ?_
    refine o_skip rfl rfl ?_
    refine o_skip rfl rfl ?_
    refine o_y (y_pick_f rfl rfl) rfl ?_
    refine o_y (y_move rfl) rfl ?_
    refine o_skip rfl rfl ?_
    refine o_skip rfl rfl ?_
    refine o_skip rfl rfl ?_
    refine o_skip rfl rfl ?_
    refine o_y (y_pick_f rfl rfl) rfl ?_
    refine o_y (y_move rfl) rfl ?_
    refine o_skip rfl rfl ?_
    refine o_skip rfl rfl ?_
    refine o_skip rfl rfl ?_
    refine o_skip rfl rfl ?_
    refine o_y (y_pick_f rfl rfl) rfl ?_
    refine o_y (y_assign rfl) rfl ?_
    refine o_nil ?_
    refine f_seq ?_
    refine c_ret ?_
    exact f_ent (by repeat (first | with_reducible exact Ent.nil | (apply Ent.one; focus (repeat (first | with_reducible exact Rem.here | apply Rem.there))))) (f_ret rfl ⟨rfl, rfl⟩)
  by_cases h1 : 4294967295 < x.e
  · rw [decide_eq_false (show ¬ x.ok from fun h => by have := h.2.1; omega)]
    refine c_seq ?_
    refine c_region ?_
    refine o_y (y_fieldAddr0 rfl) rfl ?_
    refine o_y (y_load rfl rfl rfl) rfl ?_
    refine o_y (y_geq_t rfl rfl (by omega)) rfl ?_
    refine o_y (y_move rfl) rfl ?_
    refine o_want rfl ?_
    refine o_y (y_fieldAddr0 rfl) rfl ?_
    refine o_want rfl ?_
    refine o_y (y_load rfl rfl rfl) rfl ?_
    refine o_want rfl ?_
    refine o_y (y_leq_f rfl rfl (by omega)) rfl ?_
    refine o_y (y_pick_t rfl rfl) rfl ?_
    refine o_y (y_move rfl) rfl ?_
    refine o_skip rfl rfl ?_
    refine o_skip rfl rfl ?_
    refine o_skip rfl rfl ?_
    refine o_y (y_pick_f rfl rfl) rfl ?_
    refine o_y (y_move rfl) rfl ?_
    refine o_skip rfl rfl ?_
    refine o_skip rfl rfl ?_
    refine o_skip rfl rfl ?_
    refine o_y (y_pick_f rfl rfl) rfl ?_
    refine o_y (y_move rfl) rfl ?_
    refine o_skip rfl rfl ?_
    refine o_skip rfl rfl ?_
    refine o_skip rfl rfl ?_
    refine o_skip rfl rfl ?_
    refine o_y (y_pick_f rfl rfl) rfl ?_
    refine o_y (y_move rfl) rfl ?_
    refine o_skip rfl rfl ?_
    refine o_skip rfl rfl ?_
    refine o_skip rfl rfl ?_
    refine o_skip rfl rfl ?_
    refine o_y (y_pick_f rfl rfl) rfl ?_
    refine o_y (y_assign rfl) rfl ?_
    refine o_nil ?_
    refine f_seq ?_
    refine c_ret ?_
    exact f_ent (by repeat (first | with_reducible exact Ent.nil | (apply Ent.one; focus (repeat (first | with_reducible exact Rem.here | apply Rem.there))))) (f_ret rfl ⟨rfl, rfl⟩)
  by_cases h2 : x.pages < 2
  · rw [decide_eq_false (show ¬ x.ok from fun h => by have := h.2.2.1; omega)]
    refine c_seq ?_
    refine c_region ?_
    refine o_y (y_fieldAddr0 rfl) rfl ?_
    refine o_y (y_load rfl rfl rfl) rfl ?_
    refine o_y (y_geq_t rfl rfl (by omega)) rfl ?_
    refine o_y (y_move rfl) rfl ?_
    refine o_want rfl ?_
    refine o_y (y_fieldAddr0 rfl) rfl ?_
    refine o_want rfl ?_
    refine o_y (y_load rfl rfl rfl) rfl ?_
    refine o_want rfl ?_
    refine o_y (y_leq_t rfl rfl (by omega)) rfl ?_
    refine o_y (y_pick_t rfl rfl) rfl ?_
    refine o_y (y_move rfl) rfl ?_
    refine o_want rfl ?_
    refine o_y (y_fieldAddr0 rfl) rfl ?_
    refine o_want rfl ?_
    refine o_y (y_load rfl rfl rfl) rfl ?_
    refine o_want rfl ?_
    refine o_y (y_geq_f rfl rfl (by omega)) rfl ?_
    refine o_y (y_pick_t rfl rfl) rfl ?_
    refine o_y (y_move rfl) rfl ?_
    refine o_skip rfl rfl ?_
    refine o_skip rfl rfl ?_
    refine o_skip rfl rfl ?_
    refine o_y (y_pick_f rfl rfl) rfl ?_
    refine o_y (y_move rfl) rfl ?_
    refine o_skip rfl rfl ?_
    refine o_skip rfl rfl ?_
    refine o_skip rfl rfl ?_
    refine o_skip rfl rfl ?_
    refine o_y (y_pick_f rfl rfl) rfl ?_
    refine o_y (y_move rfl) rfl ?_
    refine o_skip rfl rfl ?_
    refine o_skip rfl rfl ?_
    refine o_skip rfl rfl ?_
    refine o_skip rfl rfl ?_
    refine o_y (y_pick_f rfl rfl) rfl ?_
    refine o_y (y_assign rfl) rfl ?_
    refine o_nil ?_
    refine f_seq ?_
    refine c_ret ?_
    exact f_ent (by repeat (first | with_reducible exact Ent.nil | (apply Ent.one; focus (repeat (first | with_reducible exact Rem.here | apply Rem.there))))) (f_ret rfl ⟨rfl, rfl⟩)
  by_cases h3 : 4096 < x.pages
  · rw [decide_eq_false (show ¬ x.ok from fun h => by have := h.2.2.2.1; omega)]
    refine c_seq ?_
    refine c_region ?_
    refine o_y (y_fieldAddr0 rfl) rfl ?_
    refine o_y (y_load rfl rfl rfl) rfl ?_
    refine o_y (y_geq_t rfl rfl (by omega)) rfl ?_
    refine o_y (y_move rfl) rfl ?_
    refine o_want rfl ?_
    refine o_y (y_fieldAddr0 rfl) rfl ?_
    refine o_want rfl ?_
    refine o_y (y_load rfl rfl rfl) rfl ?_
    refine o_want rfl ?_
    refine o_y (y_leq_t rfl rfl (by omega)) rfl ?_
    refine o_y (y_pick_t rfl rfl) rfl ?_
    refine o_y (y_move rfl) rfl ?_
    refine o_want rfl ?_
    refine o_y (y_fieldAddr0 rfl) rfl ?_
    refine o_want rfl ?_
    refine o_y (y_load rfl rfl rfl) rfl ?_
    refine o_want rfl ?_
    refine o_y (y_geq_t rfl rfl (by omega)) rfl ?_
    refine o_y (y_pick_t rfl rfl) rfl ?_
    refine o_y (y_move rfl) rfl ?_
    refine o_want rfl ?_
    refine o_y (y_fieldAddr0 rfl) rfl ?_
    refine o_want rfl ?_
    refine o_y (y_load rfl rfl rfl) rfl ?_
    refine o_want rfl ?_
    refine o_y (y_leq_f rfl rfl (by omega)) rfl ?_
    refine o_y (y_pick_t rfl rfl) rfl ?_
    refine o_y (y_move rfl) rfl ?_
    refine o_skip rfl rfl ?_
    refine o_skip rfl rfl ?_
    refine o_skip rfl rfl ?_
    refine o_skip rfl rfl ?_
    refine o_y (y_pick_f rfl rfl) rfl ?_
    refine o_y (y_move rfl) rfl ?_
    refine o_skip rfl rfl ?_
    refine o_skip rfl rfl ?_
    refine o_skip rfl rfl ?_
    refine o_skip rfl rfl ?_
    refine o_y (y_pick_f rfl rfl) rfl ?_
    refine o_y (y_assign rfl) rfl ?_
    refine o_nil ?_
    refine f_seq ?_
    refine c_ret ?_
    exact f_ent (by repeat (first | with_reducible exact Ent.nil | (apply Ent.one; focus (repeat (first | with_reducible exact Rem.here | apply Rem.there))))) (f_ret rfl ⟨rfl, rfl⟩)
  refine c_seq ?_
  refine c_region ?_
  refine o_y (y_fieldAddr0 rfl) rfl ?_
  refine o_y (y_load rfl rfl rfl) rfl ?_
  refine o_y (y_geq_t rfl rfl (by omega)) rfl ?_
  refine o_y (y_move rfl) rfl ?_
  refine o_want rfl ?_
  refine o_y (y_fieldAddr0 rfl) rfl ?_
  refine o_want rfl ?_
  refine o_y (y_load rfl rfl rfl) rfl ?_
  refine o_want rfl ?_
  refine o_y (y_leq_t rfl rfl (by omega)) rfl ?_
  refine o_y (y_pick_t rfl rfl) rfl ?_
  refine o_y (y_move rfl) rfl ?_
  refine o_want rfl ?_
  refine o_y (y_fieldAddr0 rfl) rfl ?_
  refine o_want rfl ?_
  refine o_y (y_load rfl rfl rfl) rfl ?_
  refine o_want rfl ?_
  refine o_y (y_geq_t rfl rfl (by omega)) rfl ?_
  refine o_y (y_pick_t rfl rfl) rfl ?_
  refine o_y (y_move rfl) rfl ?_
  refine o_want rfl ?_
  refine o_y (y_fieldAddr0 rfl) rfl ?_
  refine o_want rfl ?_
  refine o_y (y_load rfl rfl rfl) rfl ?_
  refine o_want rfl ?_
  refine o_y (y_leq_t rfl rfl (by omega)) rfl ?_
  refine o_y (y_pick_t rfl rfl) rfl ?_
  refine o_y (y_move rfl) rfl ?_
  refine o_want rfl ?_
  refine o_y (y_move rfl) rfl ?_
  refine o_want rfl ?_
  refine o_y (y_fieldAddr0 rfl) rfl ?_
  refine o_want rfl ?_
  refine o_y (y_load rfl rfl rfl) rfl ?_
  refine o_want rfl ?_
  refine o_call_val rfl rfl (place_f xb x x.root) (by repeat (first | with_reducible exact Takes.nil | (apply Takes.cons; focus (repeat (first | with_reducible exact Rem.here | apply Rem.there))))) rfl ?_
  rintro _ _ ⟨rfl, rfl⟩
  simp only [List.append_eq, List.cons_append, List.nil_append, List.append_nil, tup]
  by_cases h4 : x.pl x.root
  case neg =>
    rw [decide_eq_false h4, decide_eq_false (show ¬ x.ok from fun h => h4 h.2.2.2.2.1)]
    refine o_y (y_pick_t rfl rfl) rfl ?_
    refine o_y (y_move rfl) rfl ?_
    refine o_skip rfl rfl ?_
    refine o_skip rfl rfl ?_
    refine o_skip rfl rfl ?_
    refine o_skip rfl rfl ?_
    refine o_y (y_pick_f rfl rfl) rfl ?_
    refine o_y (y_assign rfl) rfl ?_
    refine o_nil ?_
    refine f_seq ?_
    refine c_ret ?_
    exact f_ent (by repeat (first | with_reducible exact Ent.nil | (apply Ent.one; focus (repeat (first | with_reducible exact Rem.here | apply Rem.there))))) (f_ret rfl ⟨rfl, rfl⟩)
  rw [decide_eq_true h4]
  refine o_y (y_pick_t rfl rfl) rfl ?_
  refine o_y (y_move rfl) rfl ?_
  refine o_want rfl ?_
  refine o_y (y_move rfl) rfl ?_
  refine o_want rfl ?_
  refine o_y (y_fieldAddr0 rfl) rfl ?_
  refine o_want rfl ?_
  refine o_y (y_load rfl rfl rfl) rfl ?_
  refine o_want rfl ?_
  refine o_call_val rfl rfl (place_f xb x x.free) (by repeat (first | with_reducible exact Takes.nil | (apply Takes.cons; focus (repeat (first | with_reducible exact Rem.here | apply Rem.there))))) rfl ?_
  rintro _ _ ⟨rfl, rfl⟩
  simp only [List.append_eq, List.cons_append, List.nil_append, List.append_nil, tup]
  by_cases h5 : x.pl x.free
  case neg =>
    rw [decide_eq_false h5, decide_eq_false (show ¬ x.ok from fun h => h5 h.2.2.2.2.2)]
    refine o_y (y_pick_t rfl rfl) rfl ?_
    refine o_y (y_assign rfl) rfl ?_
    refine o_nil ?_
    refine f_seq ?_
    refine c_ret ?_
    exact f_ent (by repeat (first | with_reducible exact Ent.nil | (apply Ent.one; focus (repeat (first | with_reducible exact Rem.here | apply Rem.there))))) (f_ret rfl ⟨rfl, rfl⟩)
  rw [decide_eq_true h5, decide_eq_true (show x.ok from ⟨by omega, by omega, by omega, by omega, h4, h5⟩)]
  refine o_y (y_pick_t rfl rfl) rfl ?_
  refine o_y (y_assign rfl) rfl ?_
  refine o_nil ?_
  refine f_seq ?_
  refine c_ret ?_
  exact f_ent (by repeat (first | with_reducible exact Ent.nil | (apply Ent.one; focus (repeat (first | with_reducible exact Rem.here | apply Rem.there))))) (f_ret rfl ⟨rfl, rfl⟩)

def SP.nums (x : SP) : List Nat := [x.root.toNat, x.free.toNat, x.pages.toNat]
def SP.cellB (x : SP) : Bytes := x.nums.flatMap four
theorem nums_len (l : List Nat) : (l.flatMap four).length = 4 * l.length := by
  induction l with
  | nil => rfl
  | cons a l ih => rw [List.flatMap_cons, List.length_append, ih]; simp [four]; omega
theorem four_map (u : Nat) : (four u).map byteV = [.int .u8 ((u / 2 ^ 24 % 256 : Nat) : Int), .int .u8 ((u / 2 ^ 16 % 256 : Nat) : Int), .int .u8 ((u / 2 ^ 8 % 256 : Nat) : Int), .int .u8 ((u % 256 : Nat) : Int)] := by
  simp only [four, List.map, byteN_V, Nat.pow_zero, Nat.div_one]

set_option maxHeartbeats 1600000 in
theorem cell_f (x : SP) (h1 : 0 ≤ x.root) (h2 : 0 ≤ x.free) (h3 : 0 ≤ x.pages) :
    Fn Tryz.prog 150 [.agg ⟨x.vals⟩] [] (fun v L => v = str x.cellB ∧ L = []) := by
  refine fn_start Tryz.func150 rfl rfl rfl fun F => ?_
  refine c_seq ?_
  refine c_region ?_
  refine o_box rfl rfl (fun xb => ?_)
  refine o_y (y_assign rfl) rfl ?_
  refine o_nil ?_
  refine f_seq ?_
  refine c_seq ?_
  refine c_region ?_
  refine o_y (y_assign rfl) rfl ?_
  refine o_nil ?_
  refine f_seq ?_
  refine c_seq ?_
  refine c_seq ?_
  refine c_region ?_
  refine o_y (y_fieldAddr0 rfl) rfl ?_
  refine o_y (y_load rfl rfl rfl) rfl ?_
  refine o_y (y_fieldAddr0 rfl) rfl ?_
  refine o_y (y_load rfl rfl rfl) rfl ?_
  refine o_y (y_fieldAddr0 rfl) rfl ?_
  refine o_y (y_load rfl rfl rfl) rfl ?_
  refine o_y (y_buildA (ms := [.int .i64 x.root, .int .i64 x.free, .int .i64 x.pages]) rfl rfl) rfl ?_
  refine o_y (y_move rfl) rfl ?_
  refine o_nil ?_
  refine f_seq ?_
  refine c_block ?_
  refine c_ent (Ent.put (A := Sl 5 1 none (4 * 0) 0 (((x.nums.take 0).flatMap four).map byteV)) (P := []) (by repeat (first | with_reducible exact Takes.nil | (apply Takes.cons; focus (repeat (first | with_reducible exact Rem.here | apply Rem.there))))) Sl.shut_nil (Ent.refl _)) ?_
  refine c_loop_inv (X := Nat × Option Addr × Nat) (fun y => y.1 ≤ 3) (fun y => 3 - y.1) (fun y => [Sl 5 1 y.2.1 (4 * y.1) y.2.2 (((x.nums.take y.1).flatMap four).map byteV)])
    (fun y => [(3, .slice y.2.1 (4 * y.1) y.2.2), (12, .agg ⟨[.int .i64 x.root, .int .i64 x.free, .int .i64 x.pages]⟩), (13, .int .i64 (y.1 : Int))]) (0, none, 0) (by decide) (by repeat (first | with_reducible exact Ent.nil | (apply Ent.one; focus (repeat (first | with_reducible exact Rem.here | apply Rem.there))))) (by repeat (first | exact trivial | refine ⟨rfl, ?_⟩)) ?_
  rintro ⟨i, a, cap⟩ hi ih
  dsimp only at hi ih ⊢
  by_cases hlt : i < 3
  case neg =>
    clear ih
    have : i = 3 := by omega
    subst this
    rw [show x.nums.take 3 = x.nums from rfl, show x.nums.flatMap four = x.cellB from rfl]
    have hcl : x.cellB.length = 12 := by unfold SP.cellB; rw [nums_len]; rfl
    refine c_seq ?_
    refine c_region ?_
    refine o_y (y_lss_f rfl rfl (by omega)) rfl ?_
    refine o_nil ?_
    refine f_seq ?_
    refine c_seq ?_
    refine c_false rfl ?_
    refine c_exit ?_
    refine f_seq_exit ?_
    refine f_seq_exit ?_
    refine f_block_here ?_
    refine f_seq ?_
    refine c_seq ?_
    refine c_region ?_
    refine o_y (y_move rfl) rfl ?_
    refine o_openSl (by repeat (first | with_reducible exact Rem.here | apply Rem.there)) (fun _ _ h _ => by omega) (fun b rs e1 e2 e3 e4 => ?_)
    subst e2
    refine o_y (y_conv_str (l := x.cellB) rfl (by have := getN_front (x.cellB.map byteV) rs; rw [List.length_map, hcl] at this; exact this)) rfl ?_
    refine o_y (y_assign rfl) rfl ?_
    refine o_nil ?_
    refine f_seq ?_
    refine c_ret ?_
    exact f_ent (by repeat (first | with_reducible exact Ent.nil | (apply Ent.one; focus (repeat (first | with_reducible exact Rem.here | apply Rem.there))))) (f_ret rfl ⟨rfl, rfl⟩)
  case pos =>
  obtain ⟨u, k, hk, hu, hku⟩ : ∃ u k, ([.int .i64 x.root, .int .i64 x.free, .int .i64 x.pages] : List Value)[i]? = some (.int .i64 k) ∧ x.nums[i]? = some u ∧ k = (u : Int) := by
    have : i = 0 ∨ i = 1 ∨ i = 2 := by omega
    rcases this with rfl | rfl | rfl
    · exact ⟨x.root.toNat, x.root, rfl, rfl, by omega⟩
    · exact ⟨x.free.toNat, x.free, rfl, rfl, by omega⟩
    · exact ⟨x.pages.toNat, x.pages, rfl, rfl, by omega⟩
  subst hku
  have hf : (((x.nums.take i).flatMap four).map byteV) ++ (four u).map byteV = (((x.nums.take (i + 1)).flatMap four).map byteV) := by
    rw [take_snoc' hu, List.flatMap_append, List.map_append]; simp
  refine c_seq ?_
  refine c_region ?_
  refine o_y (y_lss_t rfl rfl (by omega)) rfl ?_
  refine o_nil ?_
  refine f_seq ?_
  refine c_seq ?_
  refine c_true rfl ?_
  refine c_skip ?_
  refine f_seq ?_
  refine c_seq ?_
  refine c_block ?_
  refine c_seq ?_
  refine c_region ?_
  refine o_y (y_indexV (i := i) rfl rfl rfl rfl (by omega) hk) rfl ?_
  refine o_y (y_assign rfl) rfl ?_
  refine o_nil ?_
  refine f_seq ?_
  refine c_region ?_
  refine o_y (y_move rfl) rfl ?_
  refine o_y (y_move rfl) rfl ?_
  refine o_y (y_shr u 24 rfl rfl rfl rfl (by decide)) rfl ?_
  refine o_y (y_conv_int rfl) rfl ?_
  refine o_y (y_move rfl) rfl ?_
  refine o_y (y_shr u 16 rfl rfl rfl rfl (by decide)) rfl ?_
  refine o_y (y_conv_int rfl) rfl ?_
  refine o_y (y_move rfl) rfl ?_
  refine o_y (y_shr u 8 rfl rfl rfl rfl (by decide)) rfl ?_
  refine o_y (y_conv_int rfl) rfl ?_
  refine o_y (y_move rfl) rfl ?_
  refine o_y (y_conv_int rfl) rfl ?_
  refine o_buildSlice rfl rfl rfl rfl rfl (fun nb => ?_)
  rw [wrap_u8n, wrap_u8n, wrap_u8n, wrap_u8n, ← four_map]
  refine o_append (k := 4) (ys := (four u).map byteV) rfl rfl (Src.slice (by have := getN_front ((four u).map byteV) []; simpa [four] using this)) (by repeat (first | with_reducible exact Rem.here | apply Rem.there)) (bytes_one _) (by omega) rfl (by omega) rfl (fun a2 cap2 => ?_)
  rw [hf, show 4 * i + 4 = 4 * (i + 1) by omega]
  refine o_y (y_assign rfl) rfl ?_
  refine o_nil ?_
  refine f_block ?_
  refine f_seq ?_
  refine c_region ?_
  refine o_y (y_arith64 rfl rfl rfl (by omega)) rfl ?_
  refine o_y (y_move rfl) rfl ?_
  refine o_nil ?_
  exact f_next (by repeat (first | with_reducible exact Ent.nil | (apply Ent.one; focus (repeat (first | with_reducible exact Rem.here | apply Rem.there))))) (by repeat (first | exact trivial | refine ⟨rfl, ?_⟩)) (ih (i + 1, a2, cap2) hlt (by dsimp only; omega))
end Go.Lun

/- Package super: Put, Get, Pick, Next. -/
namespace Go.Lun
open Go.Proofs

def SP.page (x : SP) : PG := ⟨9, x.e % 2, x.e, 0, [x.cellB]⟩
theorem cellB_len (x : SP) : x.cellB.length = 12 := by unfold SP.cellB; rw [nums_len]; rfl
theorem SP.page_ok {x : SP} (h : x.ok) : x.page.ok := by
  obtain ⟨h1, h2, _⟩ := h
  unfold PG.ok SP.page
  dsimp only
  omega
theorem SP.page_fits (x : SP) : fitsP x.page.cells = true := by
  have := cellB_len x
  simp [fitsP, SP.page, room, this]
theorem SP.page_err {x : SP} (h : x.ok) : x.page.err = 0 := by unfold PG.err; rw [if_pos x.page_fits, if_pos (SP.page_ok h)]

theorem and_one (e : Int) (h : 0 ≤ e) : ((e.toNat &&& 1 : Nat) : Int) = e % 2 := by
  rw [Nat.and_one_is_mod]; omega

set_option maxHeartbeats 1600000 in
theorem sput_f (s : Nat) (x : SP) : Fn Tryz.prog 109 [.pointer (some ⟨s, 0, none⟩), .agg ⟨x.vals⟩] [SumR s]
    (fun v L => (¬ x.ok ∧ v = .tuple ⟨[.slice none 0 0, .int .i64 0, .int .i64 70]⟩ ∧ L = [SumR s]) ∨ (x.ok ∧ ∃ b, v = .tuple ⟨[pageV b, .int .i64 (x.e % 2), .int .i64 0]⟩ ∧ L = [SumR s, Blk b (bobj x.page.bytes)])) := by
  refine fn_start Tryz.func109 rfl rfl rfl fun F => ?_
  refine c_seq ?_
  refine c_region ?_
  refine o_box rfl rfl (fun xb => ?_)
  refine o_y (y_assign rfl) rfl ?_
  refine o_y (y_assign rfl) rfl ?_
  refine o_y (y_assign rfl) rfl ?_
  refine o_nil ?_
  refine f_seq ?_
  refine c_seq ?_
  refine c_seq ?_
  refine c_region ?_
  refine o_y (y_loadN rfl rfl rfl) rfl ?_
  refine o_call rfl (scheck_f x) (by repeat (first | with_reducible exact Takes.nil | (apply Takes.cons; focus (repeat (first | with_reducible exact Rem.here | apply Rem.there))))) rfl ?_
  rintro _ _ ⟨rfl, rfl⟩
  simp only [List.append_eq, List.cons_append, List.nil_append, List.append_nil, tup]
  by_cases hok : x.ok
  case neg =>
    rw [decide_eq_false hok]
    refine o_y (y_not rfl) rfl ?_
    refine o_nil ?_
    refine f_seq ?_
    refine c_true rfl ?_
    refine c_seq ?_
    refine c_region ?_
    refine o_y (y_assign rfl) rfl ?_
    refine o_y (y_assign rfl) rfl ?_
    refine o_y (y_assign rfl) rfl ?_
    refine o_nil ?_
    refine f_seq ?_
    refine c_ret ?_
    refine f_seq_ret ?_
    exact f_ent (by repeat (first | with_reducible exact Ent.nil | (apply Ent.one; focus (repeat (first | with_reducible exact Rem.here | apply Rem.there))))) (f_ret rfl (.inl ⟨hok, rfl, rfl⟩))
  case pos =>
  rw [decide_eq_true hok]
  have he := SP.page_err hok
  obtain ⟨q1, q2, q3, q4, q5, q6⟩ := hok
  have q7 : 0 ≤ x.root := by rcases q5 with h | h <;> omega
  have q8 : 0 ≤ x.free := by rcases q6 with h | h <;> omega
  refine o_y (y_not rfl) rfl ?_
  refine o_nil ?_
  refine f_seq ?_
  refine c_false rfl ?_
  refine c_skip ?_
  refine f_seq ?_
  refine c_seq ?_
  refine c_region ?_
  refine o_y (y_fieldAddr0 rfl) rfl ?_
  refine o_y (y_load rfl rfl rfl) rfl ?_
  refine o_y (y_and x.e.toNat 1 rfl rfl (by omega) rfl (by rw [hib64]; omega) (by decide)) rfl ?_
  rw [and_one x.e q1]
  refine o_y (y_assign rfl) rfl ?_
  refine o_nil ?_
  refine f_seq ?_
  refine c_seq ?_
  refine c_ent (M := [Blk xb (superO x), SumR s]) (by repeat (first | with_reducible exact Ent.nil | (apply Ent.one; focus (repeat (first | with_reducible exact Rem.here | apply Rem.there))))) ?_
  have hsm : Small x.page.cells := ⟨by simp [SP.page], fun c hc => by unfold SP.page at hc; rw [List.mem_singleton] at hc; subst hc; rw [cellB_len]; decide⟩
  refine pl_start [5, 6, 8] Tryz.mixed ?_; intro hd
  refine pl_lock (A := Blk _ _) Rem.here rfl ?_ hd; intro hb0
  refine pl_take (i := 0) rfl (by kernel_rfl) (y_move rfl) ?_ hd; clear hd; intro hd
  refine pl_take (i := 1) rfl (by kernel_rfl) (y_move rfl) ?_ hd; clear hd; intro hd
  refine pl_take (i := 2) rfl (by kernel_rfl) (y_fieldAddr0 rfl) ?_ hd; clear hd; intro hd
  refine pl_take (i := 3) rfl (by kernel_rfl) (y_load rfl rfl rfl) ?_ hd; clear hd; intro hd
  refine pl_take (i := 4) rfl (by kernel_rfl) (y_loadN rfl rfl rfl) ?_ hd; clear hd; intro hd
  refine pl_sole (i := 5) (by kernel_rfl) rfl ?_ hd; clear hd; intro hd
  refine o_call rfl (cell_f x q7 q8 (by omega)) (by repeat (first | with_reducible exact Takes.nil | (apply Takes.cons; focus (repeat (first | with_reducible exact Rem.here | apply Rem.there))))) rfl ?_
  rintro _ _ ⟨rfl, rfl⟩
  simp only [List.append_eq, List.cons_append, List.nil_append, List.append_nil, tup]
  refine pl_back (by repeat (first | with_reducible exact Owes.nil | with_reducible refine Owes.same ?_ | with_reducible refine Owes.any ?_ | refine Owes.waived 5 (by kernel_rfl) ?_)) ?_ hd; clear hd; intro hd
  refine pl_sole (i := 6) (by kernel_rfl) rfl ?_ hd; clear hd; intro hd
  refine o_buildSlice rfl rfl rfl rfl rfl (fun cb => ?_)
  refine pl_back (by repeat (first | with_reducible exact Owes.nil | with_reducible refine Owes.same ?_ | with_reducible refine Owes.any ?_ | refine Owes.waived 6 (by kernel_rfl) ?_ | refine Owes.waived 5 (by kernel_rfl) ?_)) ?_ hd; clear hd; intro hd
  refine pl_take (i := 7) rfl (by kernel_rfl) (y_build rfl) ?_ hd; clear hd; intro hd
  refine pl_sole (i := 8) (by kernel_rfl) rfl ?_ hd; clear hd; intro hd
  refine o_ent (Ent.put (A := RowA true strC 1 (some ⟨cb, 0, none⟩) x.page.cells) (P := [Blk cb (.cells ⟨[str x.cellB]⟩ 9 (0, 0))]) (by repeat (first | with_reducible exact Takes.nil | (apply Takes.cons; focus (repeat (first | with_reducible exact Rem.here | apply Rem.there))))) (RowA.shut rfl rfl) (Ent.refl _)) ?_
  refine o_call rfl (pput_f s true x.page (some ⟨cb, 0, none⟩) 1 hsm) (by repeat (first | with_reducible exact Takes.nil | (apply Takes.cons; focus (repeat (first | with_reducible exact Rem.here | apply Rem.there))))) rfl ?_
  rintro _ _ (⟨hne, rfl, rfl⟩ | ⟨-, nb, rfl, rfl⟩)
  · exact absurd he hne
  simp only [List.append_eq, List.cons_append, List.nil_append, List.append_nil, tup]
  refine pl_back (by repeat (first | with_reducible exact Owes.nil | with_reducible refine Owes.same ?_ | with_reducible refine Owes.any ?_ | refine Owes.waived 8 (by kernel_rfl) ?_ | refine Owes.waived 6 (by kernel_rfl) ?_ | refine Owes.waived 5 (by kernel_rfl) ?_)) ?_ hd; clear hd; intro hd
  refine pl_take (i := 9) rfl (by kernel_rfl) (y_move rfl) ?_ hd; clear hd; intro hd
  refine pl_take (i := 10) rfl (by kernel_rfl) (y_extract rfl rfl) ?_ hd; clear hd; intro hd
  refine pl_take (i := 11) rfl (by kernel_rfl) (y_extract rfl rfl) ?_ hd; clear hd; intro hd
  refine pl_take (i := 12) rfl (by kernel_rfl) (y_assign rfl) ?_ hd; clear hd; intro hd
  refine pl_take (i := 13) rfl (by kernel_rfl) (y_assign rfl) ?_ hd; clear hd; intro hd
  refine pl_done (by kernel_rfl) ?_ hd
  refine f_unlock (A := Blk _ _) ?_
  refine f_seq ?_
  refine c_seq ?_
  refine c_region ?_
  refine o_y (y_move rfl) rfl ?_
  refine o_y (y_move rfl) rfl ?_
  refine o_y (y_move rfl) rfl ?_
  refine o_y (y_assign rfl) rfl ?_
  refine o_y (y_assign rfl) rfl ?_
  refine o_y (y_assign rfl) rfl ?_
  refine o_nil ?_
  refine f_seq ?_
  refine c_ret ?_
  exact f_ent (by repeat (first | with_reducible exact Ent.nil | (apply Ent.one; focus (repeat (first | with_reducible exact Rem.here | apply Rem.there))))) (f_ret rfl (.inr ⟨⟨q1, q2, q3, q4, q5, q6⟩, nb, rfl, rfl⟩))

theorem or4 (a b c d : Nat) : ((((((0 * 2 ^ 8) ||| a) * 2 ^ 8) ||| b) * 2 ^ 8 ||| c) * 2 ^ 8) ||| d = (((a * 2 ^ 24) ||| (b * 2 ^ 16)) ||| (c * 2 ^ 8)) ||| d := by
  have h : ∀ x y : Nat, (x ||| y) * 2 ^ 8 = (x * 2 ^ 8) ||| (y * 2 ^ 8) := fun x y => by
    rw [← Nat.shiftLeft_eq, ← Nat.shiftLeft_eq, ← Nat.shiftLeft_eq, Nat.shiftLeft_or_distrib]
  rw [Nat.zero_mul, Nat.zero_or, h, h, h]
  have e1 : a * 2 ^ 8 * 2 ^ 8 * 2 ^ 8 = a * 2 ^ 24 := by rw [Nat.mul_assoc, Nat.mul_assoc]
  have e2 : b * 2 ^ 8 * 2 ^ 8 = b * 2 ^ 16 := by rw [Nat.mul_assoc]
  rw [e1, e2]
theorem num4_of {l : Bytes} {i : Nat} {a b c d : UInt8} (ha : l[i]? = some a) (hb : l[i + 1]? = some b) (hc : l[i + 2]? = some c) (hd : l[i + 3]? = some d) :
    (((a.toNat * 2 ^ 24) ||| (b.toNat * 2 ^ 16)) ||| (c.toNat * 2 ^ 8)) ||| d.toNat = num4 (l.drop i) := by
  have : (l.drop i).take 4 = [a, b, c, d] := by
    apply List.ext_getElem?
    intro k
    rw [List.getElem?_take]
    by_cases hk : k < 4
    · rw [if_pos hk, List.getElem?_drop]
      have : k = 0 ∨ k = 1 ∨ k = 2 ∨ k = 3 := by omega
      rcases this with rfl | rfl | rfl | rfl
      · exact ha
      · exact hb
      · exact hc
      · exact hd
    · rw [if_neg hk, List.getElem?_eq_none (by simp; omega)]
  unfold num4
  rw [this, ← or4]
  rfl

set_option maxHeartbeats 1600000 in
theorem num_f (cb : Nat) (l : Bytes) (i : Nat) (z : Int) (hz : z = (i : Int)) (hl : i + 4 ≤ l.length) (hn : l.length ≤ 1000) : Fn Tryz.prog 148 [.int .i64 z, .pointer (some ⟨cb, 0, none⟩)] [Blk cb (.cells ⟨[str l]⟩ 9 (0, 0))]
    (fun v L => v = .int .i64 (num4 (l.drop i) : Int) ∧ L = [Blk cb (.cells ⟨[str l]⟩ 9 (0, 0))]) := by
  subst hz
  refine fn_start Tryz.func148 rfl rfl rfl fun F => ?_
  obtain ⟨a, ha⟩ : ∃ c, l[i]? = some c := ⟨_, List.getElem?_eq_getElem (by omega)⟩
  obtain ⟨b, hb⟩ : ∃ c, l[i + 1]? = some c := ⟨_, List.getElem?_eq_getElem (by omega)⟩
  obtain ⟨c, hc⟩ : ∃ c, l[i + 2]? = some c := ⟨_, List.getElem?_eq_getElem (by omega)⟩
  obtain ⟨d, hd0⟩ : ∃ c, l[i + 3]? = some c := ⟨_, List.getElem?_eq_getElem (by omega)⟩
  have hn4 := num4_of ha hb hc hd0
  have la := UInt8.toNat_lt a
  have lb := UInt8.toNat_lt b
  have lc := UInt8.toNat_lt c
  have ld := UInt8.toNat_lt d
  have k1 : a.toNat * 2 ^ 24 ||| b.toNat * 2 ^ 16 < 2 ^ 40 := Nat.or_lt_two_pow (by omega) (by omega)
  have k2 : a.toNat * 2 ^ 24 ||| b.toNat * 2 ^ 16 ||| c.toNat * 2 ^ 8 < 2 ^ 40 := Nat.or_lt_two_pow k1 (by omega)
  refine c_seq ?_
  refine c_region ?_
  refine o_y (y_assign rfl) rfl ?_
  refine o_nil ?_
  refine f_seq ?_
  refine c_seq ?_
  refine pl_start [] Tryz.mixed ?_; intro hd
  refine pl_lock (A := Blk _ _) Rem.here rfl ?_ hd; intro hb0
  refine pl_take (i := 0) rfl (by kernel_rfl) (y_load rfl rfl rfl) ?_ hd; clear hd; intro hd
  refine pl_take (i := 1) rfl (by kernel_rfl) (y_move rfl) ?_ hd; clear hd; intro hd
  refine pl_take (i := 2) rfl (by kernel_rfl) (y_index_str i rfl rfl rfl ha) ?_ hd; clear hd; intro hd
  refine pl_take (i := 3) rfl (by kernel_rfl) (y_conv_fit a.toNat rfl rfl (by rw [hib64]; omega)) ?_ hd; clear hd; intro hd
  refine pl_take (i := 4) rfl (by kernel_rfl) (y_shl a.toNat 24 rfl rfl rfl rfl (by decide) (by rw [hib64]; omega)) ?_ hd; clear hd; intro hd
  refine pl_take (i := 5) rfl (by kernel_rfl) (y_load rfl rfl rfl) ?_ hd; clear hd; intro hd
  refine pl_take (i := 6) rfl (by kernel_rfl) (y_move rfl) ?_ hd; clear hd; intro hd
  refine pl_take (i := 7) rfl (by kernel_rfl) (y_arith64 rfl rfl rfl (by omega)) ?_ hd; clear hd; intro hd
  refine pl_take (i := 8) rfl (by kernel_rfl) (y_index_str (i + 1) rfl rfl rfl hb) ?_ hd; clear hd; intro hd
  refine pl_take (i := 9) rfl (by kernel_rfl) (y_conv_fit b.toNat rfl rfl (by rw [hib64]; omega)) ?_ hd; clear hd; intro hd
  refine pl_take (i := 10) rfl (by kernel_rfl) (y_shl b.toNat 16 rfl rfl rfl rfl (by decide) (by rw [hib64]; omega)) ?_ hd; clear hd; intro hd
  refine pl_take (i := 11) rfl (by kernel_rfl) (y_or (a.toNat * 2 ^ 24) (b.toNat * 2 ^ 16) rfl rfl rfl rfl (by rw [hib64]; omega) (by rw [hib64]; omega)) ?_ hd; clear hd; intro hd
  refine pl_take (i := 12) rfl (by kernel_rfl) (y_load rfl rfl rfl) ?_ hd; clear hd; intro hd
  refine pl_take (i := 13) rfl (by kernel_rfl) (y_move rfl) ?_ hd; clear hd; intro hd
  refine pl_take (i := 14) rfl (by kernel_rfl) (y_arith64 rfl rfl rfl (by omega)) ?_ hd; clear hd; intro hd
  refine pl_take (i := 15) rfl (by kernel_rfl) (y_index_str (i + 2) rfl rfl rfl hc) ?_ hd; clear hd; intro hd
  refine pl_take (i := 16) rfl (by kernel_rfl) (y_conv_fit c.toNat rfl rfl (by rw [hib64]; omega)) ?_ hd; clear hd; intro hd
  refine pl_take (i := 17) rfl (by kernel_rfl) (y_shl c.toNat 8 rfl rfl rfl rfl (by decide) (by rw [hib64]; omega)) ?_ hd; clear hd; intro hd
  refine pl_take (i := 18) rfl (by kernel_rfl) (y_or (a.toNat * 2 ^ 24 ||| b.toNat * 2 ^ 16) (c.toNat * 2 ^ 8) rfl rfl rfl rfl (by rw [hib64]; omega) (by rw [hib64]; omega)) ?_ hd; clear hd; intro hd
  refine pl_take (i := 19) rfl (by kernel_rfl) (y_load rfl rfl rfl) ?_ hd; clear hd; intro hd
  refine pl_take (i := 20) rfl (by kernel_rfl) (y_move rfl) ?_ hd; clear hd; intro hd
  refine pl_take (i := 21) rfl (by kernel_rfl) (y_arith64 rfl rfl rfl (by omega)) ?_ hd; clear hd; intro hd
  refine pl_take (i := 22) rfl (by kernel_rfl) (y_index_str (i + 3) rfl rfl rfl hd0) ?_ hd; clear hd; intro hd
  refine pl_take (i := 23) rfl (by kernel_rfl) (y_conv_fit d.toNat rfl rfl (by rw [hib64]; omega)) ?_ hd; clear hd; intro hd
  refine pl_take (i := 24) rfl (by kernel_rfl) (y_or (a.toNat * 2 ^ 24 ||| b.toNat * 2 ^ 16 ||| c.toNat * 2 ^ 8) d.toNat rfl rfl rfl rfl (by rw [hib64]; omega) (by rw [hib64]; omega)) ?_ hd; clear hd; intro hd
  refine pl_take (i := 25) rfl (by kernel_rfl) (y_assign rfl) ?_ hd; clear hd; intro hd
  refine pl_done (by kernel_rfl) ?_ hd
  refine f_unlock (A := Blk _ _) ?_
  rw [hn4]
  refine f_seq ?_
  refine c_ret ?_
  exact f_ent (by repeat (first | with_reducible exact Ent.nil | (apply Ent.one; focus (repeat (first | with_reducible exact Rem.here | apply Rem.there))))) (f_ret rfl ⟨rfl, rfl⟩)
end Go.Lun

/- Package super: Get, Pick, Next. -/
namespace Go.Lun
open Go.Proofs

theorem pget_nil (s : Nat) : Fn Tryz.prog 77 [.pointer (some ⟨s, 0, none⟩), .slice none 0 0] [SumR s] (fun v L => v = .tuple ⟨[pgZero, .int .i64 41]⟩ ∧ L = [SumR s]) := by
  refine fn_start Tryz.func77 rfl rfl rfl fun F => ?_
  refine c_seq ?_
  refine c_region ?_
  refine o_alloc rfl (fun rb => ?_)
  refine o_y (y_assign rfl) rfl ?_
  refine o_nil ?_
  refine f_seq ?_
  refine c_seq ?_
  refine c_block ?_
  refine c_seq ?_
  refine c_region ?_
  refine o_y (y_move rfl) rfl ?_
  refine o_y (y_len_slice rfl) rfl ?_
  refine o_y (y_neq_t rfl rfl (by omega)) rfl ?_
  refine o_y (y_assign rfl) rfl ?_
  refine o_nil ?_
  refine f_seq ?_
  refine c_true rfl ?_
  refine c_seq ?_
  refine c_region ?_
  refine o_y (y_build rfl) rfl ?_
  refine o_store rfl rfl rfl frz0 ?_
  refine o_y (y_assign rfl) rfl ?_
  refine o_nil ?_
  refine f_seq ?_
  refine c_ret ?_
  refine f_block_ret ?_
  refine f_seq_ret ?_
  exact f_retc rfl rfl rfl rfl rfl (by repeat (first | with_reducible exact Ent.nil | (apply Ent.one; focus (repeat (first | with_reducible exact Rem.here | apply Rem.there))))) ⟨rfl, rfl⟩

def SP.zero : SP := ⟨0, 0, 0, 0⟩
def SP.of (p : PG) (c : Bytes) : SP := ⟨p.epoch, (num4 c : Int), (num4 (c.drop 4) : Int), (num4 (c.drop 8) : Int)⟩
def SP.fit (slot : Int) (p : PG) (c : Bytes) : Prop := c.length = 12 ∧ p.kind = 9 ∧ p.no = slot ∧ p.link = 0 ∧ p.epoch % 2 = slot ∧ (SP.of p c).ok
instance (slot : Int) (p : PG) (c : Bytes) : Decidable (SP.fit slot p c) := by unfold SP.fit; infer_instance
def SP.take (slot : Int) (p : PG) : Int × SP := match p.cells with
  | [c] => if SP.fit slot p c then (0, SP.of p c) else (70, SP.zero)
  | _ => (70, SP.zero)
def SP.get (slot : Int) (l : Bytes) : Int × SP := if pgetE l = 0 then (match PG.parse l with
  | some p => SP.take slot p
  | none => (70, SP.zero)) else (pgetE l, SP.zero)
theorem take_no {slot : Int} {p : PG} (h : p.cells.length ≠ 1) : SP.take slot p = (70, SP.zero) := by
  unfold SP.take
  split
  · next c hc => rw [hc] at h; simp at h
  · rfl

set_option maxHeartbeats 6400000 in
theorem sget_f (s b : Nat) (l : Bytes) (hl : l.length = 256) (slot : Int) :
    Fn Tryz.prog 107 [.pointer (some ⟨s, 0, none⟩), .int .i64 slot, pageV b] [SumR s, Sh b (bobj l)]
      (fun v L => v = .tuple ⟨[.agg ⟨(SP.get slot l).2.vals⟩, .int .i64 (SP.get slot l).1]⟩ ∧ L = [SumR s, Sh b (bobj l)]) := by
  refine fn_start Tryz.func107 rfl rfl rfl fun F => ?_
  refine c_seq ?_
  refine c_region ?_
  refine o_alloc rfl (fun rb => ?_)
  refine o_y (y_assign rfl) rfl ?_
  refine o_nil ?_
  refine f_seq ?_
  refine c_seq ?_
  refine c_region ?_
  refine o_y (y_move rfl) rfl ?_
  refine o_y (y_move rfl) rfl ?_
  refine o_call rfl (pget_f s b l hl) (by repeat (first | with_reducible exact Takes.nil | (apply Takes.cons; focus (repeat (first | with_reducible exact Rem.here | apply Rem.there))))) rfl ?_
  rintro _ _ (⟨he, rfl, rfl⟩ | ⟨he, p, a, cap, hparse, hbytes, herr, _, rfl, rfl⟩)
  · have hg : SP.get slot l = (pgetE l, SP.zero) := by unfold SP.get; rw [if_neg he]
    rw [hg]
    simp only [List.append_eq, List.cons_append, List.nil_append, List.append_nil, tup]
    refine o_y (y_move rfl) rfl ?_
    refine o_y (y_extract rfl rfl) rfl ?_
    refine o_y (y_extract rfl rfl) rfl ?_
    refine o_alloc rfl (fun nb => ?_)
    refine o_store rfl rfl rfl frz0 ?_
    refine o_y (y_assign rfl) rfl ?_
    refine o_nil ?_
    refine f_seq ?_
    refine c_seq ?_
    refine c_seq ?_
    refine c_region ?_
    refine o_y (y_move rfl) rfl ?_
    refine o_y (y_neq_t rfl rfl (by omega)) rfl ?_
    refine o_nil ?_
    refine f_seq ?_
    refine c_true rfl ?_
    refine c_seq ?_
    refine c_region ?_
    refine o_y (y_build rfl) rfl ?_
    refine o_y (y_move rfl) rfl ?_
    refine o_store rfl rfl rfl frz0 ?_
    refine o_y (y_assign rfl) rfl ?_
    refine o_nil ?_
    refine f_seq ?_
    refine c_ret ?_
    refine f_seq_ret ?_
    exact f_retc rfl rfl rfl rfl rfl (by repeat (first | with_reducible exact Ent.nil | (apply Ent.one; focus (repeat (first | with_reducible exact Rem.here | apply Rem.there))))) ⟨rfl, rfl⟩
  have hg : SP.get slot l = SP.take slot p := by unfold SP.get; rw [if_pos he, hparse]
  rw [hg]
  have hok : p.ok := by
    unfold PG.err at herr
    split at herr
    · split at herr
      · assumption
      · exact absurd herr (by decide)
    · exact absurd herr (by decide)
  simp only [List.append_eq, List.cons_append, List.nil_append, List.append_nil, tup]
  by_cases hlen : p.cells.length = 1
  case neg =>
    rw [take_no hlen]
    refine o_y (y_move rfl) rfl ?_
    refine o_y (y_extract rfl rfl) rfl ?_
    refine o_y (y_extract rfl rfl) rfl ?_
    refine o_alloc rfl (fun nb => ?_)
    refine o_store rfl rfl rfl frz0 ?_
    refine o_y (y_assign rfl) rfl ?_
    refine o_nil ?_
    refine f_seq ?_
    refine c_seq ?_
    refine c_seq ?_
    refine c_region ?_
    refine o_y (y_move rfl) rfl ?_
    refine o_y (y_neq_f rfl rfl (by omega)) rfl ?_
    refine o_nil ?_
    refine f_seq ?_
    refine c_false rfl ?_
    refine c_skip ?_
    refine f_seq ?_
    refine c_seq ?_
    refine c_seq ?_
    refine c_region ?_
    refine o_y (y_fieldAddr0 rfl) rfl ?_
    refine o_y (y_load rfl rfl rfl) rfl ?_
    refine o_y (y_len_slice rfl) rfl ?_
    refine o_y (y_neq_t rfl rfl (by omega)) rfl ?_
    refine o_y (y_move rfl) rfl ?_
    refine o_skip rfl rfl ?_
    refine o_skip rfl rfl ?_
    refine o_skip rfl rfl ?_
    refine o_skip rfl rfl ?_
    refine o_skip rfl rfl ?_
    refine o_skip rfl rfl ?_
    refine o_y (y_pick_t rfl rfl) rfl ?_
    refine o_nil ?_
    refine f_seq ?_
    refine c_true rfl ?_
    refine c_seq ?_
    refine c_region ?_
    refine o_y (y_build rfl) rfl ?_
    refine o_store rfl rfl rfl frz0 ?_
    refine o_y (y_assign rfl) rfl ?_
    refine o_nil ?_
    refine f_seq ?_
    refine c_ret ?_
    refine f_seq_ret ?_
    exact f_retc rfl rfl rfl rfl rfl (by repeat (first | with_reducible exact Ent.nil | (apply Ent.one; focus (repeat (first | with_reducible exact Rem.here | apply Rem.there))))) ⟨rfl, rfl⟩
  obtain ⟨k, no, ep, lk, cells⟩ := p
  dsimp only at hlen hok ⊢
  obtain ⟨c, rfl⟩ : ∃ c, cells = [c] := List.length_eq_one_iff.1 hlen
  refine o_open (h := RowA.opens (f := strC) (List.cons_ne_nil c [])) (by repeat (first | with_reducible exact Rem.here | apply Rem.there)) (fun y hy2 => ?_)
  obtain ⟨kb, ko, cs, T, fz⟩ := y
  obtain ⟨e1, e2⟩ := hy2
  dsimp only at e1 e2
  subst e1
  have hgs := str_get e2 (i := 0) rfl
  simp only [List.append_eq, List.cons_append, List.nil_append, List.append_nil, tup]
  refine o_y (y_move rfl) rfl ?_
  refine o_y (y_extract rfl rfl) rfl ?_
  refine o_y (y_extract rfl rfl) rfl ?_
  refine o_alloc rfl (fun nb => ?_)
  refine o_store rfl rfl rfl frz0 ?_
  refine o_y (y_assign rfl) rfl ?_
  refine o_nil ?_
  refine f_seq ?_
  refine c_seq ?_
  refine c_seq ?_
  refine c_region ?_
  refine o_y (y_move rfl) rfl ?_
  refine o_y (y_neq_f rfl rfl (by omega)) rfl ?_
  refine o_nil ?_
  refine f_seq ?_
  refine c_false rfl ?_
  refine c_skip ?_
  refine f_seq ?_
  refine c_seq ?_
  refine c_seq ?_
  refine c_region ?_
  refine o_y (y_fieldAddr0 rfl) rfl ?_
  refine o_y (y_load rfl rfl rfl) rfl ?_
  refine o_y (y_len_slice rfl) rfl ?_
  refine o_y (y_cmp rfl rfl rfl) rfl ?_
  refine o_y (y_move rfl) rfl ?_
  refine o_want rfl ?_
  refine o_y (y_fieldAddr0 rfl) rfl ?_
  refine o_want rfl ?_
  refine o_y (y_load rfl rfl rfl) rfl ?_
  refine o_want rfl ?_
  refine o_y (y_indexAddr 0 rfl rfl rfl (by simp)) rfl ?_
  refine o_want rfl ?_
  refine o_y (y_load rfl rfl hgs) rfl ?_
  obtain ⟨g1, g2, g3, g4, g5, g6, g7, g8⟩ := hok
  dsimp only at g1 g2 g3 g4 g5 g6 g7 g8
  have hf : SP.take slot ⟨k, no, ep, lk, [c]⟩ = if SP.fit slot ⟨k, no, ep, lk, [c]⟩ c then (0, SP.of ⟨k, no, ep, lk, [c]⟩ c) else (70, SP.zero) := rfl
  by_cases h12 : c.length = 12
  case neg =>
    rw [hf, if_neg (fun h => h12 h.1)]
    refine o_want rfl ?_
    refine o_y (y_len_str rfl) rfl ?_
    refine o_want rfl ?_
    refine o_y (y_neq_t rfl rfl (by omega)) rfl ?_
    refine o_y (y_pick_f rfl rfl) rfl ?_
    refine o_nil ?_
    refine f_seq ?_
    refine c_true rfl ?_
    refine c_seq ?_
    refine c_region ?_
    refine o_y (y_build rfl) rfl ?_
    refine o_store rfl rfl rfl frz0 ?_
    refine o_y (y_assign rfl) rfl ?_
    refine o_nil ?_
    refine f_seq ?_
    refine c_ret ?_
    refine f_seq_ret ?_
    exact f_retc rfl rfl rfl rfl rfl (by repeat (first | with_reducible exact Ent.nil | (apply Ent.one; focus (repeat (first | with_reducible exact Rem.here | apply Rem.there))))) ⟨rfl, rfl⟩
  refine o_want rfl ?_
  refine o_y (y_len_str rfl) rfl ?_
  refine o_want rfl ?_
  refine o_y (y_neq_f rfl rfl (by omega)) rfl ?_
  refine o_y (y_pick_f rfl rfl) rfl ?_
  refine o_nil ?_
  refine f_seq ?_
  refine c_false rfl ?_
  refine c_skip ?_
  refine f_seq ?_
  refine c_seq ?_
  refine c_region ?_
  refine o_y (y_fieldAddr0 rfl) rfl ?_
  refine o_y (y_load rfl rfl rfl) rfl ?_
  refine o_y (y_indexAddr 0 rfl rfl rfl (by simp)) rfl ?_
  refine o_y (y_load rfl rfl hgs) rfl ?_
  refine o_alloc rfl (fun nb => ?_)
  refine o_store rfl rfl rfl frz0 ?_
  refine o_nil ?_
  refine f_seq ?_
  refine c_seq ?_
  refine c_region ?_
  rename_i pb
  refine o_y (y_makeFunc1 rfl) rfl ?_
  refine o_y (y_assign rfl) rfl ?_
  refine o_nil ?_
  refine f_seq ?_
  refine c_seq ?_
  have hx : SP.of ⟨k, no, ep, lk, [c]⟩ c = ⟨ep, (num4 c : Int), (num4 (c.drop 4) : Int), (num4 (c.drop 8) : Int)⟩ := rfl
  refine c_cut (X := Nat) (fun xb => [Blk xb (superO ⟨ep, (num4 (c.drop 0) : Int), (num4 (c.drop 4) : Int), (num4 (c.drop 8) : Int)⟩), Blk pb (.cells ⟨[.int .i64 k, .int .i64 no, .int .i64 ep, .int .i64 lk, .slice (some ⟨kb, ko, none⟩) [c].length cap]⟩ 65 (0, 0)), SumR s, Sh b (bobj l), Blk rb (superO ⟨0, 0, 0, 0⟩)])
    (fun xb => [(1, .int .i64 slot), (6, .pointer (some ⟨rb, 0, none⟩)), (7, .int .i64 0), (8, .pointer (some ⟨pb, 0, none⟩)), (12, .pointer (some ⟨xb, 0, none⟩))]) ?_ ?_
  · refine c_ent (M := [Blk pb (.cells ⟨[.int .i64 k, .int .i64 no, .int .i64 ep, .int .i64 lk, .slice (some ⟨kb, ko, none⟩) [c].length cap]⟩ 65 (0, 0)), Blk nb (.cells ⟨[str c]⟩ 9 (0, 0)), SumR s, Sh b (bobj l), Blk rb (superO ⟨0, 0, 0, 0⟩)]) (by repeat (first | with_reducible exact Ent.nil | (apply Ent.one; focus (repeat (first | with_reducible exact Rem.here | apply Rem.there))))) ?_
    refine pl_start [3, 5, 7, 9, 10] Tryz.mixed ?_; intro hd
    refine pl_lock (A := Blk _ _) Rem.here rfl ?_ hd; intro hb0
    refine pl_take (i := 0) rfl (by kernel_rfl) (y_fieldAddr0 rfl) ?_ hd; clear hd; intro hd
    refine pl_take (i := 1) rfl (by kernel_rfl) (y_load rfl rfl rfl) ?_ hd; clear hd; intro hd
    refine pl_take (i := 2) rfl (by kernel_rfl) (y_move rfl) ?_ hd; clear hd; intro hd
    refine pl_take (i := 4) rfl (by kernel_rfl) (y_move rfl) ?_ hd; clear hd; intro hd
    refine pl_take (i := 6) rfl (by kernel_rfl) (y_move rfl) ?_ hd; clear hd; intro hd
    refine pl_two (i := 3) (j := 9) (by kernel_rfl) rfl rfl ?_ ?_ hd
    · clear hd; intro hd
      refine o_call_val rfl rfl (num_f nb c 0 0 rfl (by omega) (by omega)) (by repeat (first | with_reducible exact Takes.nil | (apply Takes.cons; focus (repeat (first | with_reducible exact Rem.here | apply Rem.there))))) rfl ?_
      rintro _ _ ⟨rfl, rfl⟩
      simp only [List.append_eq, List.cons_append, List.nil_append, List.append_nil, tup]
      refine pl_back (by repeat (first | with_reducible exact Owes.nil | with_reducible refine Owes.same ?_ | with_reducible refine Owes.any ?_ | refine Owes.waived 3 (by kernel_rfl) ?_)) ?_ hd; clear hd; intro hd
      refine pl_two (i := 5) (j := 9) (by kernel_rfl) rfl rfl ?_ ?_ hd
      · clear hd; intro hd
        refine o_call_val rfl rfl (num_f nb c 4 4 rfl (by omega) (by omega)) (by repeat (first | with_reducible exact Takes.nil | (apply Takes.cons; focus (repeat (first | with_reducible exact Rem.here | apply Rem.there))))) rfl ?_
        rintro _ _ ⟨rfl, rfl⟩
        simp only [List.append_eq, List.cons_append, List.nil_append, List.append_nil, tup]
        refine pl_back (by repeat (first | with_reducible exact Owes.nil | with_reducible refine Owes.same ?_ | with_reducible refine Owes.any ?_ | refine Owes.waived 5 (by kernel_rfl) ?_ | refine Owes.waived 3 (by kernel_rfl) ?_)) ?_ hd; clear hd; intro hd
        refine pl_two (i := 7) (j := 9) (by kernel_rfl) rfl rfl ?_ ?_ hd
        · clear hd; intro hd
          refine o_call_val rfl rfl (num_f nb c 8 8 rfl (by omega) (by omega)) (by repeat (first | with_reducible exact Takes.nil | (apply Takes.cons; focus (repeat (first | with_reducible exact Rem.here | apply Rem.there))))) rfl ?_
          rintro _ _ ⟨rfl, rfl⟩
          simp only [List.append_eq, List.cons_append, List.nil_append, List.append_nil, tup]
          refine pl_back (by repeat (first | with_reducible exact Owes.nil | with_reducible refine Owes.same ?_ | with_reducible refine Owes.any ?_ | refine Owes.waived 7 (by kernel_rfl) ?_ | refine Owes.waived 5 (by kernel_rfl) ?_ | refine Owes.waived 3 (by kernel_rfl) ?_)) ?_ hd; clear hd; intro hd
          refine pl_take (i := 8) rfl (by kernel_rfl) (y_build rfl) ?_ hd; clear hd; intro hd
          refine pl_sole (i := 9) (by kernel_rfl) rfl ?_ hd; clear hd; intro hd
          refine o_alloc rfl (fun xb => ?_)
          refine pl_back (by repeat (first | with_reducible exact Owes.nil | with_reducible refine Owes.same ?_ | with_reducible refine Owes.any ?_ | refine Owes.waived 9 (by kernel_rfl) ?_ | refine Owes.waived 7 (by kernel_rfl) ?_ | refine Owes.waived 5 (by kernel_rfl) ?_ | refine Owes.waived 3 (by kernel_rfl) ?_)) ?_ hd; clear hd; intro hd
          refine pl_sole (i := 10) (by kernel_rfl) rfl ?_ hd; clear hd; intro hd
          refine o_store rfl rfl rfl frz0 ?_
          refine pl_back (by repeat (first | with_reducible exact Owes.nil | with_reducible refine Owes.same ?_ | with_reducible refine Owes.any ?_ | refine Owes.waived 10 (by kernel_rfl) ?_ | refine Owes.waived 9 (by kernel_rfl) ?_ | refine Owes.waived 7 (by kernel_rfl) ?_ | refine Owes.waived 5 (by kernel_rfl) ?_ | refine Owes.waived 3 (by kernel_rfl) ?_)) ?_ hd; clear hd; intro hd
          refine pl_done (by kernel_rfl) ?_ hd
          refine f_unlock (A := Blk _ _) ?_
          exact f_cut xb (by repeat (first | with_reducible exact Ent.nil | (apply Ent.one; focus (repeat (first | with_reducible exact Rem.here | apply Rem.there))))) (by repeat (first | exact trivial | refine ⟨rfl, ?_⟩))
        · clear hd; intro hd
          refine o_alloc rfl (fun xb => ?_)
          refine pl_back (by repeat (first | with_reducible exact Owes.nil | with_reducible refine Owes.same ?_ | with_reducible refine Owes.any ?_ | refine Owes.waived 9 (by kernel_rfl) ?_ | refine Owes.waived 5 (by kernel_rfl) ?_ | refine Owes.waived 3 (by kernel_rfl) ?_)) ?_ hd; clear hd; intro hd
          refine pl_sole (i := 7) (by kernel_rfl) rfl ?_ hd; clear hd; intro hd
          refine o_call_val rfl rfl (num_f nb c 8 8 rfl (by omega) (by omega)) (by repeat (first | with_reducible exact Takes.nil | (apply Takes.cons; focus (repeat (first | with_reducible exact Rem.here | apply Rem.there))))) rfl ?_
          rintro _ _ ⟨rfl, rfl⟩
          simp only [List.append_eq, List.cons_append, List.nil_append, List.append_nil, tup]
          refine pl_back (by repeat (first | with_reducible exact Owes.nil | with_reducible refine Owes.same ?_ | with_reducible refine Owes.any ?_ | refine Owes.waived 7 (by kernel_rfl) ?_ | refine Owes.waived 9 (by kernel_rfl) ?_ | refine Owes.waived 5 (by kernel_rfl) ?_ | refine Owes.waived 3 (by kernel_rfl) ?_)) ?_ hd; clear hd; intro hd
          refine pl_take (i := 8) rfl (by kernel_rfl) (y_build rfl) ?_ hd; clear hd; intro hd
          refine pl_sole (i := 10) (by kernel_rfl) rfl ?_ hd; clear hd; intro hd
          refine o_store rfl rfl rfl frz0 ?_
          refine pl_back (by repeat (first | with_reducible exact Owes.nil | with_reducible refine Owes.same ?_ | with_reducible refine Owes.any ?_ | refine Owes.waived 10 (by kernel_rfl) ?_ | refine Owes.waived 7 (by kernel_rfl) ?_ | refine Owes.waived 9 (by kernel_rfl) ?_ | refine Owes.waived 5 (by kernel_rfl) ?_ | refine Owes.waived 3 (by kernel_rfl) ?_)) ?_ hd; clear hd; intro hd
          refine pl_done (by kernel_rfl) ?_ hd
          refine f_unlock (A := Blk _ _) ?_
          exact f_cut xb (by repeat (first | with_reducible exact Ent.nil | (apply Ent.one; focus (repeat (first | with_reducible exact Rem.here | apply Rem.there))))) (by repeat (first | exact trivial | refine ⟨rfl, ?_⟩))
      · clear hd; intro hd
        refine o_alloc rfl (fun xb => ?_)
        refine pl_back (by repeat (first | with_reducible exact Owes.nil | with_reducible refine Owes.same ?_ | with_reducible refine Owes.any ?_ | refine Owes.waived 9 (by kernel_rfl) ?_ | refine Owes.waived 3 (by kernel_rfl) ?_)) ?_ hd; clear hd; intro hd
        refine pl_sole (i := 5) (by kernel_rfl) rfl ?_ hd; clear hd; intro hd
        refine o_call_val rfl rfl (num_f nb c 4 4 rfl (by omega) (by omega)) (by repeat (first | with_reducible exact Takes.nil | (apply Takes.cons; focus (repeat (first | with_reducible exact Rem.here | apply Rem.there))))) rfl ?_
        rintro _ _ ⟨rfl, rfl⟩
        simp only [List.append_eq, List.cons_append, List.nil_append, List.append_nil, tup]
        refine pl_back (by repeat (first | with_reducible exact Owes.nil | with_reducible refine Owes.same ?_ | with_reducible refine Owes.any ?_ | refine Owes.waived 5 (by kernel_rfl) ?_ | refine Owes.waived 9 (by kernel_rfl) ?_ | refine Owes.waived 3 (by kernel_rfl) ?_)) ?_ hd; clear hd; intro hd
        refine pl_sole (i := 7) (by kernel_rfl) rfl ?_ hd; clear hd; intro hd
        refine o_call_val rfl rfl (num_f nb c 8 8 rfl (by omega) (by omega)) (by repeat (first | with_reducible exact Takes.nil | (apply Takes.cons; focus (repeat (first | with_reducible exact Rem.here | apply Rem.there))))) rfl ?_
        rintro _ _ ⟨rfl, rfl⟩
        simp only [List.append_eq, List.cons_append, List.nil_append, List.append_nil, tup]
        refine pl_back (by repeat (first | with_reducible exact Owes.nil | with_reducible refine Owes.same ?_ | with_reducible refine Owes.any ?_ | refine Owes.waived 7 (by kernel_rfl) ?_ | refine Owes.waived 5 (by kernel_rfl) ?_ | refine Owes.waived 9 (by kernel_rfl) ?_ | refine Owes.waived 3 (by kernel_rfl) ?_)) ?_ hd; clear hd; intro hd
        refine pl_take (i := 8) rfl (by kernel_rfl) (y_build rfl) ?_ hd; clear hd; intro hd
        refine pl_sole (i := 10) (by kernel_rfl) rfl ?_ hd; clear hd; intro hd
        refine o_store rfl rfl rfl frz0 ?_
        refine pl_back (by repeat (first | with_reducible exact Owes.nil | with_reducible refine Owes.same ?_ | with_reducible refine Owes.any ?_ | refine Owes.waived 10 (by kernel_rfl) ?_ | refine Owes.waived 7 (by kernel_rfl) ?_ | refine Owes.waived 5 (by kernel_rfl) ?_ | refine Owes.waived 9 (by kernel_rfl) ?_ | refine Owes.waived 3 (by kernel_rfl) ?_)) ?_ hd; clear hd; intro hd
        refine pl_done (by kernel_rfl) ?_ hd
        refine f_unlock (A := Blk _ _) ?_
        exact f_cut xb (by repeat (first | with_reducible exact Ent.nil | (apply Ent.one; focus (repeat (first | with_reducible exact Rem.here | apply Rem.there))))) (by repeat (first | exact trivial | refine ⟨rfl, ?_⟩))
    · clear hd; intro hd
      refine o_alloc rfl (fun xb => ?_)
      refine pl_back (by repeat (first | with_reducible exact Owes.nil | with_reducible refine Owes.same ?_ | with_reducible refine Owes.any ?_ | refine Owes.waived 9 (by kernel_rfl) ?_)) ?_ hd; clear hd; intro hd
      refine pl_sole (i := 3) (by kernel_rfl) rfl ?_ hd; clear hd; intro hd
      refine o_call_val rfl rfl (num_f nb c 0 0 rfl (by omega) (by omega)) (by repeat (first | with_reducible exact Takes.nil | (apply Takes.cons; focus (repeat (first | with_reducible exact Rem.here | apply Rem.there))))) rfl ?_
      rintro _ _ ⟨rfl, rfl⟩
      simp only [List.append_eq, List.cons_append, List.nil_append, List.append_nil, tup]
      refine pl_back (by repeat (first | with_reducible exact Owes.nil | with_reducible refine Owes.same ?_ | with_reducible refine Owes.any ?_ | refine Owes.waived 3 (by kernel_rfl) ?_ | refine Owes.waived 9 (by kernel_rfl) ?_)) ?_ hd; clear hd; intro hd
      refine pl_sole (i := 5) (by kernel_rfl) rfl ?_ hd; clear hd; intro hd
      refine o_call_val rfl rfl (num_f nb c 4 4 rfl (by omega) (by omega)) (by repeat (first | with_reducible exact Takes.nil | (apply Takes.cons; focus (repeat (first | with_reducible exact Rem.here | apply Rem.there))))) rfl ?_
      rintro _ _ ⟨rfl, rfl⟩
      simp only [List.append_eq, List.cons_append, List.nil_append, List.append_nil, tup]
      refine pl_back (by repeat (first | with_reducible exact Owes.nil | with_reducible refine Owes.same ?_ | with_reducible refine Owes.any ?_ | refine Owes.waived 5 (by kernel_rfl) ?_ | refine Owes.waived 3 (by kernel_rfl) ?_ | refine Owes.waived 9 (by kernel_rfl) ?_)) ?_ hd; clear hd; intro hd
      refine pl_sole (i := 7) (by kernel_rfl) rfl ?_ hd; clear hd; intro hd
      refine o_call_val rfl rfl (num_f nb c 8 8 rfl (by omega) (by omega)) (by repeat (first | with_reducible exact Takes.nil | (apply Takes.cons; focus (repeat (first | with_reducible exact Rem.here | apply Rem.there))))) rfl ?_
      rintro _ _ ⟨rfl, rfl⟩
      simp only [List.append_eq, List.cons_append, List.nil_append, List.append_nil, tup]
      refine pl_back (by repeat (first | with_reducible exact Owes.nil | with_reducible refine Owes.same ?_ | with_reducible refine Owes.any ?_ | refine Owes.waived 7 (by kernel_rfl) ?_ | refine Owes.waived 5 (by kernel_rfl) ?_ | refine Owes.waived 3 (by kernel_rfl) ?_ | refine Owes.waived 9 (by kernel_rfl) ?_)) ?_ hd; clear hd; intro hd
      refine pl_take (i := 8) rfl (by kernel_rfl) (y_build rfl) ?_ hd; clear hd; intro hd
      refine pl_sole (i := 10) (by kernel_rfl) rfl ?_ hd; clear hd; intro hd
      refine o_store rfl rfl rfl frz0 ?_
      refine pl_back (by repeat (first | with_reducible exact Owes.nil | with_reducible refine Owes.same ?_ | with_reducible refine Owes.any ?_ | refine Owes.waived 10 (by kernel_rfl) ?_ | refine Owes.waived 7 (by kernel_rfl) ?_ | refine Owes.waived 5 (by kernel_rfl) ?_ | refine Owes.waived 3 (by kernel_rfl) ?_ | refine Owes.waived 9 (by kernel_rfl) ?_)) ?_ hd; clear hd; intro hd
      refine pl_done (by kernel_rfl) ?_ hd
      refine f_unlock (A := Blk _ _) ?_
      exact f_cut xb (by repeat (first | with_reducible exact Ent.nil | (apply Ent.one; focus (repeat (first | with_reducible exact Rem.here | apply Rem.there))))) (by repeat (first | exact trivial | refine ⟨rfl, ?_⟩))
  intro xb
  have fits : SP.fit slot ⟨k, no, ep, lk, [c]⟩ c → c.length = 12 ∧ k = 9 ∧ no = slot ∧ lk = 0 ∧ ep % 2 = slot ∧ (SP.mk ep (num4 c : Int) (num4 (c.drop 4) : Int) (num4 (c.drop 8) : Int)).ok := fun h => h
  rw [hf, List.drop_zero, hx]
  by_cases k1 : k = 9
  case neg =>
    rw [if_neg (fun h => k1 (fits h).2.1)]
    refine c_seq ?_
    refine c_seq ?_
    refine c_region ?_
    refine o_y (y_fieldAddr0 rfl) rfl ?_
    refine o_y (y_load rfl rfl rfl) rfl ?_
    refine o_y (y_neq_t rfl rfl (by omega)) rfl ?_
    refine o_y (y_move rfl) rfl ?_
    refine o_skip rfl rfl ?_
    refine o_skip rfl rfl ?_
    refine o_skip rfl rfl ?_
    refine o_skip rfl rfl ?_
    refine o_y (y_pick_t rfl rfl) rfl ?_
    refine o_y (y_move rfl) rfl ?_
    refine o_skip rfl rfl ?_
    refine o_skip rfl rfl ?_
    refine o_skip rfl rfl ?_
    refine o_y (y_pick_t rfl rfl) rfl ?_
    refine o_y (y_move rfl) rfl ?_
    refine o_skip rfl rfl ?_
    refine o_skip rfl rfl ?_
    refine o_skip rfl rfl ?_
    refine o_skip rfl rfl ?_
    refine o_skip rfl rfl ?_
    refine o_y (y_pick_t rfl rfl) rfl ?_
    refine o_y (y_move rfl) rfl ?_
    refine o_skip rfl rfl ?_
    refine o_skip rfl rfl ?_
    refine o_skip rfl rfl ?_
    refine o_y (y_pick_t rfl rfl) rfl ?_
    refine o_nil ?_
    refine f_seq ?_
    refine c_true rfl ?_
    refine c_seq ?_
    refine c_region ?_
    refine o_y (y_build rfl) rfl ?_
    refine o_store rfl rfl rfl frz0 ?_
    refine o_y (y_assign rfl) rfl ?_
    refine o_nil ?_
    refine f_seq ?_
    refine c_ret ?_
    refine f_seq_ret ?_
    exact f_retc rfl rfl rfl rfl rfl (by repeat (first | with_reducible exact Ent.nil | (apply Ent.one; focus (repeat (first | with_reducible exact Rem.here | apply Rem.there))))) ⟨rfl, rfl⟩
  by_cases k2 : no = slot
  case neg =>
    rw [if_neg (fun h => k2 (fits h).2.2.1)]
    refine c_seq ?_
    refine c_seq ?_
    refine c_region ?_
    refine o_y (y_fieldAddr0 rfl) rfl ?_
    refine o_y (y_load rfl rfl rfl) rfl ?_
    refine o_y (y_neq_f rfl rfl (by omega)) rfl ?_
    refine o_y (y_move rfl) rfl ?_
    refine o_want rfl ?_
    refine o_y (y_fieldAddr0 rfl) rfl ?_
    refine o_want rfl ?_
    refine o_y (y_load rfl rfl rfl) rfl ?_
    refine o_want rfl ?_
    refine o_y (y_move rfl) rfl ?_
    refine o_want rfl ?_
    refine o_y (y_neq_t rfl rfl (by omega)) rfl ?_
    refine o_y (y_pick_f rfl rfl) rfl ?_
    refine o_y (y_move rfl) rfl ?_
    refine o_skip rfl rfl ?_
    refine o_skip rfl rfl ?_
    refine o_skip rfl rfl ?_
    refine o_y (y_pick_t rfl rfl) rfl ?_
    refine o_y (y_move rfl) rfl ?_
    refine o_skip rfl rfl ?_
    refine o_skip rfl rfl ?_
    refine o_skip rfl rfl ?_
    refine o_skip rfl rfl ?_
    refine o_skip rfl rfl ?_
    refine o_y (y_pick_t rfl rfl) rfl ?_
    refine o_y (y_move rfl) rfl ?_
    refine o_skip rfl rfl ?_
    refine o_skip rfl rfl ?_
    refine o_skip rfl rfl ?_
    refine o_y (y_pick_t rfl rfl) rfl ?_
    refine o_nil ?_
    refine f_seq ?_
    refine c_true rfl ?_
    refine c_seq ?_
    refine c_region ?_
    refine o_y (y_build rfl) rfl ?_
    refine o_store rfl rfl rfl frz0 ?_
    refine o_y (y_assign rfl) rfl ?_
    refine o_nil ?_
    refine f_seq ?_
    refine c_ret ?_
    refine f_seq_ret ?_
    exact f_retc rfl rfl rfl rfl rfl (by repeat (first | with_reducible exact Ent.nil | (apply Ent.one; focus (repeat (first | with_reducible exact Rem.here | apply Rem.there))))) ⟨rfl, rfl⟩
  by_cases k3 : lk = 0
  case neg =>
    rw [if_neg (fun h => k3 (fits h).2.2.2.1)]
    refine c_seq ?_
    refine c_seq ?_
    refine c_region ?_
    refine o_y (y_fieldAddr0 rfl) rfl ?_
    refine o_y (y_load rfl rfl rfl) rfl ?_
    refine o_y (y_neq_f rfl rfl (by omega)) rfl ?_
    refine o_y (y_move rfl) rfl ?_
    refine o_want rfl ?_
    refine o_y (y_fieldAddr0 rfl) rfl ?_
    refine o_want rfl ?_
    refine o_y (y_load rfl rfl rfl) rfl ?_
    refine o_want rfl ?_
    refine o_y (y_move rfl) rfl ?_
    refine o_want rfl ?_
    refine o_y (y_neq_f rfl rfl (by omega)) rfl ?_
    refine o_y (y_pick_f rfl rfl) rfl ?_
    refine o_y (y_move rfl) rfl ?_
    refine o_want rfl ?_
    refine o_y (y_fieldAddr0 rfl) rfl ?_
    refine o_want rfl ?_
    refine o_y (y_load rfl rfl rfl) rfl ?_
    refine o_want rfl ?_
    refine o_y (y_neq_t rfl rfl (by omega)) rfl ?_
    refine o_y (y_pick_f rfl rfl) rfl ?_
    refine o_y (y_move rfl) rfl ?_
    refine o_skip rfl rfl ?_
    refine o_skip rfl rfl ?_
    refine o_skip rfl rfl ?_
    refine o_skip rfl rfl ?_
    refine o_skip rfl rfl ?_
    refine o_y (y_pick_t rfl rfl) rfl ?_
    refine o_y (y_move rfl) rfl ?_
    refine o_skip rfl rfl ?_
    refine o_skip rfl rfl ?_
    refine o_skip rfl rfl ?_
    refine o_y (y_pick_t rfl rfl) rfl ?_
    refine o_nil ?_
    refine f_seq ?_
    refine c_true rfl ?_
    refine c_seq ?_
    refine c_region ?_
    refine o_y (y_build rfl) rfl ?_
    refine o_store rfl rfl rfl frz0 ?_
    refine o_y (y_assign rfl) rfl ?_
    refine o_nil ?_
    refine f_seq ?_
    refine c_ret ?_
    refine f_seq_ret ?_
    exact f_retc rfl rfl rfl rfl rfl (by repeat (first | with_reducible exact Ent.nil | (apply Ent.one; focus (repeat (first | with_reducible exact Rem.here | apply Rem.there))))) ⟨rfl, rfl⟩
  have hand := and_one ep g5
  refine c_seq ?_
  refine c_seq ?_
  refine c_region ?_
  refine o_y (y_fieldAddr0 rfl) rfl ?_
  refine o_y (y_load rfl rfl rfl) rfl ?_
  refine o_y (y_neq_f rfl rfl (by omega)) rfl ?_
  refine o_y (y_move rfl) rfl ?_
  refine o_want rfl ?_
  refine o_y (y_fieldAddr0 rfl) rfl ?_
  refine o_want rfl ?_
  refine o_y (y_load rfl rfl rfl) rfl ?_
  refine o_want rfl ?_
  refine o_y (y_move rfl) rfl ?_
  refine o_want rfl ?_
  refine o_y (y_neq_f rfl rfl (by omega)) rfl ?_
  refine o_y (y_pick_f rfl rfl) rfl ?_
  refine o_y (y_move rfl) rfl ?_
  refine o_want rfl ?_
  refine o_y (y_fieldAddr0 rfl) rfl ?_
  refine o_want rfl ?_
  refine o_y (y_load rfl rfl rfl) rfl ?_
  refine o_want rfl ?_
  refine o_y (y_neq_f rfl rfl (by omega)) rfl ?_
  refine o_y (y_pick_f rfl rfl) rfl ?_
  refine o_y (y_move rfl) rfl ?_
  refine o_want rfl ?_
  refine o_y (y_fieldAddr0 rfl) rfl ?_
  refine o_want rfl ?_
  refine o_y (y_load rfl rfl rfl) rfl ?_
  refine o_want rfl ?_
  refine o_y (y_and ep.toNat 1 rfl rfl (by show ep = _; omega) rfl (by rw [hib64]; omega) (by decide)) rfl ?_
  rw [hand]
  by_cases k4 : ep % 2 = slot
  case neg =>
    rw [if_neg (fun h => k4 (fits h).2.2.2.2.1)]
    refine o_want rfl ?_
    refine o_y (y_move rfl) rfl ?_
    refine o_want rfl ?_
    refine o_y (y_neq_t rfl rfl (by omega)) rfl ?_
    refine o_y (y_pick_f rfl rfl) rfl ?_
    refine o_y (y_move rfl) rfl ?_
    refine o_skip rfl rfl ?_
    refine o_skip rfl rfl ?_
    refine o_skip rfl rfl ?_
    refine o_y (y_pick_t rfl rfl) rfl ?_
    refine o_nil ?_
    refine f_seq ?_
    refine c_true rfl ?_
    refine c_seq ?_
    refine c_region ?_
    refine o_y (y_build rfl) rfl ?_
    refine o_store rfl rfl rfl frz0 ?_
    refine o_y (y_assign rfl) rfl ?_
    refine o_nil ?_
    refine f_seq ?_
    refine c_ret ?_
    refine f_seq_ret ?_
    exact f_retc rfl rfl rfl rfl rfl (by repeat (first | with_reducible exact Ent.nil | (apply Ent.one; focus (repeat (first | with_reducible exact Rem.here | apply Rem.there))))) ⟨rfl, rfl⟩
  refine o_want rfl ?_
  refine o_y (y_move rfl) rfl ?_
  refine o_want rfl ?_
  refine o_y (y_neq_f rfl rfl (by omega)) rfl ?_
  refine o_y (y_pick_f rfl rfl) rfl ?_
  refine o_y (y_move rfl) rfl ?_
  refine o_want rfl ?_
  refine o_y (y_loadN rfl rfl rfl) rfl ?_
  refine o_want rfl ?_
  refine o_call rfl (scheck_f ⟨ep, (num4 c : Int), (num4 (c.drop 4) : Int), (num4 (c.drop 8) : Int)⟩) (by repeat (first | with_reducible exact Takes.nil | (apply Takes.cons; focus (repeat (first | with_reducible exact Rem.here | apply Rem.there))))) rfl ?_
  rintro _ _ ⟨rfl, rfl⟩
  simp only [List.append_eq, List.cons_append, List.nil_append, List.append_nil, tup]
  by_cases k5 : (SP.mk ep (num4 c : Int) (num4 (c.drop 4) : Int) (num4 (c.drop 8) : Int)).ok
  case neg =>
    rw [if_neg (fun h => k5 (fits h).2.2.2.2.2), decide_eq_false k5]
    refine o_want rfl ?_
    refine o_y (y_not rfl) rfl ?_
    refine o_y (y_pick_f rfl rfl) rfl ?_
    refine o_nil ?_
    refine f_seq ?_
    refine c_true rfl ?_
    refine c_seq ?_
    refine c_region ?_
    refine o_y (y_build rfl) rfl ?_
    refine o_store rfl rfl rfl frz0 ?_
    refine o_y (y_assign rfl) rfl ?_
    refine o_nil ?_
    refine f_seq ?_
    refine c_ret ?_
    refine f_seq_ret ?_
    exact f_retc rfl rfl rfl rfl rfl (by repeat (first | with_reducible exact Ent.nil | (apply Ent.one; focus (repeat (first | with_reducible exact Rem.here | apply Rem.there))))) ⟨rfl, rfl⟩
  rw [if_pos (show SP.fit slot ⟨k, no, ep, lk, [c]⟩ c from ⟨h12, k1, k2, k3, k4, k5⟩), decide_eq_true k5]
  refine o_want rfl ?_
  refine o_y (y_not rfl) rfl ?_
  refine o_y (y_pick_f rfl rfl) rfl ?_
  refine o_nil ?_
  refine f_seq ?_
  refine c_false rfl ?_
  refine c_skip ?_
  refine f_seq ?_
  refine c_seq ?_
  refine c_region ?_
  refine o_y (y_loadN rfl rfl rfl) rfl ?_
  refine o_store rfl rfl rfl frz0 ?_
  refine o_y (y_assign rfl) rfl ?_
  refine o_nil ?_
  refine f_seq ?_
  refine c_ret ?_
  exact f_retc rfl rfl rfl rfl rfl (by repeat (first | with_reducible exact Ent.nil | (apply Ent.one; focus (repeat (first | with_reducible exact Rem.here | apply Rem.there))))) ⟨rfl, rfl⟩

theorem sget_nil (s : Nat) (slot : Int) :
    Fn Tryz.prog 107 [.pointer (some ⟨s, 0, none⟩), .int .i64 slot, .slice none 0 0] [SumR s] (fun v L => v = .tuple ⟨[.agg ⟨SP.zero.vals⟩, .int .i64 41]⟩ ∧ L = [SumR s]) := by
  refine fn_start Tryz.func107 rfl rfl rfl fun F => ?_
  refine c_seq ?_
  refine c_region ?_
  refine o_alloc rfl (fun rb => ?_)
  refine o_y (y_assign rfl) rfl ?_
  refine o_nil ?_
  refine f_seq ?_
  refine c_seq ?_
  refine c_region ?_
  refine o_y (y_move rfl) rfl ?_
  refine o_y (y_move rfl) rfl ?_
  refine o_call rfl (pget_nil s) (by repeat (first | with_reducible exact Takes.nil | (apply Takes.cons; focus (repeat (first | with_reducible exact Rem.here | apply Rem.there))))) rfl ?_
  rintro _ _ ⟨rfl, rfl⟩
  simp only [List.append_eq, List.cons_append, List.nil_append, List.append_nil, tup]
  refine o_y (y_move rfl) rfl ?_
  refine o_y (y_extract rfl rfl) rfl ?_
  refine o_y (y_extract rfl rfl) rfl ?_
  refine o_alloc rfl (fun nb => ?_)
  refine o_store rfl rfl rfl frz0 ?_
  refine o_y (y_assign rfl) rfl ?_
  refine o_nil ?_
  refine f_seq ?_
  refine c_seq ?_
  refine c_seq ?_
  refine c_region ?_
  refine o_y (y_move rfl) rfl ?_
  refine o_y (y_neq_t rfl rfl (by omega)) rfl ?_
  refine o_nil ?_
  refine f_seq ?_
  refine c_true rfl ?_
  refine c_seq ?_
  refine c_region ?_
  refine o_y (y_build rfl) rfl ?_
  refine o_y (y_move rfl) rfl ?_
  refine o_store rfl rfl rfl frz0 ?_
  refine o_y (y_assign rfl) rfl ?_
  refine o_nil ?_
  refine f_seq ?_
  refine c_ret ?_
  refine f_seq_ret ?_
  exact f_retc rfl rfl rfl rfl rfl (by repeat (first | with_reducible exact Ent.nil | (apply Ent.one; focus (repeat (first | with_reducible exact Rem.here | apply Rem.there))))) ⟨rfl, rfl⟩

/-- A page's bytes that may be missing. -/
abbrev pgV : Option (Nat × Bytes) → Value
  | none => .slice none 0 0
  | some q => pageV q.1
def pgA : Option (Nat × Bytes) → Asrt
  | none => Emp
  | some q => Sh q.1 (bobj q.2)
def pgL : Option (Nat × Bytes) → Prop
  | none => True
  | some q => q.2.length = 256
def SP.getO (slot : Int) : Option (Nat × Bytes) → Int × SP
  | none => (41, SP.zero)
  | some q => SP.get slot q.2
theorem sgetO_f (s : Nat) (slot : Int) (q : Option (Nat × Bytes)) (hq : pgL q) :
    Fn Tryz.prog 107 [.pointer (some ⟨s, 0, none⟩), .int .i64 slot, pgV q] [SumR s, pgA q] (fun v L => v = .tuple ⟨[.agg ⟨(SP.getO slot q).2.vals⟩, .int .i64 (SP.getO slot q).1]⟩ ∧ L = [SumR s, pgA q]) := by
  cases q with
  | none =>
    refine (sget_nil s slot).frame (M := [Emp]) (Takes.cons Rem.here Takes.nil) fun v L h => ?_
    obtain ⟨rfl, rfl⟩ := h
    exact ⟨_, [SumR s, Emp], ⟨rfl, rfl⟩, rfl, Ent.refl _⟩
  | some q => exact sget_f s q.1 q.2 hq slot

def SP.pick (q r : Option (Nat × Bytes)) : Int × SP :=
  if (SP.getO 0 q).1 ≠ 0 ∧ (SP.getO 1 r).1 ≠ 0 then (70, SP.zero)
  else if (SP.getO 1 r).1 ≠ 0 ∨ ((SP.getO 0 q).1 = 0 ∧ (SP.getO 1 r).2.e < (SP.getO 0 q).2.e) then (0, (SP.getO 0 q).2) else (0, (SP.getO 1 r).2)
set_option maxHeartbeats 1600000 in
theorem pick_f (s : Nat) (q r : Option (Nat × Bytes)) (hq : pgL q) (hr : pgL r) :
    Fn Tryz.prog 68 [.pointer (some ⟨s, 0, none⟩), pgV q, pgV r] [SumR s, pgA q, pgA r] (fun v L => v = .tuple ⟨[.agg ⟨(SP.pick q r).2.vals⟩, .int .i64 (SP.pick q r).1]⟩ ∧ L = [SumR s, pgA q, pgA r]) := by
  refine fn_start Tryz.func68 rfl rfl rfl fun F => ?_
  have h0 := sgetO_f s 0 q hq
  have h1 := sgetO_f s 1 r hr
  unfold SP.pick
  generalize SP.getO 0 q = u at h0
  generalize SP.getO 1 r = v at h1
  obtain ⟨ue, u0, u1, u2, u3⟩ := u
  obtain ⟨ve, v0, v1, v2, v3⟩ := v
  dsimp only [SP.vals] at h0 h1 ⊢
  refine c_seq ?_
  refine c_region ?_
  refine o_alloc rfl (fun rb => ?_)
  refine o_y (y_assign rfl) rfl ?_
  refine o_nil ?_
  refine f_seq ?_
  refine c_seq ?_
  refine c_region ?_
  refine o_y (y_move rfl) rfl ?_
  refine o_y (y_move rfl) rfl ?_
  refine o_call rfl h0 (by repeat (first | with_reducible exact Takes.nil | (apply Takes.cons; focus (repeat (first | with_reducible exact Rem.here | apply Rem.there))))) rfl ?_
  rintro _ _ ⟨rfl, rfl⟩
  simp only [List.append_eq, List.cons_append, List.nil_append, List.append_nil, tup]
  refine o_y (y_move rfl) rfl ?_
  refine o_y (y_extract rfl rfl) rfl ?_
  refine o_y (y_extract rfl rfl) rfl ?_
  refine o_alloc rfl (fun nb => ?_)
  refine o_store rfl rfl rfl frz0 ?_
  refine o_y (y_assign rfl) rfl ?_
  refine o_nil ?_
  refine f_seq ?_
  refine c_seq ?_
  refine c_region ?_
  refine o_y (y_move rfl) rfl ?_
  refine o_y (y_move rfl) rfl ?_
  refine o_call rfl h1 (by repeat (first | with_reducible exact Takes.nil | (apply Takes.cons; focus (repeat (first | with_reducible exact Rem.here | apply Rem.there))))) rfl ?_
  rintro _ _ ⟨rfl, rfl⟩
  simp only [List.append_eq, List.cons_append, List.nil_append, List.append_nil, tup]
  by_cases ku : ue = 0
  · by_cases kv : ve = 0
    · by_cases hlt : v0 < u0
      · rw [if_neg (fun h => h.1 ku), if_pos (.inr ⟨ku, hlt⟩)]
        refine o_y (y_move rfl) rfl ?_
        refine o_y (y_extract rfl rfl) rfl ?_
        refine o_y (y_extract rfl rfl) rfl ?_
        refine o_alloc rfl (fun nb => ?_)
        refine o_store rfl rfl rfl frz0 ?_
        refine o_y (y_assign rfl) rfl ?_
        refine o_nil ?_
        refine f_seq ?_
        refine c_seq ?_
        refine c_block ?_
        refine c_seq ?_
        refine c_region ?_
        refine o_y (y_move rfl) rfl ?_
        refine o_y (y_neq_f rfl rfl (by omega)) rfl ?_
        refine o_y (y_move rfl) rfl ?_
        refine o_skip rfl rfl ?_
        refine o_skip rfl rfl ?_
        refine o_y (y_pick_f rfl rfl) rfl ?_
        refine o_y (y_assign rfl) rfl ?_
        refine o_nil ?_
        refine f_seq ?_
        refine c_false rfl ?_
        refine c_seq ?_
        refine c_region ?_
        refine o_y (y_move rfl) rfl ?_
        refine o_y (y_neq_f rfl rfl (by omega)) rfl ?_
        refine o_y (y_move rfl) rfl ?_
        refine o_want rfl ?_
        refine o_y (y_move rfl) rfl ?_
        refine o_want rfl ?_
        refine o_y (y_eql_t rfl rfl (by omega)) rfl ?_
        refine o_want rfl ?_
        refine o_y (y_move rfl) rfl ?_
        refine o_want rfl ?_
        refine o_y (y_fieldAddr0 rfl) rfl ?_
        refine o_want rfl ?_
        refine o_y (y_load rfl rfl rfl) rfl ?_
        refine o_want rfl ?_
        refine o_y (y_fieldAddr0 rfl) rfl ?_
        refine o_want rfl ?_
        refine o_y (y_load rfl rfl rfl) rfl ?_
        refine o_want rfl ?_
        refine o_y (y_gtr_t rfl rfl (by omega)) rfl ?_
        refine o_want rfl ?_
        refine o_y (y_pick_t rfl rfl) rfl ?_
        refine o_y (y_pick_f rfl rfl) rfl ?_
        refine o_y (y_assign rfl) rfl ?_
        refine o_nil ?_
        refine f_seq ?_
        refine c_true rfl ?_
        refine c_seq ?_
        refine c_region ?_
        refine o_y (y_loadN rfl rfl rfl) rfl ?_
        refine o_store rfl rfl rfl frz0 ?_
        refine o_y (y_assign rfl) rfl ?_
        refine o_nil ?_
        refine f_seq ?_
        refine c_ret ?_
        refine f_block_ret ?_
        refine f_seq_ret ?_
        exact f_retc rfl rfl rfl rfl rfl (by repeat (first | with_reducible exact Ent.nil | (apply Ent.one; focus (repeat (first | with_reducible exact Rem.here | apply Rem.there))))) ⟨rfl, rfl⟩
      · rw [if_neg (fun h => h.1 ku), if_neg (fun h => by rcases h with h | h; exact h kv; exact hlt h.2)]
        refine o_y (y_move rfl) rfl ?_
        refine o_y (y_extract rfl rfl) rfl ?_
        refine o_y (y_extract rfl rfl) rfl ?_
        refine o_alloc rfl (fun nb => ?_)
        refine o_store rfl rfl rfl frz0 ?_
        refine o_y (y_assign rfl) rfl ?_
        refine o_nil ?_
        refine f_seq ?_
        refine c_seq ?_
        refine c_block ?_
        refine c_seq ?_
        refine c_region ?_
        refine o_y (y_move rfl) rfl ?_
        refine o_y (y_neq_f rfl rfl (by omega)) rfl ?_
        refine o_y (y_move rfl) rfl ?_
        refine o_skip rfl rfl ?_
        refine o_skip rfl rfl ?_
        refine o_y (y_pick_f rfl rfl) rfl ?_
        refine o_y (y_assign rfl) rfl ?_
        refine o_nil ?_
        refine f_seq ?_
        refine c_false rfl ?_
        refine c_seq ?_
        refine c_region ?_
        refine o_y (y_move rfl) rfl ?_
        refine o_y (y_neq_f rfl rfl (by omega)) rfl ?_
        refine o_y (y_move rfl) rfl ?_
        refine o_want rfl ?_
        refine o_y (y_move rfl) rfl ?_
        refine o_want rfl ?_
        refine o_y (y_eql_t rfl rfl (by omega)) rfl ?_
        refine o_want rfl ?_
        refine o_y (y_move rfl) rfl ?_
        refine o_want rfl ?_
        refine o_y (y_fieldAddr0 rfl) rfl ?_
        refine o_want rfl ?_
        refine o_y (y_load rfl rfl rfl) rfl ?_
        refine o_want rfl ?_
        refine o_y (y_fieldAddr0 rfl) rfl ?_
        refine o_want rfl ?_
        refine o_y (y_load rfl rfl rfl) rfl ?_
        refine o_want rfl ?_
        refine o_y (y_gtr_f rfl rfl (by omega)) rfl ?_
        refine o_want rfl ?_
        refine o_y (y_pick_t rfl rfl) rfl ?_
        refine o_y (y_pick_f rfl rfl) rfl ?_
        refine o_y (y_assign rfl) rfl ?_
        refine o_nil ?_
        refine f_seq ?_
        refine c_false rfl ?_
        refine c_skip ?_
        refine f_block ?_
        refine f_seq ?_
        refine c_seq ?_
        refine c_region ?_
        refine o_y (y_loadN rfl rfl rfl) rfl ?_
        refine o_store rfl rfl rfl frz0 ?_
        refine o_y (y_assign rfl) rfl ?_
        refine o_nil ?_
        refine f_seq ?_
        refine c_ret ?_
        exact f_retc rfl rfl rfl rfl rfl (by repeat (first | with_reducible exact Ent.nil | (apply Ent.one; focus (repeat (first | with_reducible exact Rem.here | apply Rem.there))))) ⟨rfl, rfl⟩
    · rw [if_neg (fun h => h.1 ku), if_pos (.inl kv)]
      refine o_y (y_move rfl) rfl ?_
      refine o_y (y_extract rfl rfl) rfl ?_
      refine o_y (y_extract rfl rfl) rfl ?_
      refine o_alloc rfl (fun nb => ?_)
      refine o_store rfl rfl rfl frz0 ?_
      refine o_y (y_assign rfl) rfl ?_
      refine o_nil ?_
      refine f_seq ?_
      refine c_seq ?_
      refine c_block ?_
      refine c_seq ?_
      refine c_region ?_
      refine o_y (y_move rfl) rfl ?_
      refine o_y (y_neq_f rfl rfl (by omega)) rfl ?_
      refine o_y (y_move rfl) rfl ?_
      refine o_skip rfl rfl ?_
      refine o_skip rfl rfl ?_
      refine o_y (y_pick_f rfl rfl) rfl ?_
      refine o_y (y_assign rfl) rfl ?_
      refine o_nil ?_
      refine f_seq ?_
      refine c_false rfl ?_
      refine c_seq ?_
      refine c_region ?_
      refine o_y (y_move rfl) rfl ?_
      refine o_y (y_neq_t rfl rfl (by omega)) rfl ?_
      refine o_y (y_move rfl) rfl ?_
      refine o_skip rfl rfl ?_
      refine o_skip rfl rfl ?_
      refine o_skip rfl rfl ?_
      refine o_skipU rfl rfl ?_
      refine o_skipU rfl rfl ?_
      refine o_skipU rfl rfl ?_
      refine o_skipU rfl rfl ?_
      refine o_skipU rfl rfl ?_
      refine o_skip rfl rfl ?_
      refine o_y (y_pick_t rfl rfl) rfl ?_
      refine o_y (y_assign rfl) rfl ?_
      refine o_nil ?_
      refine f_seq ?_
      refine c_true rfl ?_
      refine c_seq ?_
      refine c_region ?_
      refine o_y (y_loadN rfl rfl rfl) rfl ?_
      refine o_store rfl rfl rfl frz0 ?_
      refine o_y (y_assign rfl) rfl ?_
      refine o_nil ?_
      refine f_seq ?_
      refine c_ret ?_
      refine f_block_ret ?_
      refine f_seq_ret ?_
      exact f_retc rfl rfl rfl rfl rfl (by repeat (first | with_reducible exact Ent.nil | (apply Ent.one; focus (repeat (first | with_reducible exact Rem.here | apply Rem.there))))) ⟨rfl, rfl⟩
  · by_cases kv : ve = 0
    · rw [if_neg (fun h => h.2 kv), if_neg (fun h => by rcases h with h | h; exact h kv; exact ku h.1)]
      refine o_y (y_move rfl) rfl ?_
      refine o_y (y_extract rfl rfl) rfl ?_
      refine o_y (y_extract rfl rfl) rfl ?_
      refine o_alloc rfl (fun nb => ?_)
      refine o_store rfl rfl rfl frz0 ?_
      refine o_y (y_assign rfl) rfl ?_
      refine o_nil ?_
      refine f_seq ?_
      refine c_seq ?_
      refine c_block ?_
      refine c_seq ?_
      refine c_region ?_
      refine o_y (y_move rfl) rfl ?_
      refine o_y (y_neq_t rfl rfl (by omega)) rfl ?_
      refine o_y (y_move rfl) rfl ?_
      refine o_want rfl ?_
      refine o_y (y_move rfl) rfl ?_
      refine o_want rfl ?_
      refine o_y (y_neq_f rfl rfl (by omega)) rfl ?_
      refine o_y (y_pick_t rfl rfl) rfl ?_
      refine o_y (y_assign rfl) rfl ?_
      refine o_nil ?_
      refine f_seq ?_
      refine c_false rfl ?_
      refine c_seq ?_
      refine c_region ?_
      refine o_y (y_move rfl) rfl ?_
      refine o_y (y_neq_f rfl rfl (by omega)) rfl ?_
      refine o_y (y_move rfl) rfl ?_
      refine o_want rfl ?_
      refine o_y (y_move rfl) rfl ?_
      refine o_want rfl ?_
      refine o_y (y_eql_f rfl rfl (by omega)) rfl ?_
      refine o_want rfl ?_
      refine o_y (y_move rfl) rfl ?_
      refine o_skip rfl rfl ?_
      refine o_skip rfl rfl ?_
      refine o_skip rfl rfl ?_
      refine o_skip rfl rfl ?_
      refine o_skip rfl rfl ?_
      refine o_want rfl ?_
      refine o_y (y_pick_f rfl rfl) rfl ?_
      refine o_y (y_pick_f rfl rfl) rfl ?_
      refine o_y (y_assign rfl) rfl ?_
      refine o_nil ?_
      refine f_seq ?_
      refine c_false rfl ?_
      refine c_skip ?_
      refine f_block ?_
      refine f_seq ?_
      refine c_seq ?_
      refine c_region ?_
      refine o_y (y_loadN rfl rfl rfl) rfl ?_
      refine o_store rfl rfl rfl frz0 ?_
      refine o_y (y_assign rfl) rfl ?_
      refine o_nil ?_
      refine f_seq ?_
      refine c_ret ?_
      exact f_retc rfl rfl rfl rfl rfl (by repeat (first | with_reducible exact Ent.nil | (apply Ent.one; focus (repeat (first | with_reducible exact Rem.here | apply Rem.there))))) ⟨rfl, rfl⟩
    · rw [if_pos ⟨ku, kv⟩]
      refine o_y (y_move rfl) rfl ?_
      refine o_y (y_extract rfl rfl) rfl ?_
      refine o_y (y_extract rfl rfl) rfl ?_
      refine o_alloc rfl (fun nb => ?_)
      refine o_store rfl rfl rfl frz0 ?_
      refine o_y (y_assign rfl) rfl ?_
      refine o_nil ?_
      refine f_seq ?_
      refine c_seq ?_
      refine c_block ?_
      refine c_seq ?_
      refine c_region ?_
      refine o_y (y_move rfl) rfl ?_
      refine o_y (y_neq_t rfl rfl (by omega)) rfl ?_
      refine o_y (y_move rfl) rfl ?_
      refine o_want rfl ?_
      refine o_y (y_move rfl) rfl ?_
      refine o_want rfl ?_
      refine o_y (y_neq_t rfl rfl (by omega)) rfl ?_
      refine o_y (y_pick_t rfl rfl) rfl ?_
      refine o_y (y_assign rfl) rfl ?_
      refine o_nil ?_
      refine f_seq ?_
      refine c_true rfl ?_
      refine c_seq ?_
      refine c_region ?_
      refine o_y (y_build rfl) rfl ?_
      refine o_store rfl rfl rfl frz0 ?_
      refine o_y (y_assign rfl) rfl ?_
      refine o_nil ?_
      refine f_seq ?_
      refine c_ret ?_
      refine f_block_ret ?_
      refine f_seq_ret ?_
      exact f_retc rfl rfl rfl rfl rfl (by repeat (first | with_reducible exact Ent.nil | (apply Ent.one; focus (repeat (first | with_reducible exact Rem.here | apply Rem.there))))) ⟨rfl, rfl⟩

theorem next_f (x : SP) (r f p : Int) (hx : -9223372036854775808 ≤ x.e) (hx2 : x.e < 9223372036854775807) :
    Fn Tryz.prog 141 [.agg ⟨x.vals⟩, .int .i64 r, .int .i64 f, .int .i64 p] [] (fun v L => v = .agg ⟨[.int .i64 (x.e + 1), .int .i64 r, .int .i64 f, .int .i64 p]⟩ ∧ L = []) := by
  refine fn_start Tryz.func141 rfl rfl rfl fun F => ?_
  refine c_seq ?_
  refine c_region ?_
  refine o_box rfl rfl (fun xb => ?_)
  refine o_alloc rfl (fun rb => ?_)
  refine o_nil ?_
  refine f_seq ?_
  refine c_seq ?_
  refine c_region ?_
  refine o_y (y_fieldAddr0 rfl) rfl ?_
  refine o_y (y_load rfl rfl rfl) rfl ?_
  refine o_y (y_arith64 rfl rfl rfl (by omega)) rfl ?_
  refine o_y (y_move rfl) rfl ?_
  refine o_y (y_move rfl) rfl ?_
  refine o_y (y_move rfl) rfl ?_
  refine o_y (y_build rfl) rfl ?_
  refine o_store rfl rfl rfl frz0 ?_
  refine o_nil ?_
  refine f_seq ?_
  refine c_ret ?_
  exact f_retc rfl rfl rfl rfl rfl (by repeat (first | with_reducible exact Ent.nil | (apply Ent.one; focus (repeat (first | with_reducible exact Rem.here | apply Rem.there))))) ⟨rfl, rfl⟩
end Go.Lun

/- Package free: rows of free pages; slices.IndexFunc, Clone, Grow, Concat of them. -/
namespace Go.Lun
open Go.Proofs

structure FR where
  p : Int
  e : Int
deriving DecidableEq
def freeC (f : FR) : List Value := [.int .i64 f.p, .int .i64 f.e]
abbrev FR.val (f : FR) : Value := .agg ⟨[.int .i64 f.p, .int .i64 f.e]⟩
theorem free_get {l : List FR} {cs : List Value} {off i : Nat} {s : FR} (h : getN cs off (l.length * 2) = some (l.flatMap freeC)) (hs : l[i]? = some s) : getN cs (off + i * 2) 2 = some [.int .i64 s.p, .int .i64 s.e] :=
  getN_sub h (flat_get freeC 2 (fun _ => rfl) hs)
theorem free_one (l : List FR) : ∀ u ∈ l.flatMap freeC, u.oneCell' = true := fun u hu => by
  obtain ⟨f, _, hf⟩ := List.mem_flatMap.1 hu
  simp only [freeC, List.mem_cons, List.not_mem_nil, or_false] at hf
  rcases hf with rfl | rfl <;> rfl
section
variable {a : Option Addr} {cap : Nat} {l : List FR}
set_option maxHeartbeats 1600000 in
theorem idxf_f (g : FuncId) [Callee Tryz.prog g] (fs us : List Value) (A : Asrt) (pr : FR → Bool) (hg : ∀ c ∈ l, Fn Tryz.prog g (fs ++ [c.val] ++ us) [A] (fun v L => v = .bool (pr c) ∧ L = [A])) (hn : l.length ≤ 1000000) :
    Fn Tryz.prog 145 [.slice a l.length cap, .func (.func g) ⟨fs⟩ ⟨us⟩] [A, RowA false freeC 2 a l] (fun v L => v = .int .i64 (idxI pr l) ∧ L = [A, RowA false freeC 2 a l]) := by
  refine fn_start Tryz.func145 rfl rfl rfl fun F => ?_
  refine c_seq ?_
  refine c_region ?_
  refine o_y (y_assign rfl) rfl ?_
  refine o_nil ?_
  refine f_seq ?_
  refine c_seq ?_
  refine c_seq ?_
  refine c_region ?_
  refine o_y (y_move rfl) rfl ?_
  refine o_y (y_len_slice rfl) rfl ?_
  refine o_y (y_move rfl) rfl ?_
  refine o_nil ?_
  refine f_seq ?_
  refine c_block ?_
  refine c_loop_inv (X := Nat) (fun i => i ≤ l.length ∧ ∀ j (h : j < l.length), j < i → pr l[j] = false) (fun i => l.length - i) (fun _ => [A, RowA false freeC 2 a l])
    (fun i => [(0, .slice a l.length cap), (1, .func (.func g) ⟨fs⟩ ⟨us⟩), (7, .int .i64 (l.length : Int)), (8, .int .i64 (i : Int))]) 0 ⟨Nat.zero_le _, fun j _ h => absurd h (by omega)⟩ (by repeat (first | with_reducible exact Ent.nil | (apply Ent.one; focus (repeat (first | with_reducible exact Rem.here | apply Rem.there))))) (by repeat (first | exact trivial | refine ⟨rfl, ?_⟩)) ?_
  rintro i ⟨hi, hno⟩ ih
  by_cases hlt : i < l.length
  case neg =>
    have hx : idxI pr l = -1 := by
      unfold idxI
      rw [List.findIdx?_eq_none_iff.2 (fun x hx => by
        obtain ⟨j, hj, rfl⟩ := List.mem_iff_getElem.1 hx
        exact hno j hj (by omega))]
    rw [hx]
    refine c_seq ?_
    refine c_region ?_
    refine o_y (y_lss_f rfl rfl (by omega)) rfl ?_
    refine o_nil ?_
    refine f_seq ?_
    refine c_seq ?_
    refine c_false rfl ?_
    refine c_exit ?_
    refine f_seq_exit ?_
    refine f_seq_exit ?_
    refine f_block_here ?_
    refine f_seq ?_
    refine c_seq ?_
    refine c_region ?_
    refine o_y (y_assign rfl) rfl ?_
    refine o_nil ?_
    refine f_seq ?_
    refine c_ret ?_
    exact f_ent (by repeat (first | with_reducible exact Ent.nil | (apply Ent.one; focus (repeat (first | with_reducible exact Rem.here | apply Rem.there))))) (f_ret rfl ⟨rfl, rfl⟩)
  case pos =>
  have hc : l[i]? = some l[i] := List.getElem?_eq_getElem hlt
  have hgi := hg _ (List.getElem_mem hlt)
  have hfi : pr l[i] = true → idxI pr l = (i : Int) := fun h => by
    unfold idxI
    rw [List.findIdx?_eq_some_iff_getElem.2 ⟨hlt, h, fun j hj => by rw [hno j (by omega) hj]; decide⟩]
  have hno' : pr l[i] = false → ∀ j (h : j < l.length), j < i + 1 → pr l[j] = false := fun h j hj hlt2 => by
    by_cases e : j = i
    · subst e; exact h
    · exact hno j hj (by omega)
  generalize l[i] = c at hc hgi hfi hno'
  have hne : l ≠ [] := by intro h; rw [h] at hlt; exact absurd hlt (by simp)
  refine c_open (h := RowA.opens (f := freeC) hne) (by repeat (first | with_reducible exact Rem.here | apply Rem.there)) (fun y hy2 => ?_)
  obtain ⟨kb, ko, cs, T, fz⟩ := y
  obtain ⟨e1, e2⟩ := hy2
  dsimp only at e1 e2
  subst e1
  have hgt := free_get e2 hc
  simp only [List.append_eq, List.cons_append, List.nil_append, List.append_nil, tup]
  refine c_seq ?_
  refine c_region ?_
  refine o_y (y_lss_t rfl rfl (by omega)) rfl ?_
  refine o_nil ?_
  refine f_seq ?_
  refine c_seq ?_
  refine c_true rfl ?_
  refine c_skip ?_
  refine f_seq ?_
  refine c_seq ?_
  refine c_block ?_
  refine c_seq ?_
  refine c_region ?_
  refine o_y (y_move rfl) rfl ?_
  refine o_y (y_assign rfl) rfl ?_
  refine o_nil ?_
  refine f_seq ?_
  refine c_seq ?_
  refine c_region ?_
  refine o_y (y_move rfl) rfl ?_
  refine o_y (y_move rfl) rfl ?_
  refine o_y (y_move rfl) rfl ?_
  refine o_y (y_indexAddr i rfl rfl rfl hlt) rfl ?_
  refine o_y (y_loadN rfl rfl hgt) rfl ?_
  refine o_call_val rfl rfl hgi (by repeat (first | with_reducible exact Takes.nil | (apply Takes.cons; focus (repeat (first | with_reducible exact Rem.here | apply Rem.there))))) rfl ?_
  rintro _ _ ⟨rfl, rfl⟩
  simp only [List.append_eq, List.cons_append, List.nil_append, List.append_nil, tup]
  cases hp : pr c with
  | true =>
    rw [hfi hp]
    refine o_nil ?_
    refine f_seq ?_
    refine c_true rfl ?_
    refine c_seq ?_
    refine c_region ?_
    refine o_y (y_move rfl) rfl ?_
    refine o_y (y_assign rfl) rfl ?_
    refine o_nil ?_
    refine f_seq ?_
    refine c_ret ?_
    refine f_block_ret ?_
    refine f_seq_ret ?_
    refine f_seq_ret ?_
    refine f_block_ret ?_
    refine f_seq_ret ?_
    exact f_ent (Ent.one (by repeat (first | with_reducible exact Rem.here | apply Rem.there)) (Ent.put (P := [Bkp false kb (.cells ⟨cs⟩ T fz)]) (by repeat (first | with_reducible exact Takes.nil | (apply Takes.cons; focus (repeat (first | with_reducible exact Rem.here | apply Rem.there))))) (RowA.shut rfl e2) (by repeat (first | with_reducible exact Ent.nil | (apply Ent.one; focus (repeat (first | with_reducible exact Rem.here | apply Rem.there))))))) (f_ret rfl ⟨rfl, rfl⟩)
  | false =>
    refine o_nil ?_
    refine f_seq ?_
    refine c_false rfl ?_
    refine c_skip ?_
    refine f_block ?_
    refine f_seq ?_
    refine c_region ?_
    refine o_y (y_arith64 rfl rfl rfl (by omega)) rfl ?_
    refine o_y (y_move rfl) rfl ?_
    refine o_nil ?_
    exact f_next (Ent.one (by repeat (first | with_reducible exact Rem.here | apply Rem.there)) (Ent.put (P := [Bkp false kb (.cells ⟨cs⟩ T fz)]) (by repeat (first | with_reducible exact Takes.nil | (apply Takes.cons; focus (repeat (first | with_reducible exact Rem.here | apply Rem.there))))) (RowA.shut rfl e2) (by repeat (first | with_reducible exact Ent.nil | (apply Ent.one; focus (repeat (first | with_reducible exact Rem.here | apply Rem.there))))))) (by repeat (first | exact trivial | refine ⟨rfl, ?_⟩)) (ih (i + 1) ⟨hlt, hno' hp⟩ (by omega))
end

section
variable {P : Program} {n : Nat} {ds : List Deferred} {F : Fr} {L : List Asrt} {env : Env} {Q : Post} {ops : Array Oper} {rest : List Oper}
variable {d : Tmp} {dt : Option Tmp} {ty : TypeId} {pos : String} {af : Array Edge} {g : Option (Nat × Bool)}
theorem Src.empty' {sz : Nat} {a : Option Addr} {cap : Nat} : Src P F L sz (.slice a 0 cap) 0 [] := fun w _ =>
  ⟨by simp [Builtin.lenOf], by simp, fun j hj => by
    have : j = 0 := by omega
    subst this
    cases a with
    | none => simp [Builtin.firstCells]
    | some a => simp [Builtin.firstCells, loadCells, loadCellsFrom]⟩
theorem Sl.shut_zero' {E : TypeId} {sz : Nat} (b : Nat) : ∀ r, sep [Blk b (.cells ⟨[]⟩ E (0, 0))] r → Sl E sz (some ⟨b, 0, none⟩) 0 0 [] r := fun r hr =>
  Sl.shut (xs := []) (rs := []) (by simp) (Nat.le_refl _) (by simp) r hr
theorem y_cap_slice {x : Operand} {t : TypeId} {e : TypeId} {z : Value} {sz by_ : Nat} {a0 : Option Addr} {len cap : Nat} [Ty P t (.slice e) z sz by_] (hx : ev env x = some (.slice a0 len cap)) :
    Yld P n ds F L env ⟨dt, .call ⟨.builtin .cap, #[x], #[t]⟩, ty, pos, af, g⟩ (.int .i64 (cap : Int)) := .mk fun w a _ k => by
  rw [run_builtin k (vs := [.slice a0 len cap]) (by simp [evs, hx])]
  simp [builtin, Builtin.cap_, run_und]; rfl
/-- append(nil, make([]T, k)...): a row of k places, of which none is told. -/
theorem o_appendZ {x y : Operand} {t t2 e : TypeId} {z z' z2 : Value} {s1 b1 sz by_ s2 b2 : Nat} {d' : TypeDesc} {kd : IntKind} {zs : List Value} (k : Nat)
    [Ty P t (.slice e) z s1 b1] [Ty P e d' z' sz by_] [hzc : CellsV z' zs] [hzn : LenL zs sz] [Ty P t2 (.int kd) z2 s2 b2] (hx : ev env x = some (.slice none 0 0)) (hy : ev env y = some (.int .i64 (k : Int)))
    (hk : 0 < k) (hroom : (2 * k + 300) * by_ ≤ 281474976710656) (hby : Nat.ble 1 by_ = true) (hsz : Nat.ble 1 sz = true) (hd : Nat.blt d n = true)
    (h : ∀ b cap', k ≤ cap' → OpsJ P n ds F (Sl e sz (some ⟨b, 0, none⟩) 0 cap' [] :: L) ((d, .slice (some ⟨b, 0, none⟩) k cap') :: env) ops rest Q) :
    OpsJ P n ds F L env ops (⟨some d, .call ⟨.builtin .append, #[x, y], #[t, t2]⟩, ty, pos, af, none⟩ :: rest) Q := by
  have hzs : z'.cells.size = sz := by rw [hzc.out.1]; simpa using hzn.out
  have hb1 : 1 ≤ by_ := Nat.le_of_ble_eq_true hby
  have hs1 : 1 ≤ sz := Nat.le_of_ble_eq_true hsz
  have hk2 : k ≤ 281474976710656 := by
    have : (2 * k + 300) * 1 ≤ (2 * k + 300) * by_ := Nat.mul_le_mul_left _ hb1
    omega
  refine o_value (X := { p : Nat × Nat // k ≤ p.2 }) (L' := fun p => Sl e sz (some ⟨p.1.1, 0, none⟩) 0 p.1.2 [] :: L) (v := fun p => .slice (some ⟨p.1.1, 0, none⟩) k p.1.2) rfl hd (fun w a s kk => ?_) (fun p => h p.1.1 p.1.2 p.2)
  obtain ⟨inf, hinf, _, _, hib⟩ := run_info (P := P) (t := e) (w := w)
  rw [run_builtin kk (vs := [.slice none 0 0, .int .i64 (k : Int)]) (by simp [evs, hx, hy])]
  simp only [builtin, Sem.run_bind, Builtin.append_]
  simp only [List.getElem?_toArray, List.getElem?_cons_zero, List.getElem?_cons_succ, Sem.run_bind, run_und, Result.andThen_ok, run_size, Sem.run_pure]
  have w1 : IntKind.i64.wrap (k : Int) = (k : Int) := wrap_i64 (by omega) (by omega)
  have e48 : (2 : Int) ^ 48 = 281474976710656 := by decide
  have hkb : k * by_ ≤ 281474976710656 := by
    have : k * by_ ≤ (2 * k + 300) * by_ := Nat.mul_le_mul_right _ (by omega)
    omega
  have hkb' : ¬ ((k : Int) * (inf.bytes : Int) > 2 ^ 48) := by
    have : (k : Int) * (by_ : Int) ≤ 281474976710656 := by rw [← Int.natCast_mul]; exact Int.ofNat_le.2 hkb
    rw [hib, e48]; omega
  have hneg : ¬ ((k : Int) < 0) := by omega
  have hk0 : ¬ (k ≤ 0) := by omega
  have hks : ¬ (k * sz = 0) := by intro h; rcases Nat.mul_eq_zero.1 h with h | h <;> omega
  have hn1 : ¬ ((((0 + k : Nat) : Int) > IntKind.i64.max) ∧ (True ∨ inf.bytes = 0)) := by
    rintro ⟨h9, _⟩
    have e9 : IntKind.i64.max = 9223372036854775807 := by decide
    rw [e9] at h9; omega
  have hn2 : ¬ (Builtin.nextslicecap (0 + k) 0 * inf.bytes > 2 ^ 48) := by
    have e3 : (2 : Nat) ^ 48 = 281474976710656 := by decide
    have h7 := nsc_le (need := 0 + k) (old := 0) (by omega)
    have h8 := Nat.mul_le_mul_right by_ h7
    rw [Nat.zero_add] at h7 h8
    rw [e3, hib, Nat.zero_add]; omega
  have hcut : ∀ w' : World, ∃ x, (choose (Question.appendCap (0 + k) 0 e)).run P w' = .ok x { w' with drawn := w'.drawn + 1 } ∧ 0 + k ≤ x := fun w' => by
    refine ⟨(Question.appendCap (0 + k) 0 e).cut (w'.tape w'.drawn (.appendCap (0 + k) 0 e)), ?_, by simp [Question.cut]⟩
    simp [run_choose, Question.forced]
  obtain ⟨nc, hch, hnc⟩ := hcut w
  have s' := s.drew (w.drawn + 1)
  generalize hw' : ({ w with drawn := w.drawn + 1 } : World) = w' at *
  obtain ⟨inf', hinf', hiz', _, hib'⟩ := run_info (P := P) (t := e) (w := w')
  rw [if_pos trivial]
  simp only [Sem.run_bind, asInt, asIntOf, Sem.run_pure, Result.andThen_ok, w1]
  rw [if_neg hneg]
  simp only [Sem.run_bind, Sem.run_pure, hinf, Result.andThen_ok]
  rw [if_neg hkb']
  simp only [Sem.run_bind, Sem.run_pure, hinf, Result.andThen_ok, Int.toNat_natCast]
  rw [if_neg (by omega : ¬ (0 + k ≤ 0))]
  simp only [Sem.run_bind, Sem.run_pure, hinf, Result.andThen_ok]
  rw [if_neg hn1]
  simp only [Sem.run_bind, Sem.run_pure, hinf, Result.andThen_ok]
  rw [if_neg hn2]
  simp only [Sem.run_bind, Sem.run_pure, hch, hinf', Result.andThen_ok, run_askRoom, Builtin.firstCells, run_zero]
  rw [if_neg (by simp)]
  rw [if_neg hks]
  simp only [Sem.run_bind, Sem.run_pure, Result.andThen_ok, run_zero]
  have hz1 : (Builtin.zeroCells z'.cells k).toList.length = k * sz := by simp [Builtin.zeroCells, hzs]
  have hz2 : (Builtin.zeroCells z'.cells (nc - (0 + k))).toList.length = (nc - (0 + k)) * sz := by simp [Builtin.zeroCells, hzs]
  have hobj : ((#[] : Array Value) ++ Builtin.zeroCells z'.cells k ++ Builtin.zeroCells z'.cells (nc - (0 + k))) = ⟨(Builtin.zeroCells z'.cells k).toList ++ (Builtin.zeroCells z'.cells (nc - (0 + k))).toList⟩ := by apply Array.ext'; simp
  rw [hobj]
  generalize (Builtin.zeroCells z'.cells k).toList = z1 at hz1
  generalize (Builtin.zeroCells z'.cells (nc - (0 + k))).toList = z2 at hz2
  refine ⟨⟨(w'.heap.size, nc), by dsimp only; omega⟩, { w' with heap := w'.heap.push (.cells ⟨z1 ++ z2⟩ e) }, by simp [newRow], ?_⟩
  obtain ⟨q1, q2, q3, r3, q4, q5, q6, q7⟩ := s'.new (.cells ⟨z1 ++ z2⟩ e)
  refine ⟨q1, q2, q3, r3, q4, q5, q6, ?_⟩
  obtain ⟨u, v, huv, rfl, hu, hv⟩ := q7
  refine ⟨u, v, huv, rfl, ⟨by simp, .inr ⟨_, z1 ++ z2, rfl, Nat.zero_le _, ?_, hu⟩⟩, hv⟩
  rw [List.length_append, hz1, hz2, ← Nat.add_mul, List.length_nil, Nat.zero_add]
  congr 1; show k + (nc - (0 + k)) = nc; omega
end
end Go.Lun

/- Slices that are read: cut, cloned, put one behind another. -/
namespace Go.Lun
open Go.Proofs

def cutA (a : Option Addr) (l sz cap : Nat) : Option Addr := a.map fun x => ⟨x.block, if cap = l then x.off else x.off + l * sz, none⟩
section
variable {P : Program} {n : Nat} {ds : List Deferred} {F : Fr} {L : List Asrt} {env : Env} {Q : Post} {ops : Array Oper} {rest : List Oper}
variable {d : Tmp} {dt : Option Tmp} {ty : TypeId} {pos : String} {af : Array Edge} {g : Option (Nat × Bool)}

theorem y_cut {x : Operand} {lo hi : Option Operand} {t e : TypeId} {z z' : Value} {s1 b1 sz by_ len cap : Nat} {a : Option Addr} {d' : TypeDesc} (l h : Nat) [Ty P t (.slice e) z s1 b1] [Ty P e d' z' sz by_]
    (hw : Wf a len cap) (hx : ev env x = some (.slice a len cap)) (hl : bndE env lo 0 = some (l : Int)) (hh : bndE env hi len = some (h : Int)) (hlh : l ≤ h) (hhn : h ≤ len) :
    Yld P n ds F L env ⟨dt, .slice t x lo hi none, ty, pos, af, g⟩ (.slice (cutA a l sz cap) (h - l) (cap - l)) := by
  cases a with
  | none =>
    obtain ⟨rfl, rfl⟩ := hw.nil rfl
    have : h = 0 := by omega
    subst this
    have : l = 0 := by omega
    subst this
    exact y_slice_nil (sz := sz) (e := e) hx hl hh rfl
  | some y =>
    obtain ⟨b, off, rfl⟩ := hw.at_ y rfl
    exact y_slice l h cap hx hl hh rfl (fun h => by cases h) hlh (by have := hw.le; omega) (Nat.le_refl _)

theorem srcAt {w : World} {sz b off k cap : Nat} {cs ys : List Value} {T : TypeId} {fz : Nat × Nat} (hb : w.heap[b]? = some (.cells ⟨cs⟩ T fz)) (h : getN cs off (k * sz) = some ys) :
    (Builtin.lenOf (.slice (some ⟨b, off, none⟩) k cap)).run P w = .ok k w ∧ ys.length = k * sz ∧ ∀ j, j ≤ k → (Builtin.firstCells sz j (.slice (some ⟨b, off, none⟩) k cap)).run P w = .ok ⟨ys.take (j * sz)⟩ w := ⟨by simp [Builtin.lenOf], getN_length h, fun j hj => by
  have hle : j * sz ≤ k * sz := Nat.mul_le_mul_right _ hj
  have h2 : getN cs off (j * sz) = some (ys.take (j * sz)) := by
    have h3 : k * sz ≤ (cs.drop off).length ∨ (cs.drop off).length < k * sz := by omega
    have hl := getN_length h
    rcases h3 with h3 | h3
    · unfold getN at h ⊢
      rw [takeN_take h3] at h
      rw [takeN_take (by omega)]
      injection h with h
      rw [← h, List.take_take, Nat.min_eq_left hle]
    · exfalso
      have := (takeN_get h).2
      have h4 := this ((cs.drop off).length) (by omega)
      rw [List.getElem?_eq_none (Nat.le_refl _)] at h4
      rw [List.getElem?_eq_getElem (by omega)] at h4
      cases h4
  simp [Builtin.firstCells, run_loadCells hb h2]⟩
/-- A row that is read, as what is appended. -/
theorem Src.row {α : Type} {f : α → List Value} {k cap : Nat} {q : Bool} {a : Option Addr} {xs : List α} {R : List Asrt} (hf : ∀ x, (f x).length = k) (hr : Rem L (RowA q f k a xs) R) : Src P F L k (.slice a xs.length cap) xs.length (xs.flatMap f) := fun w s => by
  by_cases hx : xs = []
  · subst hx; exact Src.empty' (P := P) (F := F) (L := L) w s
  · obtain ⟨r, hA, hs⟩ := s.look hr
    obtain ⟨b, off, cs, T, fz, rfl, h2, h3⟩ := hA hx
    exact srcAt (hs _ _ _ h3) h2

end

theorem flat_len {α : Type} {f : α → List Value} {k : Nat} (hf : ∀ x, (f x).length = k) (xs : List α) : (xs.flatMap f).length = xs.length * k := by
  induction xs with
  | nil => simp
  | cons x xs ih => rw [List.flatMap_cons, List.length_append, ih, hf, List.length_cons, Nat.add_mul]; omega
theorem flat_sub {α : Type} {f : α → List Value} {k : Nat} (hf : ∀ x, (f x).length = k) (xs : List α) (l m : Nat) (h : l + m ≤ xs.length) : getN (xs.flatMap f) (l * k) (m * k) = some (((xs.drop l).take m).flatMap f) := by
  have e : xs.flatMap f = (xs.take l).flatMap f ++ (((xs.drop l).take m).flatMap f ++ ((xs.drop l).drop m).flatMap f) := by
    rw [← List.flatMap_append, ← List.flatMap_append, List.take_append_drop, List.take_append_drop]
  have h1 : ((xs.take l).flatMap f).length = l * k := by rw [flat_len hf, List.length_take]; congr 1; omega
  have h2 : (((xs.drop l).take m).flatMap f).length = m * k := by rw [flat_len hf, List.length_take, List.length_drop]; congr 1; omega
  rw [e]
  unfold getN
  rw [← h1, List.drop_left, ← h2]
  exact getN_front _ _
theorem RowA.cut {α : Type} {f : α → List Value} {k cap : Nat} {q : Bool} {a : Option Addr} {xs : List α} {l h : Nat} (hf : ∀ x, (f x).length = k) (hw : Wf a xs.length cap) (hl : l ≤ h) (hh : h ≤ xs.length) :
    ∀ r, sep [RowA q f k a xs] r → RowA q f k (cutA a l k cap) ((xs.drop l).take (h - l)) r := fun r ⟨u, v, _, e, hu, _⟩ hne => by
  have hlt : l < h := by
    rcases Nat.lt_or_ge l h with h1 | h1
    · exact h1
    · exact absurd (by rw [show h - l = 0 by omega]; simp) hne
  have hx : xs ≠ [] := by intro h0; subst h0; simp at hh; omega
  obtain ⟨b, off, cs, T, fz, rfl, h2, h3⟩ := hu hx
  refine ⟨b, off + l * k, cs, T, fz, ?_, ?_, by rw [e]; exact join_some h3⟩
  · simp only [cutA, Option.map_some]
    rw [if_neg (by have := hw.le; omega)]
  · have hm : ((xs.drop l).take (h - l)).length = h - l := by rw [List.length_take, List.length_drop]; omega
    rw [hm]
    exact getN_sub h2 (flat_sub hf xs l (h - l) (by omega))
theorem int_one (l : List Int) : ∀ u ∈ l.flatMap intC, u.oneCell' = true := fun u hu => by
  obtain ⟨f, _, hf⟩ := List.mem_flatMap.1 hu
  simp only [intC, List.mem_cons, List.not_mem_nil, or_false] at hf
  subst hf; rfl

set_option maxHeartbeats 1600000 in
theorem clonef_f {a : Option Addr} {cap : Nat} {l : List FR} (hn : l.length ≤ 1000000) (hw : Wf a l.length cap) : Fn Tryz.prog 73 [.slice a l.length cap] [RowA false freeC 2 a l]
    (fun v L => ∃ a' cap', Wf a' l.length cap' ∧ v = .slice a' l.length cap' ∧ L = [RowA false freeC 2 a' l, RowA false freeC 2 a l]) := by
  refine fn_start Tryz.func73 rfl rfl rfl fun F => ?_
  by_cases hne : a = none
  · subst hne
    obtain ⟨h1, h2⟩ := hw.nil rfl
    subst h2
    have : l = [] := List.eq_nil_of_length_eq_zero h1
    subst this
    refine c_seq ?_
    refine c_region ?_
    refine o_y (y_assign rfl) rfl ?_
    refine o_nil ?_
    refine f_seq ?_
    refine c_seq ?_
    refine c_seq ?_
    refine c_region ?_
    refine o_y (y_move rfl) rfl ?_
    refine o_y (y_eql_snil rfl rfl) rfl ?_
    refine o_nil ?_
    refine f_seq ?_
    refine c_true rfl ?_
    refine c_seq ?_
    refine c_region ?_
    refine o_y (y_assign rfl) rfl ?_
    refine o_nil ?_
    refine f_seq ?_
    refine c_ret ?_
    refine f_seq_ret ?_
    exact f_ent (Ent.put (P := []) (by repeat (first | with_reducible exact Takes.nil | (apply Takes.cons; focus (repeat (first | with_reducible exact Rem.here | apply Rem.there))))) (RowA.empty (q := false) (f := freeC) (k := 2) (a := none)) (by repeat (first | with_reducible exact Ent.nil | (apply Ent.one; focus (repeat (first | with_reducible exact Rem.here | apply Rem.there)))))) (f_ret rfl ⟨none, 0, ⟨Nat.le_refl _, fun _ => ⟨rfl, rfl⟩, fun x h => by cases h⟩, rfl, rfl⟩)
  · refine c_seq ?_
    refine c_region ?_
    refine o_y (y_assign rfl) rfl ?_
    refine o_nil ?_
    refine f_seq ?_
    refine c_seq ?_
    refine c_seq ?_
    refine c_region ?_
    refine o_y (y_move rfl) rfl ?_
    refine o_y (y_eql_snil rfl rfl) rfl ?_
    rw [show a.isNone = false by cases a; exact absurd rfl hne; rfl]
    refine o_nil ?_
    refine f_seq ?_
    refine c_false rfl ?_
    refine c_skip ?_
    refine f_seq ?_
    refine c_seq ?_
    refine c_region ?_
    refine o_buildSlice rfl rfl rfl rfl rfl (fun nb => ?_)
    refine o_y (y_move rfl) rfl ?_
    refine o_ent (Ent.put (A := Sl 62 2 (some ⟨nb, 0, none⟩) 0 0 []) (P := [Blk nb (.cells ⟨[]⟩ 62 (0, 0))]) (by repeat (first | with_reducible exact Takes.nil | (apply Takes.cons; focus (repeat (first | with_reducible exact Rem.here | apply Rem.there))))) (Sl.shut_zero' nb) (Ent.refl _)) ?_
    refine o_append rfl rfl (Src.row (f := freeC) (xs := l) (a := a) (cap := cap) (q := false) (fun _ => rfl) (by repeat (first | with_reducible exact Rem.here | apply Rem.there))) (by repeat (first | with_reducible exact Rem.here | apply Rem.there)) (free_one l) (by omega) rfl (by omega) rfl (fun a2 cap2 => ?_)
    rw [Nat.zero_add, List.nil_append]
    refine o_y (y_assign rfl) rfl ?_
    refine o_nil ?_
    refine f_seq ?_
    refine c_ret ?_
    refine f_openWf (by repeat (first | with_reducible exact Rem.here | apply Rem.there)) fun hwf => ?_
    refine f_shareSl freeC l (by repeat (first | with_reducible exact Rem.here | apply Rem.there)) rfl rfl ?_
    exact f_ent (by repeat (first | with_reducible exact Ent.nil | (apply Ent.one; focus (repeat (first | with_reducible exact Rem.here | apply Rem.there))))) (f_ret rfl ⟨a2, cap2, hwf, rfl, rfl⟩)


set_option maxHeartbeats 1600000 in
theorem clonei_f {a : Option Addr} {cap : Nat} {l : List Int} (hn : l.length ≤ 1000000) (hw : Wf a l.length cap) : Fn Tryz.prog 74 [.slice a l.length cap] [RowA false intC 1 a l]
    (fun v L => ∃ a' cap', Wf a' l.length cap' ∧ v = .slice a' l.length cap' ∧ L = [RowA false intC 1 a' l, RowA false intC 1 a l]) := by
  refine fn_start Tryz.func74 rfl rfl rfl fun F => ?_
  by_cases hne : a = none
  · subst hne
    obtain ⟨h1, h2⟩ := hw.nil rfl
    subst h2
    have : l = [] := List.eq_nil_of_length_eq_zero h1
    subst this
    refine c_seq ?_
    refine c_region ?_
    refine o_y (y_assign rfl) rfl ?_
    refine o_nil ?_
    refine f_seq ?_
    refine c_seq ?_
    refine c_seq ?_
    refine c_region ?_
    refine o_y (y_move rfl) rfl ?_
    refine o_y (y_eql_snil rfl rfl) rfl ?_
    refine o_nil ?_
    refine f_seq ?_
    refine c_true rfl ?_
    refine c_seq ?_
    refine c_region ?_
    refine o_y (y_assign rfl) rfl ?_
    refine o_nil ?_
    refine f_seq ?_
    refine c_ret ?_
    refine f_seq_ret ?_
    exact f_ent (Ent.put (P := []) (by repeat (first | with_reducible exact Takes.nil | (apply Takes.cons; focus (repeat (first | with_reducible exact Rem.here | apply Rem.there))))) (RowA.empty (q := false) (f := intC) (k := 1) (a := none)) (by repeat (first | with_reducible exact Ent.nil | (apply Ent.one; focus (repeat (first | with_reducible exact Rem.here | apply Rem.there)))))) (f_ret rfl ⟨none, 0, ⟨Nat.le_refl _, fun _ => ⟨rfl, rfl⟩, fun x h => by cases h⟩, rfl, rfl⟩)
  · refine c_seq ?_
    refine c_region ?_
    refine o_y (y_assign rfl) rfl ?_
    refine o_nil ?_
    refine f_seq ?_
    refine c_seq ?_
    refine c_seq ?_
    refine c_region ?_
    refine o_y (y_move rfl) rfl ?_
    refine o_y (y_eql_snil rfl rfl) rfl ?_
    rw [show a.isNone = false by cases a; exact absurd rfl hne; rfl]
    refine o_nil ?_
    refine f_seq ?_
    refine c_false rfl ?_
    refine c_skip ?_
    refine f_seq ?_
    refine c_seq ?_
    refine c_region ?_
    refine o_buildSlice rfl rfl rfl rfl rfl (fun nb => ?_)
    refine o_y (y_move rfl) rfl ?_
    refine o_ent (Ent.put (A := Sl 3 1 (some ⟨nb, 0, none⟩) 0 0 []) (P := [Blk nb (.cells ⟨[]⟩ 3 (0, 0))]) (by repeat (first | with_reducible exact Takes.nil | (apply Takes.cons; focus (repeat (first | with_reducible exact Rem.here | apply Rem.there))))) (Sl.shut_zero' nb) (Ent.refl _)) ?_
    refine o_append rfl rfl (Src.row (f := intC) (xs := l) (a := a) (cap := cap) (q := false) (fun _ => rfl) (by repeat (first | with_reducible exact Rem.here | apply Rem.there))) (by repeat (first | with_reducible exact Rem.here | apply Rem.there)) (int_one l) (by omega) rfl (by omega) rfl (fun a2 cap2 => ?_)
    rw [Nat.zero_add, List.nil_append]
    refine o_y (y_assign rfl) rfl ?_
    refine o_nil ?_
    refine f_seq ?_
    refine c_ret ?_
    refine f_openWf (by repeat (first | with_reducible exact Rem.here | apply Rem.there)) fun hwf => ?_
    refine f_shareSl intC l (by repeat (first | with_reducible exact Rem.here | apply Rem.there)) rfl rfl ?_
    exact f_ent (by repeat (first | with_reducible exact Ent.nil | (apply Ent.one; focus (repeat (first | with_reducible exact Rem.here | apply Rem.there))))) (f_ret rfl ⟨a2, cap2, hwf, rfl, rfl⟩)


theorem grow_f (k : Nat) (hk : k ≤ 1000000) : Fn Tryz.prog 172 [.slice none 0 0, .int .i64 (k : Int)] []
    (fun v L => ∃ a cap, v = .slice a 0 cap ∧ L = [Sl 62 2 a 0 cap []]) := by
  refine fn_start Tryz.func172 rfl rfl rfl fun F => ?_
  refine c_seq ?_
  refine c_region ?_
  refine o_y (y_assign rfl) rfl ?_
  refine o_nil ?_
  refine f_seq ?_
  refine c_seq ?_
  refine c_seq ?_
  refine c_region ?_
  refine o_y (y_move rfl) rfl ?_
  refine o_y (y_lss_f rfl rfl (by omega)) rfl ?_
  refine o_nil ?_
  refine f_seq ?_
  refine c_false rfl ?_
  refine c_skip ?_
  refine f_seq ?_
  refine c_seq ?_
  refine c_seq ?_
  refine c_region ?_
  refine o_y (y_move rfl) rfl ?_
  refine o_y (y_move rfl) rfl ?_
  refine o_y (y_cap_slice rfl) rfl ?_
  by_cases h0 : k = 0
  · subst h0
    refine o_y (y_move rfl) rfl ?_
    refine o_y (y_len_slice rfl) rfl ?_
    refine o_y (y_arith64 rfl rfl rfl (by omega)) rfl ?_
    refine o_y (y_arith64 rfl rfl rfl (by omega)) rfl ?_
    refine o_y (y_assign rfl) rfl ?_
    refine o_nil ?_
    refine f_seq ?_
    refine c_seq ?_
    refine c_region ?_
    refine o_y (y_move rfl) rfl ?_
    refine o_y (y_gtr_f rfl rfl (by omega)) rfl ?_
    refine o_nil ?_
    refine f_seq ?_
    refine c_false rfl ?_
    refine c_skip ?_
    refine f_seq ?_
    refine c_seq ?_
    refine c_region ?_
    refine o_y (y_move rfl) rfl ?_
    refine o_y (y_assign rfl) rfl ?_
    refine o_nil ?_
    refine f_seq ?_
    refine c_ret ?_
    exact f_ent (Ent.put (A := Sl 62 2 none 0 0 []) (P := []) (by repeat (first | with_reducible exact Takes.nil | (apply Takes.cons; focus (repeat (first | with_reducible exact Rem.here | apply Rem.there))))) Sl.shut_nil (by repeat (first | with_reducible exact Ent.nil | (apply Ent.one; focus (repeat (first | with_reducible exact Rem.here | apply Rem.there)))))) (f_ret rfl ⟨none, 0, rfl, rfl⟩)
  · refine o_y (y_move rfl) rfl ?_
    refine o_y (y_len_slice rfl) rfl ?_
    refine o_y (y_arith64 rfl rfl rfl (by omega)) rfl ?_
    refine o_y (y_arith64 rfl rfl rfl (by omega)) rfl ?_
    refine o_y (y_assign rfl) rfl ?_
    refine o_nil ?_
    refine f_seq ?_
    refine c_seq ?_
    refine c_region ?_
    refine o_y (y_move rfl) rfl ?_
    refine o_y (y_gtr_t rfl rfl (by omega)) rfl ?_
    refine o_nil ?_
    refine f_seq ?_
    refine c_true rfl ?_
    refine c_region ?_
    refine o_y (y_move rfl) rfl ?_
    refine o_y (y_move rfl) rfl ?_
    refine o_y (y_cap_slice rfl) rfl ?_
    refine o_y (y_slice_nil rfl rfl rfl rfl) rfl ?_
    refine o_y (y_move rfl) rfl ?_
    refine o_appendZ k rfl (by show some (Value.int .i64 _) = _; congr 2) (by omega) (by omega) rfl rfl rfl (fun b cap' hc => ?_)
    refine o_y (y_move rfl) rfl ?_
    refine o_y (y_len_slice rfl) rfl ?_
    refine o_y (y_slice 0 0 cap' rfl rfl rfl rfl (fun h => by cases h) (Nat.le_refl _) (Nat.zero_le _) (Nat.le_refl _)) rfl ?_
    rw [show (if cap' = 0 then 0 else 0 + 0 * 2) = 0 by split <;> rfl]
    refine o_y (y_assign rfl) rfl ?_
    refine o_nil ?_
    refine f_seq ?_
    refine c_seq ?_
    refine c_region ?_
    refine o_y (y_move rfl) rfl ?_
    refine o_y (y_assign rfl) rfl ?_
    refine o_nil ?_
    refine f_seq ?_
    refine c_ret ?_
    exact f_ent (by repeat (first | with_reducible exact Ent.nil | (apply Ent.one; focus (repeat (first | with_reducible exact Rem.here | apply Rem.there))))) (f_ret rfl ⟨some ⟨b, 0, none⟩, cap', rfl, rfl⟩)
end Go.Lun

/- The document's disk: its small functions. -/
import Derived.Test.YtijahemmbooblaaLaw11
import Derived.Test.YtijahemmbooblaaRet
namespace Go.Lun
open Go.Proofs

def strC (s : Bytes) : List Value := [str s]
def wrC (w : Int × Bytes) : List Value := [.int .i64 w.1, str w.2]
instance {l : List UInt8} : CellsV (str l) [str l] := ⟨rfl, by simp [str, Value.oneCell']⟩

theorem RowA.src {P : Program} {F : Fr} {L R : List Asrt} {α : Type} {q : Bool} {f : α → List Value} {k cap : Nat} {a : Option Addr} {xs : List α} (hr : Rem L (RowA q f k a xs) R) : Src P F L k (.slice a xs.length cap) xs.length (xs.flatMap f) := fun w s => by
  by_cases hne : xs = []
  · subst hne; exact Src.empty w s
  · obtain ⟨h1, h2, h3, r, hc, hf, hrs, hsp⟩ := s
    obtain ⟨u, v, huv, rfl, hA, hR⟩ := sep_perm hr.perm hsp
    obtain ⟨b, off, cs, T, fz, rfl, e2, e3⟩ := hA hne
    have s' : St F (Bkp q b (.cells ⟨cs⟩ T fz) :: R) w := ⟨h1, h2, h3, _, hc, hf, hrs, u, v, huv, rfl, e3, hR⟩
    exact Src.slice (L := Bkp q b (.cells ⟨cs⟩ T fz) :: R) e2 w s'

theorem SetN.at {cs : List Value} {i : Nat} {v : Value} (h : i < cs.length) : SetN cs i [v] (cs.set i v) := ⟨by simp; omega, rfl⟩

theorem str_map (l : List Bytes) : l.flatMap strC = l.map str := by
  induction l with
  | nil => rfl
  | cons s l ih => rw [List.flatMap_cons, ih]; rfl
theorem str_one (l : List Bytes) : ∀ u ∈ l.flatMap strC, u.oneCell' = true := by
  intro u hu
  obtain ⟨s, _, h⟩ := List.mem_flatMap.1 hu
  simp only [strC, List.mem_singleton] at h
  subst h; rfl
theorem wr_one (l : List (Int × Bytes)) : ∀ u ∈ l.flatMap wrC, u.oneCell' = true := by
  intro u hu
  obtain ⟨w, _, h⟩ := List.mem_flatMap.1 hu
  simp only [wrC, List.mem_cons, List.not_mem_nil, or_false] at h
  rcases h with rfl | rfl <;> rfl

theorem zeros_f : Fn Try.prog 31 [] [] (fun v L => v = str zerosM ∧ L = []) := by
  refine fn_start Try.func31 rfl rfl rfl fun F => ?_
  refine c_seq ?_
  refine c_region ?_
  refine o_y (y_assign rfl) rfl ?_
  refine o_nil ?_
  refine f_seq ?_
  refine c_seq ?_
  refine c_region ?_
  refine o_makeSlice1 256 256 rfl rfl (by omega) (by omega) (by omega) rfl (fun b2 => ?_)
  skip
  refine o_y (y_conv_str (l := List.replicate 256 0) rfl (by have := getN_front (List.replicate 256 (Value.int .u8 0)) []; rw [List.append_nil, List.length_replicate] at this; rw [List.map_replicate]; exact this)) rfl ?_
  refine o_y (y_assign rfl) rfl ?_
  refine o_nil ?_
  refine f_seq ?_
  refine c_ret ?_
  exact f_ent Ent.nil (f_ret rfl ⟨rfl, rfl⟩)

theorem with_f (a : Option Addr) (cap : Nat) (l : List Bytes) (p : Int) (s : Bytes) (n : Nat) (hn : n = l.length) (hp : 0 ≤ p ∧ p < l.length) (hl : l.length ≤ 1000000) :
    Fn Try.prog 32 [.slice a n cap, .int .i64 p, str s] [RowA false strC 1 a l] (fun v L => ∃ a' c', v = .slice a' n c' ∧ L = [RowA false strC 1 a' (setM l p s), RowA false strC 1 a l]) := by
  subst hn
  refine fn_start Try.func32 rfl rfl rfl fun F => ?_
  refine c_seq ?_
  refine c_region ?_
  refine o_y (y_assign rfl) rfl ?_
  refine o_nil ?_
  refine f_seq ?_
  refine c_seq ?_
  refine c_region ?_
  refine o_buildSlice rfl rfl rfl rfl rfl (fun nb => ?_)
  refine o_y (y_move rfl) rfl ?_
  rename Nat => nb
  refine o_ent (Ent.shut (A := Sl 9 1 (some ⟨nb, 0, none⟩) 0 0 []) (P := [Blk nb (.cells ⟨[]⟩ 9 (0, 0))]) (by repeat (first | with_reducible exact Takes.nil | (apply Takes.cons; focus (repeat (first | with_reducible exact Rem.here | apply Rem.there))))) (Sl.shut_zero nb)) ?_
  refine o_append (k := l.length) (ys := l.flatMap strC) rfl rfl (RowA.src (by repeat (first | with_reducible exact Rem.here | apply Rem.there))) (by repeat (first | with_reducible exact Rem.here | apply Rem.there)) (str_one l) (by omega) rfl (by omega) rfl (fun a' cap' => ?_)
  simp only [Nat.zero_add, List.nil_append]
  refine o_openSl (by repeat (first | with_reducible exact Rem.here | apply Rem.there)) (fun _ _ h _ => absurd h (by omega)) (fun b rs e1 e2 h3 h4 => ?_)
  subst e2
  refine o_y (y_assign rfl) rfl ?_
  refine o_nil ?_
  refine f_seq ?_
  refine c_seq ?_
  refine c_region ?_
  refine o_y (y_move rfl) rfl ?_
  refine o_y (y_move rfl) rfl ?_
  refine o_y (y_move rfl) rfl ?_
  refine o_y (y_indexAddr p.toNat rfl rfl (by omega) (by omega)) rfl ?_
  have hlen : (0 + p.toNat * 1) < (l.flatMap strC ++ rs).length := by rw [List.length_append, str_map, List.length_map]; omega
  refine o_store rfl rfl rfl (hset := SetN.at hlen) frz0 ?_
  refine o_nil ?_
  refine f_seq ?_
  refine c_seq ?_
  refine c_region ?_
  refine o_y (y_move rfl) rfl ?_
  refine o_y (y_assign rfl) rfl ?_
  refine o_nil ?_
  refine f_seq ?_
  refine c_ret ?_
  have e : (l.flatMap strC ++ rs).set (0 + p.toNat * 1) (str s) = (setM l p s).flatMap strC ++ rs := by
    unfold setM
    rw [str_map, str_map, List.map_set, List.set_append_left _ _ (by rw [List.length_map]; omega)]
    congr 2; omega
  rw [e]
  refine f_ent (Ent.shut (A := Sl 9 1 (some ⟨b, 0, none⟩) l.length cap' ((setM l p s).flatMap strC)) (P := [Blk b (.cells ⟨(setM l p s).flatMap strC ++ rs⟩ 9 (0, 0))]) (by repeat (first | with_reducible exact Takes.nil | (apply Takes.cons; focus (repeat (first | with_reducible exact Rem.here | apply Rem.there))))) (Sl.shut ?_ h3 ?_)) ?_
  · rw [str_map, List.length_map]; simp [setM]
  · rw [str_map, List.length_map]; rw [str_map, List.length_map] at h4; simpa [setM] using h4
  refine f_shareSl strC (setM l p s) (by repeat (first | with_reducible exact Rem.here | apply Rem.there)) (by simp [setM]) rfl ?_
  exact f_ret rfl ⟨_, _, rfl, rfl⟩

theorem torn_f (s y : Bytes) (sec : Nat) (hs : s.length = 256) (hy : y.length = 256) (hk : sec < 256) :
    Fn Try.prog 33 [str s, str y, .int .u8 (sec : Int)] [] (fun v L => v = str (tornM s y sec) ∧ L = []) := by
  refine fn_start Try.func33 rfl rfl rfl fun F => ?_
  refine c_seq ?_
  refine c_region ?_
  refine o_y (y_assign rfl) rfl ?_
  refine o_nil ?_
  refine f_seq ?_
  refine c_seq ?_
  refine c_region ?_
  refine o_y (y_assign rfl) rfl ?_
  refine o_nil ?_
  refine f_seq ?_
  refine c_seq ?_
  refine c_seq ?_
  refine c_region ?_
  refine o_y (y_assign rfl) rfl ?_
  refine o_nil ?_
  refine f_seq ?_
  refine c_block ?_
  refine c_loop_inv (X := Nat) (fun k => k ≤ 4) (fun k => 4 - k) (fun _ => []) (fun k => [(0, str s), (1, str y), (2, .int .u8 (sec : Int)), (7, str ((List.range k).flatMap (secM s y sec))), (8, .int .i64 (k : Int))]) 0 (by decide) (by repeat (first | with_reducible exact Ent.nil | (apply Ent.one; focus (repeat (first | with_reducible exact Rem.here | apply Rem.there))))) (by repeat (first | exact trivial | refine ⟨rfl, ?_⟩)) ?_
  intro k hk4 ih
  have hl : ∀ n, n ≤ 4 → ((List.range n).flatMap (secM s y sec)).length = n * 64 := by
    intro n
    induction n with
    | zero => intro _; rfl
    | succ n ihn =>
      intro h
      rw [List.range_succ, List.flatMap_append, List.length_append, ihn (by omega)]
      simp only [List.flatMap_cons, List.flatMap_nil, List.append_nil]
      rw [sec_len hs hy sec n (by omega)]; omega
  by_cases hlt : k < 4
  · have hn := hl k (by omega)
    have hsn : (List.range (k + 1)).flatMap (secM s y sec) = (List.range k).flatMap (secM s y sec) ++ secM s y sec k := by
      rw [List.range_succ, List.flatMap_append]; simp
    refine c_seq ?_
    refine c_seq ?_
    refine c_region ?_
    refine o_y (y_move rfl) rfl ?_
    refine o_y (y_lss_t rfl rfl (by omega)) rfl ?_
    refine o_nil ?_
    refine f_seq ?_
    refine c_true rfl ?_
    refine c_skip ?_
    refine f_seq ?_
    refine c_seq ?_
    refine c_block ?_
    refine c_seq ?_
    refine c_region ?_
    refine o_y (y_move rfl) rfl ?_
    refine o_y (y_move rfl) rfl ?_
    refine o_y (y_conv_u64 rfl (by omega)) rfl ?_
    refine o_y (y_shr sec k rfl rfl rfl rfl (by show k ≤ 8; omega)) rfl ?_
    refine o_y (y_and1 (sec / 2 ^ k) rfl rfl rfl (Nat.lt_of_le_of_lt (Nat.div_le_self _ _) hk)) rfl ?_
    have hm := Nat.mod_two_eq_zero_or_one (sec / 2 ^ k)
    rcases hm with hb | hb
    · rw [hb]
      refine o_y (y_eql_f rfl rfl (by omega)) rfl ?_
      refine o_nil ?_
      refine f_seq ?_
      refine c_false rfl ?_
      refine c_region ?_
      refine o_y (y_move rfl) rfl ?_
      refine o_y (y_move rfl) rfl ?_
      refine o_y (y_move rfl) rfl ?_
      refine o_y (y_arith64 rfl rfl rfl (by omega)) rfl ?_
      refine o_y (y_move rfl) rfl ?_
      refine o_y (y_arith64 rfl rfl rfl (by omega)) rfl ?_
      refine o_y (y_arith64 rfl rfl rfl (by omega)) rfl ?_
      refine o_y (y_slice_str (64 * k) (64 * k + 64) rfl (by show some (64 * (k : Int)) = some ((64 * k : Nat) : Int); congr 1) (by show some (64 * (k : Int) + 64) = some ((64 * k + 64 : Nat) : Int); congr 1) (by omega) (by omega)) rfl ?_
      have h1 : (((s.take (64 * k + 64)).drop (64 * k))).length = 64 := by rw [List.length_drop, List.length_take]; omega
      refine o_y (y_add_str rfl rfl (by rw [hn, h1]; omega)) rfl ?_
      refine o_y (y_assign rfl) rfl ?_
      refine o_nil ?_
      refine f_block ?_
      refine f_seq ?_
      refine c_region ?_
      refine o_y (y_move rfl) rfl ?_
      refine o_y (y_arith64 rfl rfl rfl (by omega)) rfl ?_
      refine o_y (y_assign rfl) rfl ?_
      refine o_nil ?_
      have e : (List.range k).flatMap (secM s y sec) ++ (s.take (64 * k + 64)).drop (64 * k) = (List.range (k + 1)).flatMap (secM s y sec) := by
        rw [hsn]; congr 1
        unfold secM
        rw [if_neg (by omega), List.drop_take]; congr 1; omega
      rw [e]
      exact f_next (by repeat (first | with_reducible exact Ent.nil | (apply Ent.one; focus (repeat (first | with_reducible exact Rem.here | apply Rem.there))))) (by repeat (first | exact trivial | refine ⟨rfl, ?_⟩)) (ih (k + 1) hlt (by omega))
    · rw [hb]
      refine o_y (y_eql_t rfl rfl (by omega)) rfl ?_
      refine o_nil ?_
      refine f_seq ?_
      refine c_true rfl ?_
      refine c_region ?_
      refine o_y (y_move rfl) rfl ?_
      refine o_y (y_move rfl) rfl ?_
      refine o_y (y_move rfl) rfl ?_
      refine o_y (y_arith64 rfl rfl rfl (by omega)) rfl ?_
      refine o_y (y_move rfl) rfl ?_
      refine o_y (y_arith64 rfl rfl rfl (by omega)) rfl ?_
      refine o_y (y_arith64 rfl rfl rfl (by omega)) rfl ?_
      refine o_y (y_slice_str (64 * k) (64 * k + 64) rfl (by show some (64 * (k : Int)) = some ((64 * k : Nat) : Int); congr 1) (by show some (64 * (k : Int) + 64) = some ((64 * k + 64 : Nat) : Int); congr 1) (by omega) (by omega)) rfl ?_
      have h1 : (((y.take (64 * k + 64)).drop (64 * k))).length = 64 := by rw [List.length_drop, List.length_take]; omega
      refine o_y (y_add_str rfl rfl (by rw [hn, h1]; omega)) rfl ?_
      refine o_y (y_assign rfl) rfl ?_
      refine o_nil ?_
      refine f_block ?_
      refine f_seq ?_
      refine c_region ?_
      refine o_y (y_move rfl) rfl ?_
      refine o_y (y_arith64 rfl rfl rfl (by omega)) rfl ?_
      refine o_y (y_assign rfl) rfl ?_
      refine o_nil ?_
      have e : (List.range k).flatMap (secM s y sec) ++ (y.take (64 * k + 64)).drop (64 * k) = (List.range (k + 1)).flatMap (secM s y sec) := by
        rw [hsn]; congr 1
        unfold secM
        rw [if_pos hb, List.drop_take]; congr 1; omega
      rw [e]
      exact f_next (by repeat (first | with_reducible exact Ent.nil | (apply Ent.one; focus (repeat (first | with_reducible exact Rem.here | apply Rem.there))))) (by repeat (first | exact trivial | refine ⟨rfl, ?_⟩)) (ih (k + 1) hlt (by omega))
  · have : k = 4 := by omega
    subst this
    refine c_seq ?_
    refine c_seq ?_
    refine c_region ?_
    refine o_y (y_move rfl) rfl ?_
    refine o_y (y_lss_f rfl rfl (by omega)) rfl ?_
    refine o_nil ?_
    refine f_seq ?_
    refine c_false rfl ?_
    refine c_exit ?_
    refine f_seq_exit ?_
    refine f_seq_exit ?_
    refine f_block_here ?_
    refine f_seq ?_
    refine c_seq ?_
    refine c_region ?_
    refine o_y (y_move rfl) rfl ?_
    refine o_y (y_assign rfl) rfl ?_
    refine o_nil ?_
    refine f_seq ?_
    refine c_ret ?_
    exact f_ent Ent.nil (f_ret rfl ⟨rfl, rfl⟩)

theorem over_f (s y : Bytes) (at_ : Int) (k : Nat) (ha : at_ = (k : Int)) (hk : k + y.length ≤ s.length) (hs : s.length ≤ 1000000) :
    Fn Try.prog 34 [str s, .int .i64 at_, str y] [] (fun v L => v = str (overM s k y) ∧ L = []) := by
  refine fn_start Try.func34 rfl rfl rfl fun F => ?_
  subst ha
  refine c_seq ?_
  refine c_region ?_
  refine o_y (y_assign rfl) rfl ?_
  refine o_nil ?_
  refine f_seq ?_
  refine c_seq ?_
  refine pl_start [] Try.mixed ?_; intro hd
  refine pl_take (i := 0) rfl (by kernel_rfl) (y_move rfl) ?_ hd; clear hd; intro hd
  refine pl_take (i := 1) rfl (by kernel_rfl) (y_move rfl) ?_ hd; clear hd; intro hd
  refine pl_take (i := 2) rfl (by kernel_rfl) (y_slice_str 0 k rfl rfl rfl (by omega) (by omega)) ?_ hd; clear hd; intro hd
  refine pl_take (i := 3) rfl (by kernel_rfl) (y_move rfl) ?_ hd; clear hd; intro hd
  refine pl_take (i := 4) rfl (by kernel_rfl) (y_add_str rfl rfl (by rw [List.length_drop, List.length_take]; omega)) ?_ hd; clear hd; intro hd
  refine pl_take (i := 5) rfl (by kernel_rfl) (y_move rfl) ?_ hd; clear hd; intro hd
  refine pl_take (i := 6) rfl (by kernel_rfl) (y_move rfl) ?_ hd; clear hd; intro hd
  refine pl_take (i := 7) rfl (by kernel_rfl) (y_move rfl) ?_ hd; clear hd; intro hd
  refine pl_take (i := 8) rfl (by kernel_rfl) (y_len_str rfl) ?_ hd; clear hd; intro hd
  refine pl_take (i := 9) rfl (by kernel_rfl) (y_arith64 rfl rfl rfl (by omega)) ?_ hd; clear hd; intro hd
  refine pl_take (i := 10) rfl (by kernel_rfl) (y_slice_str (k + y.length) s.length rfl (by show some ((k : Int) + (y.length : Int)) = some ((k + y.length : Nat) : Int); congr 1) rfl (by omega) (by omega)) ?_ hd; clear hd; intro hd
  refine pl_take (i := 11) rfl (by kernel_rfl) (y_add_str rfl rfl (by simp only [List.length_append, List.length_drop, List.length_take]; omega)) ?_ hd; clear hd; intro hd
  refine pl_take (i := 12) rfl (by kernel_rfl) (y_assign rfl) ?_ hd; clear hd; intro hd
  refine pl_done (by kernel_rfl) ?_ hd
  refine f_seq ?_
  refine c_ret ?_
  refine f_ent Ent.nil (f_ret rfl ⟨?_, rfl⟩)
  unfold overM
  simp only [tup, List.drop_zero, List.take_length]

structure MA where
  la : Option Addr
  lc : Nat
  wa : Option Addr
  wc : Nat
abbrev RM.cells (M : RM) (A : MA) : List Value := [.int .i64 M.most, .slice A.la M.last.length A.lc, .slice A.wa M.loose.length A.wc, .bool M.burns, .int .i64 M.fuse]
abbrev RM.val (M : RM) (A : MA) : Value := .agg ⟨M.cells A⟩
abbrev RowL (M : RM) (A : MA) : Asrt := RowA false strC 1 A.la M.last
abbrev RowW (M : RM) (A : MA) : Asrt := RowA false wrC 2 A.wa M.loose

theorem rowl_get {l : List Bytes} {cs : List Value} {off : Nat} {p : Int} (h : getN cs off (l.length * 1) = some (l.flatMap strC)) (hp : 0 ≤ p ∧ p < l.length) : cs[off + p.toNat * 1]? = some (str (getM l p)) := by
  have hg : l[p.toNat]? = some (getM l p) := by
    unfold getM
    rw [List.getD_eq_getElem?_getD, List.getElem?_eq_getElem (by omega)]; rfl
  have g1 := getN_sub h (flat_get strC 1 (fun _ => rfl) hg)
  have g2 := (takeN_get g1).2 0 (by decide)
  rw [List.getElem?_drop, Nat.add_zero] at g2
  exact g2
theorem roww_get {l : List (Int × Bytes)} {cs : List Value} {off i : Nat} {w : Int × Bytes} (h : getN cs off (l.length * 2) = some (l.flatMap wrC)) (hw : l[i]? = some w) : getN cs (off + i * 2) 2 = some [.int .i64 w.1, str w.2] ∧ cs[off + i * 2 + 0]? = some (.int .i64 w.1) ∧ cs[off + i * 2 + 1]? = some (str w.2) := by
  have g1 := getN_sub h (flat_get wrC 2 (fun _ => rfl) hw)
  refine ⟨g1, ?_, ?_⟩
  · have g2 := (takeN_get g1).2 0 (by decide)
    rw [List.getElem?_drop] at g2
    exact g2
  · have g2 := (takeN_get g1).2 1 (by decide)
    rw [List.getElem?_drop] at g2
    exact g2
end Go.Lun

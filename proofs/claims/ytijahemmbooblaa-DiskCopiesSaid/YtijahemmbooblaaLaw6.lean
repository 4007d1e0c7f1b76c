/- The law on syncs. -/
import Derived.Test.YtijahemmbooblaaLaw5
import Derived.Test.YtijahemmbooblaaLaw2
namespace Go.Lun
open Go.Proofs

theorem read_write (S : DS) (p : Int) (l : Bytes) (x : Int) : (S.write p l).read x = if x = p then l else S.read x := by
  unfold DS.read DS.write upd
  dsimp only
  generalize List.replicate 256 (0 : UInt8) = z
  by_cases h : x = p <;> simp [h]
theorem read_spoil (S : DS) (p : Int) (k : Nat) (l : Bytes) (x : Int) : (S.spoil p k l).read x = if x = p then splb (S.read p) k l else S.read x := by
  have h0 : page0 = List.replicate 256 0 := pad0
  unfold DS.read DS.spoil upd
  rw [h0]
  dsimp only
  generalize List.replicate 256 (0 : UInt8) = z
  by_cases h : x = p
  · subst h
    cases hn : S.now x with
    | none => simp
    | some o => simp
  · simp [h]
theorem read_sync {S : DS} {c : Nat} (h : DI c S) (x : Int) : S.sync.read x = S.read x := by
  have h1 := lay_now h x
  have h2 : S.sync.now x = none := rfl
  unfold DS.read
  rw [h2, h1]
  cases S.now x <;> rfl

structure SR (A B : DS) : Prop where
  most : A.most = B.most
  pages : A.pages = B.pages
  ab : A.burns = false
  bb : B.burns = false
  read : ∀ x, A.read x = B.read x

theorem SR.sync {A B : DS} {c : Nat} (h : SR A B) (hB : DI c B) : SR A B.sync := ⟨h.most, h.pages, h.ab, h.bb, fun x => by rw [read_sync hB]; exact h.read x⟩

theorem SR.act {A B : DS} {c : Nat} {x : ActM} (h : SR A B) (hA : DI c A) (hB : DI c B) (h3 : x.kind ≠ 3) (h6 : x.kind ≠ 6) : (A.act x).2 = (B.act x).2 ∧ SR (A.act x).1 (B.act x).1 := by
  have dA : A.dead = false := by simp [DS.dead, h.ab]
  have dB : B.dead = false := by simp [DS.dead, h.bb]
  have hp : ∀ p, A.has p ↔ B.has p := fun p => by unfold DS.has; rw [h.pages]
  unfold DS.act
  simp only [dA, dB, h.most, hp, h3, h6, if_false, Bool.false_eq_true]
  split
  · split
    · exact ⟨rfl, h⟩
    · exact ⟨rfl, ⟨h.most, by simp only [DS.grow, h.pages], h.ab, h.bb, h.read⟩⟩
  split
  · split
    · exact ⟨rfl, h⟩
    split
    · exact ⟨rfl, h⟩
    · exact ⟨rfl, ⟨h.most, h.pages, h.ab, h.bb, fun y => by rw [read_write, read_write, h.read]⟩⟩
  split
  · exact ⟨rfl, ⟨h.most, h.pages, h.ab, h.bb, fun y => by rw [read_sync hA, read_sync hB, h.read]⟩⟩
  split
  · split
    · exact ⟨rfl, h⟩
    split
    · exact ⟨rfl, h⟩
    · exact ⟨rfl, ⟨h.most, h.pages, h.ab, h.bb, fun y => by rw [read_spoil, read_spoil, h.read, h.read]⟩⟩
  · exact ⟨rfl, h⟩

theorem act_kind {x : ActM} {cs : List Value} {off : Nat} (h : getN cs off 6 = some x.cells) : cs[off]? = some (.int .i64 x.kind) := by
  have := (takeN_get h).2 0 (by decide)
  rw [List.getElem?_drop, Nat.add_zero] at this
  exact this
theorem act_get {xs : List ActM} {cs : List Value} {off i : Nat} {x : ActM} (h : getN cs off (xs.length * 6) = some (xs.flatMap ActM.cells)) (hx : xs[i]? = some x) : getN cs (off + i * 6) 6 = some x.cells :=
  getN_sub h (flat_get ActM.cells 6 (fun _ => rfl) hx)

set_option maxHeartbeats 3200000 in
theorem syncs_f (a w : Option Addr) (ac wc : Nat) (xs : List ActM) (bs : List Bool) (hok : ∀ x ∈ xs, x.ok) :
    Fn Try.prog 7 [.slice a xs.length ac, .slice w bs.length wc] [RowA false ActM.cells 6 a xs, Star (xs.map KA), RowA false (fun b : Bool => [.bool b]) 1 w bs] (fun v L => v = .bool true ∧ L = []) := by
  refine fn_start Try.func7 rfl rfl rfl fun F => ?_
  refine c_seq ?_
  refine c_region ?_
  refine o_y (y_assign rfl) rfl ?_
  refine o_nil ?_
  refine f_seq ?_
  refine c_seq ?_
  refine c_region ?_
  refine o_call rfl (new_d 20) (by repeat (first | with_reducible exact Takes.nil | (apply Takes.cons; focus (repeat (first | with_reducible exact Rem.here | apply Rem.there))))) rfl ?_
  rintro _ _ (⟨h, -⟩ | ⟨-, d, rfl, rfl⟩)
  · omega
  simp only [List.append_eq, List.cons_append, List.nil_append, List.append_nil, tup]
  refine o_y (y_move rfl) rfl ?_
  refine o_y (y_extract rfl rfl) rfl ?_
  refine o_y (y_extract rfl rfl) rfl ?_
  refine o_y (y_assign rfl) rfl ?_
  refine o_y (y_assign rfl) rfl ?_
  refine o_nil ?_
  refine f_seq ?_
  refine c_seq ?_
  refine c_region ?_
  refine o_call rfl (new_d 20) (by repeat (first | with_reducible exact Takes.nil | (apply Takes.cons; focus (repeat (first | with_reducible exact Rem.here | apply Rem.there))))) rfl ?_
  rintro _ _ (⟨h, -⟩ | ⟨-, e, rfl, rfl⟩)
  · omega
  simp only [List.append_eq, List.cons_append, List.nil_append, List.append_nil, tup]
  refine o_y (y_move rfl) rfl ?_
  refine o_y (y_extract rfl rfl) rfl ?_
  refine o_y (y_extract rfl rfl) rfl ?_
  refine o_y (y_assign rfl) rfl ?_
  refine o_y (y_assign rfl) rfl ?_
  refine o_nil ?_
  refine f_seq ?_
  refine c_seq ?_
  refine c_seq ?_
  refine c_region ?_
  refine o_call rfl awake_f (by repeat (first | with_reducible exact Takes.nil | (apply Takes.cons; focus (repeat (first | with_reducible exact Rem.here | apply Rem.there))))) rfl ?_
  rintro _ _ ⟨rfl, rfl⟩
  simp only [List.append_eq, List.cons_append, List.nil_append, List.append_nil, tup]
  refine o_y (y_not rfl) rfl ?_
  refine o_y (y_move rfl) rfl ?_
  refine o_want rfl ?_
  refine o_y (y_move rfl) rfl ?_
  refine o_want rfl ?_
  refine o_y (y_neq_f rfl rfl (by omega)) rfl ?_
  refine o_y (y_pick_f rfl rfl) rfl ?_
  refine o_y (y_move rfl) rfl ?_
  refine o_want rfl ?_
  refine o_y (y_move rfl) rfl ?_
  refine o_want rfl ?_
  refine o_y (y_neq_f rfl rfl (by omega)) rfl ?_
  refine o_y (y_pick_f rfl rfl) rfl ?_
  refine o_y (y_move rfl) rfl ?_
  refine o_want rfl ?_
  refine o_y (y_move rfl) rfl ?_
  refine o_want rfl ?_
  refine o_y (y_eql_nil rfl rfl) rfl ?_
  refine o_y (y_pick_f rfl rfl) rfl ?_
  refine o_y (y_move rfl) rfl ?_
  refine o_want rfl ?_
  refine o_y (y_move rfl) rfl ?_
  refine o_want rfl ?_
  refine o_y (y_eql_nil rfl rfl) rfl ?_
  refine o_y (y_pick_f rfl rfl) rfl ?_
  refine o_nil ?_
  refine f_seq ?_
  refine c_false rfl ?_
  refine c_skip ?_
  refine f_seq ?_
  refine c_seq ?_
  refine c_seq ?_
  refine c_region ?_
  refine o_y (y_assign rfl) rfl ?_
  refine o_nil ?_
  refine f_seq ?_
  refine c_block ?_
  refine c_loop_inv (X := Nat × DS × DS) (fun x => x.1 ≤ 60 ∧ DI (2 * x.1) x.2.1 ∧ DI (2 * x.1) x.2.2 ∧ SR x.2.1 x.2.2) (fun x => 60 - x.1)
    (fun x => [DRep d x.2.1, DRep e x.2.2, RowA false ActM.cells 6 a xs, Star (xs.map KA), RowA false (fun b : Bool => [.bool b]) 1 w bs])
    (fun x => [(0, .slice a xs.length ac), (1, .slice w bs.length wc), (5, .pointer (some ⟨d, 0, none⟩)), (7, .pointer (some ⟨e, 0, none⟩)), (9, .int .i64 (x.1 : Int))]) (0, DS.new 20, DS.new 20)
    ⟨by decide, ⟨by decide, by decide, by decide, rfl, by decide, by decide⟩, ⟨by decide, by decide, by decide, rfl, by decide, by decide⟩, ⟨rfl, rfl, rfl, rfl, fun _ => rfl⟩⟩ (by repeat (first | with_reducible exact Ent.nil | (apply Ent.one; focus (repeat (first | with_reducible exact Rem.here | apply Rem.there))))) (by repeat (first | exact trivial | refine ⟨rfl, ?_⟩)) ?_
  rintro ⟨i, A, B⟩ ⟨hi, hA, hB, hR⟩ ih
  dsimp only at hi hA hB hR ih ⊢
  by_cases hlt : i < xs.length ∧ i < 60
  case neg =>
    clear ih
    by_cases hl1 : i < xs.length
    · have hl2 : ¬ i < 60 := fun h => hlt ⟨hl1, h⟩
      refine c_seq ?_
      refine c_seq ?_
      refine c_region ?_
      refine o_y (y_move rfl) rfl ?_
      refine o_y (y_move rfl) rfl ?_
      refine o_y (y_len_slice rfl) rfl ?_
      refine o_y (y_lss_t rfl rfl (by omega)) rfl ?_
      refine o_y (y_move rfl) rfl ?_
      refine o_want rfl ?_
      refine o_y (y_move rfl) rfl ?_
      refine o_want rfl ?_
      refine o_y (y_lss_f rfl rfl (by omega)) rfl ?_
      refine o_y (y_pick_t rfl rfl) rfl ?_
      refine o_nil ?_
      refine f_seq ?_
      refine c_false rfl ?_
      refine c_exit ?_
      refine f_seq_exit ?_
      refine f_seq_exit ?_
      refine f_block_here ?_
      refine f_seq ?_
      refine c_seq ?_
      refine c_seq ?_
      refine c_region ?_
      refine o_y (y_assign rfl) rfl ?_
      refine o_nil ?_
      refine f_seq ?_
      refine c_block ?_
      refine c_loop_inv (X := Nat) (fun _ => True) (fun j => A.pages.toNat - j) (fun _ => [DRep d A, DRep e B]) (fun j => [(5, .pointer (some ⟨d, 0, none⟩)), (7, .pointer (some ⟨e, 0, none⟩)), (10, .int .i64 (j : Int))]) 0 trivial (by repeat (first | with_reducible exact Ent.nil | (apply Ent.one; focus (repeat (first | with_reducible exact Rem.here | apply Rem.there))))) (by repeat (first | exact trivial | refine ⟨rfl, ?_⟩)) ?_
      intro j _ ih
      refine c_seq ?_
      refine c_seq ?_
      refine c_region ?_
      refine o_y (y_move rfl) rfl ?_
      refine o_y (y_move rfl) rfl ?_
      refine o_call rfl (pages_d d A) (by repeat (first | with_reducible exact Takes.nil | (apply Takes.cons; focus (repeat (first | with_reducible exact Rem.here | apply Rem.there))))) rfl ?_
      rintro _ _ ⟨rfl, rfl⟩
      simp only [List.append_eq, List.cons_append, List.nil_append, List.append_nil, tup]
      have r1 := hA.most
      have r2 := hA.room
      by_cases hj : (j : Int) < A.pages
      · refine o_y (y_lss_t rfl rfl (by omega)) rfl ?_
        refine o_nil ?_
        refine f_seq ?_
        refine c_true rfl ?_
        refine c_skip ?_
        refine f_seq ?_
        refine c_seq ?_
        refine c_block ?_
        refine c_seq ?_
        refine c_region ?_
        refine o_y (y_move rfl) rfl ?_
        refine o_y (y_move rfl) rfl ?_
        refine o_call rfl (read_ok d A j ⟨by omega, hj⟩) (by repeat (first | with_reducible exact Takes.nil | (apply Takes.cons; focus (repeat (first | with_reducible exact Rem.here | apply Rem.there))))) rfl ?_
        rintro _ _ ⟨b1, rfl, rfl, l1⟩
        simp only [List.append_eq, List.cons_append, List.nil_append, List.append_nil, tup]
        refine o_y (y_move rfl) rfl ?_
        refine o_y (y_extract rfl rfl) rfl ?_
        refine o_y (y_extract rfl rfl) rfl ?_
        refine o_y (y_assign rfl) rfl ?_
        refine o_y (y_assign rfl) rfl ?_
        refine o_nil ?_
        refine f_seq ?_
        refine c_seq ?_
        refine c_region ?_
        refine o_y (y_move rfl) rfl ?_
        refine o_y (y_move rfl) rfl ?_
        refine o_call rfl (read_ok e B j ⟨by omega, by rw [← hR.pages]; exact hj⟩) (by repeat (first | with_reducible exact Takes.nil | (apply Takes.cons; focus (repeat (first | with_reducible exact Rem.here | apply Rem.there))))) rfl ?_
        rintro _ _ ⟨b2, rfl, rfl, l2⟩
        simp only [List.append_eq, List.cons_append, List.nil_append, List.append_nil, tup]
        refine o_y (y_move rfl) rfl ?_
        refine o_y (y_extract rfl rfl) rfl ?_
        refine o_y (y_extract rfl rfl) rfl ?_
        refine o_y (y_assign rfl) rfl ?_
        refine o_y (y_assign rfl) rfl ?_
        refine o_nil ?_
        refine f_seq ?_
        refine c_seq ?_
        refine c_region ?_
        refine o_y (y_move rfl) rfl ?_
        refine o_y (y_neq_f rfl rfl (by omega)) rfl ?_
        refine o_y (y_move rfl) rfl ?_
        refine o_want rfl ?_
        refine o_y (y_move rfl) rfl ?_
        refine o_want rfl ?_
        refine o_y (y_neq_f rfl rfl (by omega)) rfl ?_
        refine o_y (y_pick_f rfl rfl) rfl ?_
        refine o_y (y_move rfl) rfl ?_
        refine o_want rfl ?_
        refine o_y (y_move rfl) rfl ?_
        refine o_want rfl ?_
        refine o_y (y_conv_str (l := A.read j) rfl (by have := getN_front ((A.read j).map byteV) []; simpa [l1] using this)) rfl ?_
        refine o_want rfl ?_
        refine o_y (y_move rfl) rfl ?_
        refine o_want rfl ?_
        refine o_y (y_conv_str (l := B.read j) rfl (by have := getN_front ((B.read j).map byteV) []; simpa [l2] using this)) rfl ?_
        refine o_want rfl ?_
        refine o_y (y_eq_str (c := false) rfl rfl (by show false = !decide (A.read j = B.read j); simp [hR.read])) rfl ?_
        refine o_y (y_pick_f rfl rfl) rfl ?_
        refine o_nil ?_
        refine f_seq ?_
        refine c_false rfl ?_
        refine c_skip ?_
        refine f_block ?_
        refine f_seq ?_
        refine c_region ?_
        refine o_y (y_move rfl) rfl ?_
        refine o_y (y_arith64 rfl rfl rfl (by omega)) rfl ?_
        refine o_y (y_assign rfl) rfl ?_
        refine o_nil ?_
        exact f_next (by repeat (first | with_reducible exact Ent.nil | (apply Ent.one; focus (repeat (first | with_reducible exact Rem.here | apply Rem.there))))) (by repeat (first | exact trivial | refine ⟨rfl, ?_⟩)) (ih (j + 1) trivial (by omega))
      · refine o_y (y_lss_f rfl rfl (by omega)) rfl ?_
        refine o_nil ?_
        refine f_seq ?_
        refine c_false rfl ?_
        refine c_exit ?_
        refine f_seq_exit ?_
        refine f_seq_exit ?_
        refine f_block_here ?_
        refine f_seq ?_
        refine c_seq ?_
        refine c_region ?_
        refine o_y (y_move rfl) rfl ?_
        refine o_call rfl (pages_d d A) (by repeat (first | with_reducible exact Takes.nil | (apply Takes.cons; focus (repeat (first | with_reducible exact Rem.here | apply Rem.there))))) rfl ?_
        rintro _ _ ⟨rfl, rfl⟩
        simp only [List.append_eq, List.cons_append, List.nil_append, List.append_nil, tup]
        refine o_y (y_move rfl) rfl ?_
        refine o_call rfl (pages_d e B) (by repeat (first | with_reducible exact Takes.nil | (apply Takes.cons; focus (repeat (first | with_reducible exact Rem.here | apply Rem.there))))) rfl ?_
        rintro _ _ ⟨rfl, rfl⟩
        simp only [List.append_eq, List.cons_append, List.nil_append, List.append_nil, tup]
        rw [← hR.pages]
        refine o_y (y_eql_t rfl rfl (by omega)) rfl ?_
        refine o_y (y_assign rfl) rfl ?_
        refine o_nil ?_
        refine f_seq ?_
        refine c_ret ?_
        exact f_ent Ent.nil (f_ret rfl ⟨rfl, rfl⟩)
    · refine c_seq ?_
      refine c_seq ?_
      refine c_region ?_
      refine o_y (y_move rfl) rfl ?_
      refine o_y (y_move rfl) rfl ?_
      refine o_y (y_len_slice rfl) rfl ?_
      refine o_y (y_lss_f rfl rfl (by omega)) rfl ?_
      refine o_y (y_move rfl) rfl ?_
      refine o_skip rfl rfl ?_
      refine o_skip rfl rfl ?_
      refine o_y (y_pick_f rfl rfl) rfl ?_
      refine o_nil ?_
      refine f_seq ?_
      refine c_false rfl ?_
      refine c_exit ?_
      refine f_seq_exit ?_
      refine f_seq_exit ?_
      refine f_block_here ?_
      refine f_seq ?_
      refine c_seq ?_
      refine c_seq ?_
      refine c_region ?_
      refine o_y (y_assign rfl) rfl ?_
      refine o_nil ?_
      refine f_seq ?_
      refine c_block ?_
      refine c_loop_inv (X := Nat) (fun _ => True) (fun j => A.pages.toNat - j) (fun _ => [DRep d A, DRep e B]) (fun j => [(5, .pointer (some ⟨d, 0, none⟩)), (7, .pointer (some ⟨e, 0, none⟩)), (10, .int .i64 (j : Int))]) 0 trivial (by repeat (first | with_reducible exact Ent.nil | (apply Ent.one; focus (repeat (first | with_reducible exact Rem.here | apply Rem.there))))) (by repeat (first | exact trivial | refine ⟨rfl, ?_⟩)) ?_
      intro j _ ih
      refine c_seq ?_
      refine c_seq ?_
      refine c_region ?_
      refine o_y (y_move rfl) rfl ?_
      refine o_y (y_move rfl) rfl ?_
      refine o_call rfl (pages_d d A) (by repeat (first | with_reducible exact Takes.nil | (apply Takes.cons; focus (repeat (first | with_reducible exact Rem.here | apply Rem.there))))) rfl ?_
      rintro _ _ ⟨rfl, rfl⟩
      simp only [List.append_eq, List.cons_append, List.nil_append, List.append_nil, tup]
      have r1 := hA.most
      have r2 := hA.room
      by_cases hj : (j : Int) < A.pages
      · refine o_y (y_lss_t rfl rfl (by omega)) rfl ?_
        refine o_nil ?_
        refine f_seq ?_
        refine c_true rfl ?_
        refine c_skip ?_
        refine f_seq ?_
        refine c_seq ?_
        refine c_block ?_
        refine c_seq ?_
        refine c_region ?_
        refine o_y (y_move rfl) rfl ?_
        refine o_y (y_move rfl) rfl ?_
        refine o_call rfl (read_ok d A j ⟨by omega, hj⟩) (by repeat (first | with_reducible exact Takes.nil | (apply Takes.cons; focus (repeat (first | with_reducible exact Rem.here | apply Rem.there))))) rfl ?_
        rintro _ _ ⟨b1, rfl, rfl, l1⟩
        simp only [List.append_eq, List.cons_append, List.nil_append, List.append_nil, tup]
        refine o_y (y_move rfl) rfl ?_
        refine o_y (y_extract rfl rfl) rfl ?_
        refine o_y (y_extract rfl rfl) rfl ?_
        refine o_y (y_assign rfl) rfl ?_
        refine o_y (y_assign rfl) rfl ?_
        refine o_nil ?_
        refine f_seq ?_
        refine c_seq ?_
        refine c_region ?_
        refine o_y (y_move rfl) rfl ?_
        refine o_y (y_move rfl) rfl ?_
        refine o_call rfl (read_ok e B j ⟨by omega, by rw [← hR.pages]; exact hj⟩) (by repeat (first | with_reducible exact Takes.nil | (apply Takes.cons; focus (repeat (first | with_reducible exact Rem.here | apply Rem.there))))) rfl ?_
        rintro _ _ ⟨b2, rfl, rfl, l2⟩
        simp only [List.append_eq, List.cons_append, List.nil_append, List.append_nil, tup]
        refine o_y (y_move rfl) rfl ?_
        refine o_y (y_extract rfl rfl) rfl ?_
        refine o_y (y_extract rfl rfl) rfl ?_
        refine o_y (y_assign rfl) rfl ?_
        refine o_y (y_assign rfl) rfl ?_
        refine o_nil ?_
        refine f_seq ?_
        refine c_seq ?_
        refine c_region ?_
        refine o_y (y_move rfl) rfl ?_
        refine o_y (y_neq_f rfl rfl (by omega)) rfl ?_
        refine o_y (y_move rfl) rfl ?_
        refine o_want rfl ?_
        refine o_y (y_move rfl) rfl ?_
        refine o_want rfl ?_
        refine o_y (y_neq_f rfl rfl (by omega)) rfl ?_
        refine o_y (y_pick_f rfl rfl) rfl ?_
        refine o_y (y_move rfl) rfl ?_
        refine o_want rfl ?_
        refine o_y (y_move rfl) rfl ?_
        refine o_want rfl ?_
        refine o_y (y_conv_str (l := A.read j) rfl (by have := getN_front ((A.read j).map byteV) []; simpa [l1] using this)) rfl ?_
        refine o_want rfl ?_
        refine o_y (y_move rfl) rfl ?_
        refine o_want rfl ?_
        refine o_y (y_conv_str (l := B.read j) rfl (by have := getN_front ((B.read j).map byteV) []; simpa [l2] using this)) rfl ?_
        refine o_want rfl ?_
        refine o_y (y_eq_str (c := false) rfl rfl (by show false = !decide (A.read j = B.read j); simp [hR.read])) rfl ?_
        refine o_y (y_pick_f rfl rfl) rfl ?_
        refine o_nil ?_
        refine f_seq ?_
        refine c_false rfl ?_
        refine c_skip ?_
        refine f_block ?_
        refine f_seq ?_
        refine c_region ?_
        refine o_y (y_move rfl) rfl ?_
        refine o_y (y_arith64 rfl rfl rfl (by omega)) rfl ?_
        refine o_y (y_assign rfl) rfl ?_
        refine o_nil ?_
        exact f_next (by repeat (first | with_reducible exact Ent.nil | (apply Ent.one; focus (repeat (first | with_reducible exact Rem.here | apply Rem.there))))) (by repeat (first | exact trivial | refine ⟨rfl, ?_⟩)) (ih (j + 1) trivial (by omega))
      · refine o_y (y_lss_f rfl rfl (by omega)) rfl ?_
        refine o_nil ?_
        refine f_seq ?_
        refine c_false rfl ?_
        refine c_exit ?_
        refine f_seq_exit ?_
        refine f_seq_exit ?_
        refine f_block_here ?_
        refine f_seq ?_
        refine c_seq ?_
        refine c_region ?_
        refine o_y (y_move rfl) rfl ?_
        refine o_call rfl (pages_d d A) (by repeat (first | with_reducible exact Takes.nil | (apply Takes.cons; focus (repeat (first | with_reducible exact Rem.here | apply Rem.there))))) rfl ?_
        rintro _ _ ⟨rfl, rfl⟩
        simp only [List.append_eq, List.cons_append, List.nil_append, List.append_nil, tup]
        refine o_y (y_move rfl) rfl ?_
        refine o_call rfl (pages_d e B) (by repeat (first | with_reducible exact Takes.nil | (apply Takes.cons; focus (repeat (first | with_reducible exact Rem.here | apply Rem.there))))) rfl ?_
        rintro _ _ ⟨rfl, rfl⟩
        simp only [List.append_eq, List.cons_append, List.nil_append, List.append_nil, tup]
        rw [← hR.pages]
        refine o_y (y_eql_t rfl rfl (by omega)) rfl ?_
        refine o_y (y_assign rfl) rfl ?_
        refine o_nil ?_
        refine f_seq ?_
        refine c_ret ?_
        exact f_ent Ent.nil (f_ret rfl ⟨rfl, rfl⟩)
  case pos =>
  obtain ⟨hl1, hl2⟩ := hlt
  have hxx : xs[i]? = some xs[i] := List.getElem?_eq_getElem hl1
  have hxo : xs[i].ok := hok _ (List.getElem_mem hl1)
  generalize xs[i] = x at hxx hxo
  have hne : xs ≠ [] := by intro h; rw [h] at hl1; exact absurd hl1 (by simp)
  refine c_open (h := RowA.opens (f := ActM.cells) hne) (by repeat (first | with_reducible exact Rem.here | apply Rem.there)) (fun y hy2 => ?_)
  obtain ⟨kb, ko, cs, T, fz⟩ := y
  obtain ⟨e1, e2⟩ := hy2
  dsimp only at e1 e2
  subst e1
  have hxg := act_get e2 hxx
  simp only [List.append_eq, List.cons_append, List.nil_append, List.append_nil, tup]
  refine c_seq ?_
  refine c_seq ?_
  refine c_region ?_
  refine o_y (y_move rfl) rfl ?_
  refine o_y (y_move rfl) rfl ?_
  refine o_y (y_len_slice rfl) rfl ?_
  refine o_y (y_lss_t rfl rfl (by omega)) rfl ?_
  refine o_y (y_move rfl) rfl ?_
  refine o_want rfl ?_
  refine o_y (y_move rfl) rfl ?_
  refine o_want rfl ?_
  refine o_y (y_lss_t rfl rfl (by omega)) rfl ?_
  refine o_y (y_pick_t rfl rfl) rfl ?_
  refine o_nil ?_
  refine f_seq ?_
  refine c_true rfl ?_
  refine c_skip ?_
  refine f_seq ?_
  refine c_seq ?_
  refine c_block ?_
  refine c_seq ?_
  refine c_seq ?_
  refine c_region ?_
  refine o_y (y_move rfl) rfl ?_
  refine o_y (y_move rfl) rfl ?_
  refine o_y (y_indexAddr i rfl rfl rfl hl1) rfl ?_
  refine o_y (y_loadN rfl rfl hxg) rfl ?_
  refine o_call rfl (few_f x) (by repeat (first | with_reducible exact Takes.nil | (apply Takes.cons; focus (repeat (first | with_reducible exact Rem.here | apply Rem.there))))) rfl ?_
  rintro _ _ ⟨rfl, rfl⟩
  simp only [List.append_eq, List.cons_append, List.nil_append, List.append_nil, tup]
  have hxk := act_kind hxg
  by_cases hf : x.few = true
  case neg =>
    rw [Bool.not_eq_true] at hf
    rw [hf]
    refine o_y (y_not rfl) rfl ?_
    refine o_y (y_move rfl) rfl ?_
    refine o_skip rfl rfl ?_
    refine o_skip rfl rfl ?_
    refine o_skip rfl rfl ?_
    refine o_skip rfl rfl ?_
    refine o_skip rfl rfl ?_
    refine o_skip rfl rfl ?_
    refine o_y (y_pick_t rfl rfl) rfl ?_
    refine o_y (y_move rfl) rfl ?_
    refine o_skip rfl rfl ?_
    refine o_skip rfl rfl ?_
    refine o_skip rfl rfl ?_
    refine o_skip rfl rfl ?_
    refine o_skip rfl rfl ?_
    refine o_skip rfl rfl ?_
    refine o_y (y_pick_t rfl rfl) rfl ?_
    refine o_nil ?_
    refine f_seq ?_
    refine c_true rfl ?_
    refine c_exit ?_
    refine f_seq_exit ?_
    refine f_block_here ?_
    refine f_seq ?_
    refine c_region ?_
    refine o_y (y_move rfl) rfl ?_
    refine o_y (y_arith64 rfl rfl rfl (by omega)) rfl ?_
    refine o_y (y_assign rfl) rfl ?_
    refine o_nil ?_
    refine f_next ?_ ?_ (ih (i + 1, A, B) ⟨hl2, hA.mono (by omega), hB.mono (by omega), hR⟩ (by dsimp only; omega))
    · dsimp only
      refine Ent.one (by repeat (first | with_reducible exact Rem.here | apply Rem.there)) ?_
      refine Ent.one (by repeat (first | with_reducible exact Rem.here | apply Rem.there)) ?_
      refine Ent.put (by repeat (first | with_reducible exact Takes.nil | (apply Takes.cons; focus (repeat (first | with_reducible exact Rem.here | apply Rem.there))))) (RowA.shut rfl e2) ?_
      repeat (first | with_reducible exact Ent.nil | (apply Ent.one; focus (repeat (first | with_reducible exact Rem.here | apply Rem.there))))
    · repeat (first | exact trivial | refine ⟨rfl, ?_⟩)
  case pos =>
  rw [hf]
  refine o_y (y_not rfl) rfl ?_
  refine o_y (y_move rfl) rfl ?_
  refine o_want rfl ?_
  refine o_y (y_move rfl) rfl ?_
  refine o_want rfl ?_
  refine o_y (y_move rfl) rfl ?_
  refine o_want rfl ?_
  refine o_y (y_indexAddr i rfl rfl rfl hl1) rfl ?_
  refine o_want rfl ?_
  refine o_y (y_fieldAddr rfl) rfl ?_
  refine o_want rfl ?_
  refine o_y (y_load rfl rfl (by rw [Nat.add_zero]; exact hxk)) rfl ?_
  by_cases h3 : x.kind = 3
  case pos =>
    refine o_want rfl ?_
    refine o_y (y_eql_t rfl rfl (by omega)) rfl ?_
    refine o_y (y_pick_f rfl rfl) rfl ?_
    refine o_y (y_move rfl) rfl ?_
    refine o_skip rfl rfl ?_
    refine o_skip rfl rfl ?_
    refine o_skip rfl rfl ?_
    refine o_skip rfl rfl ?_
    refine o_skip rfl rfl ?_
    refine o_skip rfl rfl ?_
    refine o_y (y_pick_t rfl rfl) rfl ?_
    refine o_nil ?_
    refine f_seq ?_
    refine c_true rfl ?_
    refine c_exit ?_
    refine f_seq_exit ?_
    refine f_block_here ?_
    refine f_seq ?_
    refine c_region ?_
    refine o_y (y_move rfl) rfl ?_
    refine o_y (y_arith64 rfl rfl rfl (by omega)) rfl ?_
    refine o_y (y_assign rfl) rfl ?_
    refine o_nil ?_
    refine f_next ?_ ?_ (ih (i + 1, A, B) ⟨hl2, hA.mono (by omega), hB.mono (by omega), hR⟩ (by dsimp only; omega))
    · dsimp only
      refine Ent.one (by repeat (first | with_reducible exact Rem.here | apply Rem.there)) ?_
      refine Ent.one (by repeat (first | with_reducible exact Rem.here | apply Rem.there)) ?_
      refine Ent.put (by repeat (first | with_reducible exact Takes.nil | (apply Takes.cons; focus (repeat (first | with_reducible exact Rem.here | apply Rem.there))))) (RowA.shut rfl e2) ?_
      repeat (first | with_reducible exact Ent.nil | (apply Ent.one; focus (repeat (first | with_reducible exact Rem.here | apply Rem.there))))
    · repeat (first | exact trivial | refine ⟨rfl, ?_⟩)
  case neg =>
  refine o_want rfl ?_
  refine o_y (y_eql_f rfl rfl (by omega)) rfl ?_
  refine o_y (y_pick_f rfl rfl) rfl ?_
  refine o_y (y_move rfl) rfl ?_
  refine o_want rfl ?_
  refine o_y (y_move rfl) rfl ?_
  refine o_want rfl ?_
  refine o_y (y_move rfl) rfl ?_
  refine o_want rfl ?_
  refine o_y (y_indexAddr i rfl rfl rfl hl1) rfl ?_
  refine o_want rfl ?_
  refine o_y (y_fieldAddr rfl) rfl ?_
  refine o_want rfl ?_
  refine o_y (y_load rfl rfl (by rw [Nat.add_zero]; exact hxk)) rfl ?_
  by_cases h6 : x.kind = 6
  case pos =>
    refine o_want rfl ?_
    refine o_y (y_eql_t rfl rfl (by omega)) rfl ?_
    refine o_y (y_pick_f rfl rfl) rfl ?_
    refine o_nil ?_
    refine f_seq ?_
    refine c_true rfl ?_
    refine c_exit ?_
    refine f_seq_exit ?_
    refine f_block_here ?_
    refine f_seq ?_
    refine c_region ?_
    refine o_y (y_move rfl) rfl ?_
    refine o_y (y_arith64 rfl rfl rfl (by omega)) rfl ?_
    refine o_y (y_assign rfl) rfl ?_
    refine o_nil ?_
    refine f_next ?_ ?_ (ih (i + 1, A, B) ⟨hl2, hA.mono (by omega), hB.mono (by omega), hR⟩ (by dsimp only; omega))
    · dsimp only
      refine Ent.one (by repeat (first | with_reducible exact Rem.here | apply Rem.there)) ?_
      refine Ent.one (by repeat (first | with_reducible exact Rem.here | apply Rem.there)) ?_
      refine Ent.put (by repeat (first | with_reducible exact Takes.nil | (apply Takes.cons; focus (repeat (first | with_reducible exact Rem.here | apply Rem.there))))) (RowA.shut rfl e2) ?_
      repeat (first | with_reducible exact Ent.nil | (apply Ent.one; focus (repeat (first | with_reducible exact Rem.here | apply Rem.there))))
    · repeat (first | exact trivial | refine ⟨rfl, ?_⟩)
  case neg =>
  refine o_want rfl ?_
  refine o_y (y_eql_f rfl rfl (by omega)) rfl ?_
  refine o_y (y_pick_f rfl rfl) rfl ?_
  refine o_nil ?_
  refine f_seq ?_
  refine c_false rfl ?_
  refine c_skip ?_
  refine f_seq ?_
  refine c_seq ?_
  refine c_seq ?_
  obtain ⟨rs, s1, s2⟩ := star_at KA hxx
  refine c_ent (Takes.ent_of (P := [Star (xs.map KA)]) (by repeat (first | with_reducible exact Takes.nil | (apply Takes.cons; focus (repeat (first | with_reducible exact Rem.here | apply Rem.there))))) s1) ?_
  simp only [List.append_eq, List.cons_append, List.nil_append, List.append_nil, tup]
  obtain ⟨hans, hR2⟩ := hR.act hA hB h3 h6
  have hA2 := hA.act hf
  have hB2 := hB.act hf
  have a1 := hA.low
  have a2 := hA.high
  have a3 := hA.loose
  have b1 := hB.low
  have b2 := hB.high
  have b3 := hB.loose
  refine c_cut (X := Unit) (fun _ => [DRep d (A.act x).1, DRep e (B.act x).1, KA x, Star (rs.map KA), Bkp false kb (.cells ⟨cs⟩ T fz), RowA false (fun b : Bool => [.bool b]) 1 w bs])
    (fun _ => [(0, .slice (some ⟨kb, ko, none⟩) xs.length ac), (1, .slice w bs.length wc), (5, .pointer (some ⟨d, 0, none⟩)), (7, .pointer (some ⟨e, 0, none⟩)), (9, .int .i64 (i : Int)), (85, .bool false)]) ?_ ?_
  ·
    refine pl_start [5, 11] Try.mixed ?_; intro hd
    refine pl_lock (A := Bkp _ _ _) (Rem.there (Rem.there Rem.here)) rfl ?_ hd; intro hb0
    refine pl_take (i := 0) rfl (by kernel_rfl) (y_move rfl) ?_ hd; clear hd; intro hd
    refine pl_take (i := 1) rfl (by kernel_rfl) (y_move rfl) ?_ hd; clear hd; intro hd
    refine pl_take (i := 2) rfl (by kernel_rfl) (y_move rfl) ?_ hd; clear hd; intro hd
    refine pl_take (i := 3) rfl (by kernel_rfl) (y_indexAddr i rfl rfl rfl hl1) ?_ hd; clear hd; intro hd
    refine pl_take (i := 4) rfl (by kernel_rfl) (y_loadN rfl rfl hxg) ?_ hd; clear hd; intro hd
    refine pl_take (i := 6) rfl (by kernel_rfl) (y_move rfl) ?_ hd; clear hd; intro hd
    refine pl_take (i := 7) rfl (by kernel_rfl) (y_move rfl) ?_ hd; clear hd; intro hd
    refine pl_take (i := 8) rfl (by kernel_rfl) (y_move rfl) ?_ hd; clear hd; intro hd
    refine pl_take (i := 9) rfl (by kernel_rfl) (y_indexAddr i rfl rfl rfl hl1) ?_ hd; clear hd; intro hd
    refine pl_take (i := 10) rfl (by kernel_rfl) (y_loadN rfl rfl hxg) ?_ hd; clear hd; intro hd
    refine pl_sole (i := 5) (by kernel_rfl) rfl ?_ hd; clear hd; intro hd
    refine o_call rfl (do_d d A x hf hxo (by omega) (by omega) (by omega)) (by repeat (first | with_reducible exact Takes.nil | (apply Takes.cons; focus (repeat (first | with_reducible exact Rem.here | apply Rem.there))))) rfl ?_
    rintro _ _ ⟨rfl, rfl⟩
    simp only [List.append_eq, List.cons_append, List.nil_append, List.append_nil, tup]
    refine pl_back (by repeat (first | with_reducible exact Owes.nil | with_reducible refine Owes.same ?_ | with_reducible refine Owes.any ?_ | refine Owes.waived 5 (by kernel_rfl) ?_)) ?_ hd; clear hd; intro hd
    refine pl_sole (i := 11) (by kernel_rfl) rfl ?_ hd; clear hd; intro hd
    refine o_call rfl (do_d e B x hf hxo (by omega) (by omega) (by omega)) (by repeat (first | with_reducible exact Takes.nil | (apply Takes.cons; focus (repeat (first | with_reducible exact Rem.here | apply Rem.there))))) rfl ?_
    rintro _ _ ⟨rfl, rfl⟩
    simp only [List.append_eq, List.cons_append, List.nil_append, List.append_nil, tup]
    refine pl_back (by repeat (first | with_reducible exact Owes.nil | with_reducible refine Owes.same ?_ | with_reducible refine Owes.any ?_ | refine Owes.waived 11 (by kernel_rfl) ?_ | refine Owes.waived 5 (by kernel_rfl) ?_)) ?_ hd; clear hd; intro hd
    refine pl_take (i := 12) rfl (by kernel_rfl) (y_neq_f rfl rfl (by omega)) ?_ hd; clear hd; intro hd
    refine pl_done (by kernel_rfl) ?_ hd
    refine f_unlock (A := Bkp _ _ _) ?_
    exact f_cut () (by repeat (first | with_reducible exact Ent.nil | (apply Ent.one; focus (repeat (first | with_reducible exact Rem.here | apply Rem.there))))) (by repeat (first | exact trivial | refine ⟨rfl, ?_⟩))
  · intro _
    try dsimp only
    refine c_ent (Takes.ent_of (P := [KA x, Star (rs.map KA)]) (by repeat (first | with_reducible exact Takes.nil | (apply Takes.cons; focus (repeat (first | with_reducible exact Rem.here | apply Rem.there))))) s2) ?_
    try simp only [List.append_eq, List.cons_append, List.nil_append, List.append_nil, tup]
    by_cases hb : i < bs.length
    case neg =>
      refine c_false rfl ?_
      refine c_skip ?_
      refine f_seq ?_
      refine c_seq ?_
      refine c_region ?_
      refine o_y (y_move rfl) rfl ?_
      refine o_y (y_move rfl) rfl ?_
      refine o_y (y_len_slice rfl) rfl ?_
      refine o_y (y_lss_f rfl rfl (by omega)) rfl ?_
      refine o_y (y_move rfl) rfl ?_
      refine o_skip rfl rfl ?_
      refine o_skip rfl rfl ?_
      refine o_skip rfl rfl ?_
      refine o_skip rfl rfl ?_
      refine o_y (y_pick_f rfl rfl) rfl ?_
      refine o_nil ?_
      refine f_seq ?_
      refine c_false rfl ?_
      refine c_skip ?_
      refine f_block ?_
      refine f_seq ?_
      refine c_region ?_
      refine o_y (y_move rfl) rfl ?_
      refine o_y (y_arith64 rfl rfl rfl (by omega)) rfl ?_
      refine o_y (y_assign rfl) rfl ?_
      refine o_nil ?_
      refine f_next ?_ ?_ (ih (i + 1, (A.act x).1, (B.act x).1) ⟨hl2, hA2.mono (by omega), hB2.mono (by omega), hR2⟩ (by dsimp only; omega))
      · dsimp only
        refine Ent.one (by repeat (first | with_reducible exact Rem.here | apply Rem.there)) ?_
        refine Ent.one (by repeat (first | with_reducible exact Rem.here | apply Rem.there)) ?_
        refine Ent.put (by repeat (first | with_reducible exact Takes.nil | (apply Takes.cons; focus (repeat (first | with_reducible exact Rem.here | apply Rem.there))))) (RowA.shut rfl e2) ?_
        repeat (first | with_reducible exact Ent.nil | (apply Ent.one; focus (repeat (first | with_reducible exact Rem.here | apply Rem.there))))
      · repeat (first | exact trivial | refine ⟨rfl, ?_⟩)
    case pos =>
    have hbb : bs[i]? = some bs[i] := List.getElem?_eq_getElem hb
    generalize bs[i] = bv at hbb
    have hne2 : bs ≠ [] := by intro h; rw [h] at hb; exact absurd hb (by simp)
    refine c_open (h := RowA.opens (f := fun b : Bool => [.bool b]) (k := 1) (q := false) (a := w) hne2) (by repeat (first | with_reducible exact Rem.here | apply Rem.there)) (fun y hy3 => ?_)
    obtain ⟨kb2, ko2, cs2, T2, fz2⟩ := y
    obtain ⟨e3, e4⟩ := hy3
    dsimp only at e3 e4
    subst e3
    have hbg : cs2[ko2 + i * 1]? = some (.bool bv) := by
      have g1 := getN_sub e4 (flat_get (fun b : Bool => [Value.bool b]) 1 (fun _ => rfl) hbb)
      have g2 := (takeN_get g1).2 0 (by decide)
      rw [List.getElem?_drop, Nat.add_zero] at g2
      exact g2
    simp only [List.append_eq, List.cons_append, List.nil_append, List.append_nil, tup]
    have back : ∀ {A' B' : DS}, Ent [Bkp false kb2 (.cells ⟨cs2⟩ T2 fz2), Star (xs.map KA), DRep d A', DRep e B', Bkp false kb (.cells ⟨cs⟩ T fz)] [DRep d A', DRep e B', RowA false ActM.cells 6 (some ⟨kb, ko, none⟩) xs, Star (xs.map KA), RowA false (fun b : Bool => [.bool b]) 1 (some ⟨kb2, ko2, none⟩) bs] := by
      intro A' B'
      refine Ent.one (by repeat (first | with_reducible exact Rem.here | apply Rem.there)) ?_
      refine Ent.one (by repeat (first | with_reducible exact Rem.here | apply Rem.there)) ?_
      refine Ent.put (P := [Bkp false kb (.cells ⟨cs⟩ T fz)]) (by repeat (first | with_reducible exact Takes.nil | (apply Takes.cons; focus (repeat (first | with_reducible exact Rem.here | apply Rem.there))))) (RowA.shut rfl e2) ?_
      refine Ent.one (by repeat (first | with_reducible exact Rem.here | apply Rem.there)) ?_
      refine Ent.put (P := [Bkp false kb2 (.cells ⟨cs2⟩ T2 fz2)]) (by repeat (first | with_reducible exact Takes.nil | (apply Takes.cons; focus (repeat (first | with_reducible exact Rem.here | apply Rem.there))))) (RowA.shut rfl e4) ?_
      repeat (first | with_reducible exact Ent.nil | (apply Ent.one; focus (repeat (first | with_reducible exact Rem.here | apply Rem.there))))
    refine c_false rfl ?_
    refine c_skip ?_
    refine f_seq ?_
    refine c_seq ?_
    refine c_region ?_
    refine o_y (y_move rfl) rfl ?_
    refine o_y (y_move rfl) rfl ?_
    refine o_y (y_len_slice rfl) rfl ?_
    refine o_y (y_lss_t rfl rfl (by omega)) rfl ?_
    refine o_y (y_move rfl) rfl ?_
    refine o_want rfl ?_
    refine o_y (y_move rfl) rfl ?_
    refine o_want rfl ?_
    refine o_y (y_move rfl) rfl ?_
    refine o_want rfl ?_
    refine o_y (y_indexAddr i rfl rfl rfl hb) rfl ?_
    refine o_want rfl ?_
    refine o_y (y_load rfl rfl hbg) rfl ?_
    cases bv with
    | false =>
      refine o_y (y_pick_t rfl rfl) rfl ?_
      refine o_nil ?_
      refine f_seq ?_
      refine c_false rfl ?_
      refine c_skip ?_
      refine f_block ?_
      refine f_seq ?_
      refine c_region ?_
      refine o_y (y_move rfl) rfl ?_
      refine o_y (y_arith64 rfl rfl rfl (by omega)) rfl ?_
      refine o_y (y_assign rfl) rfl ?_
      refine o_nil ?_
      exact f_next (Ent.trans (by repeat (first | with_reducible exact Ent.nil | (apply Ent.one; focus (repeat (first | with_reducible exact Rem.here | apply Rem.there))))) back) (by repeat (first | exact trivial | refine ⟨rfl, ?_⟩)) (ih (i + 1, (A.act x).1, (B.act x).1) ⟨hl2, hA2.mono (by omega), hB2.mono (by omega), hR2⟩ (by dsimp only; omega))
    | true =>
      refine o_y (y_pick_t rfl rfl) rfl ?_
      refine o_nil ?_
      refine f_seq ?_
      refine c_true rfl ?_
      refine c_region ?_
      refine o_y (y_move rfl) rfl ?_
      refine o_call rfl (sync_ok e (B.act x).1 (by simp [DS.dead, hR2.bb]) (by have := hB2.low; omega) (by have := hB2.high; omega) (by have := hB2.loose; omega)) (by repeat (first | with_reducible exact Takes.nil | (apply Takes.cons; focus (repeat (first | with_reducible exact Rem.here | apply Rem.there))))) rfl ?_
      rintro _ _ ⟨rfl, rfl⟩
      simp only [List.append_eq, List.cons_append, List.nil_append, List.append_nil, tup]
      refine o_nil ?_
      refine f_block ?_
      refine f_seq ?_
      refine c_region ?_
      refine o_y (y_move rfl) rfl ?_
      refine o_y (y_arith64 rfl rfl rfl (by omega)) rfl ?_
      refine o_y (y_assign rfl) rfl ?_
      refine o_nil ?_
      exact f_next (Ent.trans (by repeat (first | with_reducible exact Ent.nil | (apply Ent.one; focus (repeat (first | with_reducible exact Rem.here | apply Rem.there))))) back) (by repeat (first | exact trivial | refine ⟨rfl, ?_⟩)) (ih (i + 1, (A.act x).1, (B.act x).1.sync) ⟨hl2, hA2.mono (by omega), hB2.sync.mono (by omega), hR2.sync hB2⟩ (by dsimp only; omega))
end Go.Lun

/- Texts joined: Pg4, Pg5, Pg6, Pg7, Pg8, Pg9, Pg10, Pl3, Pg11, Pg12, PgB, PL1, StE, PL2, PL3, PL4. -/
import Derived.Laws.StructEq
import Derived.Test.YtjdkdmojlnooiaaGreatPc1
import Derived.Test.YtjdkdmojlnooiaaGreatPc4
/- The pager: New, Drop, Change. -/
namespace Go.Lun
open Go.Proofs

/-- What holds of a pager, whatever was done. -/
structure PFit (S : PS) (k : Nat) : Prop where
  disk : DOk S.D k
  most : 2 ≤ S.D.most ∧ S.D.most ≤ 4096
  pg : 2 ≤ S.pages ∧ S.pages ≤ S.D.pages ∧ S.D.pages ≤ S.D.most
  sf : SF S.free
  lt : ∀ f ∈ S.free, f.p < S.pages
  e : 0 ≤ S.x.e ∧ S.x.e ≤ 1000000
theorem PFit.len {S : PS} {k : Nat} (h : PFit S k) : S.free.length ≤ 4096 := by
  have := h.sf.len2 h.lt h.pg.1
  have := h.pg; have := h.most; omega
theorem PFit.up {S : PS} {k j : Nat} (h : PFit S k) (hj : k ≤ j) : PFit S j := ⟨⟨h.disk.burns, by have := h.disk.lo; omega, h.disk.hi, Nat.le_trans h.disk.loose hj⟩, h.most, h.pg, h.sf, h.lt, h.e⟩
theorem PFit.take {S : PS} {k : Nat} (h : PFit S k) : PFit S.take.1 k ∧ (S.take.2.2 = 0 → 2 ≤ S.take.2.1 ∧ S.take.2.1 < S.take.1.pages) ∧ S.take.1.x = S.x := by
  unfold PS.take
  cases ht : takeF S.free S.oldest with
  | some qm =>
    obtain ⟨q, m⟩ := qm
    obtain ⟨h1, ⟨f, hf, h2, _⟩, h3, _⟩ := takeF_mem h.sf ht
    have hp := h.pg
    have h4 := h.lt f hf
    have h5 := (h.sf.all f hf).1
    exact ⟨⟨h.disk, h.most, hp, h1, fun g hg => h.lt g ((h3 g).1 hg).1, h.e⟩, fun _ => ⟨by dsimp only; omega, by dsimp only [PS.took]; omega⟩, rfl⟩
  | none =>
    dsimp only
    split
    · exact ⟨h, (fun h => by cases h), rfl⟩
    · rename_i hm
      have hp := h.pg
      refine ⟨⟨⟨h.disk.burns, h.disk.lo, h.disk.hi, h.disk.loose⟩, h.most, ?_, h.sf, fun f hf => ?_, h.e⟩, fun _ => ⟨hp.1, ?_⟩, rfl⟩
      · dsimp only [PS.took]; omega
      · have := h.lt f hf; dsimp only [PS.took]; omega
      · dsimp only [PS.took]; omega
theorem DOk.write {D : DS} {k : Nat} (h : DOk D k) (no : Int) (l : Bytes) : DOk (D.write no l) (k + 1) :=
  ⟨h.burns, by have := h.lo; simp only [DS.write]; omega, by have := h.hi; simp only [DS.write]; omega, by have := h.loose; simp only [DS.write, List.length_append, List.length_cons, List.length_nil]; omega⟩
theorem PFit.write {S : PS} {k : Nat} (h : PFit S k) (no kind link : Int) (cells : List Bytes) : PFit (S.write no kind link cells).1 (k + 1) ∧ (S.write no kind link cells).1.x = S.x := by
  unfold PS.write
  split
  · exact ⟨⟨h.disk.write _ _, h.most, h.pg, h.sf, h.lt, h.e⟩, rfl⟩
  · exact ⟨h.up (Nat.le_succ _), rfl⟩

def PS.new (S : PS) (kind link : Int) (cells : List Bytes) : PS × Int × Int :=
  if (S.page 0 kind link cells).err ≠ 0 then (S, 0, (S.page 0 kind link cells).err)
  else if S.take.2.2 ≠ 0 then (S.take.1, 0, S.take.2.2)
  else if (S.take.1.write S.take.2.1 kind link cells).2 ≠ 0 then ((S.take.1.write S.take.2.1 kind link cells).1, 0, (S.take.1.write S.take.2.1 kind link cells).2)
  else ((S.take.1.write S.take.2.1 kind link cells).1, S.take.2.1, 0)
theorem PFit.new {S : PS} {k : Nat} (h : PFit S k) (kind link : Int) (cells : List Bytes) : PFit (S.new kind link cells).1 (k + 1) := by
  unfold PS.new
  split
  · exact h.up (Nat.le_succ _)
  · split
    · exact h.take.1.up (Nat.le_succ _)
    · split <;> exact (h.take.1.write _ _ _ _).1

def PS.drop (S : PS) (no : Int) : PS × Int :=
  if S.there no = true then
    (match S.fresh no with
    | some _ => ({ S with fresh := updI S.fresh no none, free := putF S.free no 0 }, 0)
    | none => ({ S with free := putF S.free no (S.x.e + 1) }, 0))
  else (S, 81)
theorem PFit.drop {S : PS} {k : Nat} (h : PFit S k) (no : Int) : PFit (S.drop no).1 k := by
  unfold PS.drop
  split
  · rename_i ht
    unfold PS.there at ht
    simp only [Bool.and_eq_true, decide_eq_true_eq] at ht
    have hp := h.pg
    have hm := h.most
    have he := h.e
    have key : ∀ e, 0 ≤ e ∧ e ≤ 4294967295 → SF (putF S.free no e) ∧ ∀ f ∈ putF S.free no e, f.p < S.pages := fun e he => by
      rw [putF_ins]
      refine ⟨ins_sf (by omega) he h.sf, fun f hf => ?_⟩
      rcases (ins_mem h.sf).1 hf with rfl | h2
      · exact ht.1.2
      · exact h.lt f h2.1
    split
    · exact ⟨h.disk, h.most, h.pg, (key 0 (by omega)).1, (key 0 (by omega)).2, h.e⟩
    · exact ⟨h.disk, h.most, h.pg, (key _ (by omega)).1, (key _ (by omega)).2, h.e⟩
  · exact h
def PS.change (S : PS) (no kind link : Int) (cells : List Bytes) : PS × Int × Int :=
  if S.there no = true then
    (match S.fresh no with
    | some _ => if (S.write no kind link cells).2 ≠ 0 then ((S.write no kind link cells).1, 0, (S.write no kind link cells).2) else ((S.write no kind link cells).1, no, 0)
    | none => if (S.new kind link cells).2.2 ≠ 0 then ((S.new kind link cells).1, 0, (S.new kind link cells).2.2)
      else (((S.new kind link cells).1.drop no).1, (S.new kind link cells).2.1, ((S.new kind link cells).1.drop no).2))
  else (S, 0, 81)
theorem PFit.change {S : PS} {k : Nat} (h : PFit S k) (no kind link : Int) (cells : List Bytes) : PFit (S.change no kind link cells).1 (k + 1) := by
  unfold PS.change
  split
  · split
    · split <;> exact (h.write _ _ _ _).1
    · split
      · exact h.new _ _ _
      · exact (h.new _ _ _).drop _
  · exact h.up (Nat.le_succ _)

variable {p d : Nat} {cv lf lc : Value}

set_option maxHeartbeats 6400000 in
theorem pgnew_f (S : PS) (q : Bool) (a : Option Addr) (cap k : Nat) (kind link : Int) (cells : List Bytes) (hs : Small cells) (h : PFit S k) (hk : k ≤ 800000) :
    Fn Tryz.prog 34 [.pointer (some ⟨p, 0, none⟩), .int .i64 kind, .int .i64 link, .slice a cells.length cap] [PCo p d cv lf lc S, RowA q strC 1 a cells]
    (fun v L => v = .tuple ⟨[.int .i64 (S.new kind link cells).2.1, .int .i64 (S.new kind link cells).2.2]⟩ ∧ L = [PCo p d cv lf lc (S.new kind link cells).1, RowA q strC 1 a cells]) := by
  refine fn_open (A := PCo p d cv lf lc S) Rem.here (fun y hy => ?_)
  obtain ⟨rb, s, fa, fc, m, es, ck⟩ := y
  obtain ⟨hwf, him⟩ := hy
  dsimp only at hwf him
  try dsimp only [PY.frs]
  simp only [List.append_eq, List.cons_append, List.nil_append, List.append_nil, tup]
  refine fn_start Tryz.func34 rfl rfl rfl fun F => ?_
  have hput := pput_f s q (S.page 0 kind link cells) a cap hs
  have he := h.e
  have hp := h.pg
  have hmo := h.most
  unfold PS.new
  by_cases herr : (S.page 0 kind link cells).err = 0
  case neg =>
    rw [if_pos herr]
    refine c_seq ?_
    refine c_region ?_
    refine o_y (y_assign rfl) rfl ?_
    refine o_y (y_assign rfl) rfl ?_
    refine o_nil ?_
    refine f_seq ?_
    refine c_seq ?_
    refine c_seq ?_
    refine pl_start [17] Tryz.mixed ?_; intro hd
    refine pl_lock (A := Blk _ _) Rem.here rfl ?_ hd; intro hb0
    refine pl_lock (A := Blk _ _) Rem.here rfl ?_ hd; intro hb1
    refine pl_take (i := 0) rfl (by kernel_rfl) (y_move rfl) ?_ hd; clear hd; intro hd
    refine pl_take (i := 1) rfl (by kernel_rfl) (y_nilCheck rfl) ?_ hd; clear hd; intro hd
    refine pl_take (i := 2) rfl (by kernel_rfl) (y_fieldAddr0 rfl) ?_ hd; clear hd; intro hd
    refine pl_take (i := 3) rfl (by kernel_rfl) (y_load rfl rfl rfl) ?_ hd; clear hd; intro hd
    refine pl_take (i := 4) rfl (by kernel_rfl) (y_nilCheck rfl) ?_ hd; clear hd; intro hd
    refine pl_take (i := 5) rfl (by kernel_rfl) (y_fieldAddr0 rfl) ?_ hd; clear hd; intro hd
    refine pl_take (i := 6) rfl (by kernel_rfl) (y_load rfl rfl rfl) ?_ hd; clear hd; intro hd
    refine pl_take (i := 7) rfl (by kernel_rfl) (y_move rfl) ?_ hd; clear hd; intro hd
    refine pl_take (i := 8) rfl (by kernel_rfl) (y_move rfl) ?_ hd; clear hd; intro hd
    refine pl_take (i := 9) rfl (by kernel_rfl) (y_nilCheck rfl) ?_ hd; clear hd; intro hd
    refine pl_take (i := 10) rfl (by kernel_rfl) (y_fieldAddr0 rfl) ?_ hd; clear hd; intro hd
    refine pl_take (i := 11) rfl (by kernel_rfl) (y_fieldAddr rfl) ?_ hd; clear hd; intro hd
    refine pl_take (i := 12) rfl (by kernel_rfl) (y_load rfl rfl rfl) ?_ hd; clear hd; intro hd
    refine pl_take (i := 13) rfl (by kernel_rfl) (y_arith64 rfl rfl rfl (by omega)) ?_ hd; clear hd; intro hd
    refine pl_take (i := 14) rfl (by kernel_rfl) (y_move rfl) ?_ hd; clear hd; intro hd
    refine pl_take (i := 15) rfl (by kernel_rfl) (y_move rfl) ?_ hd; clear hd; intro hd
    refine pl_take (i := 16) rfl (by kernel_rfl) (y_build rfl) ?_ hd; clear hd; intro hd
    refine pl_sole (i := 17) (by kernel_rfl) rfl ?_ hd; clear hd; intro hd
    refine o_call rfl hput (by repeat (first | with_reducible exact Takes.nil | (apply Takes.cons; focus (repeat (first | with_reducible exact Rem.here | apply Rem.there))))) rfl ?_
    rintro _ _ (⟨_, rfl, rfl⟩ | ⟨he0, _⟩)
    rotate_left
    · exact absurd he0 herr
    simp only [List.append_eq, List.cons_append, List.nil_append, List.append_nil, tup]
    refine pl_back (by repeat (first | with_reducible exact Owes.nil | with_reducible refine Owes.same ?_ | with_reducible refine Owes.any ?_ | refine Owes.waived 17 (by kernel_rfl) ?_)) ?_ hd; clear hd; intro hd
    refine pl_take (i := 18) rfl (by kernel_rfl) (y_move rfl) ?_ hd; clear hd; intro hd
    refine pl_take (i := 19) rfl (by kernel_rfl) (y_extract rfl rfl) ?_ hd; clear hd; intro hd
    refine pl_take (i := 20) rfl (by kernel_rfl) (y_extract rfl rfl) ?_ hd; clear hd; intro hd
    refine pl_take (i := 21) rfl (by kernel_rfl) (y_assign rfl) ?_ hd; clear hd; intro hd
    refine pl_take (i := 22) rfl (by kernel_rfl) (y_assign rfl) ?_ hd; clear hd; intro hd
    refine pl_done (by kernel_rfl) ?_ hd
    refine f_unlock (A := Blk _ _) ?_
    refine f_unlock (A := Blk _ _) ?_
    refine f_seq ?_
    refine c_seq ?_
    refine c_region ?_
    refine o_y (y_move rfl) rfl ?_
    refine o_y (y_neq_t rfl rfl (by omega)) rfl ?_
    refine o_nil ?_
    refine f_seq ?_
    refine c_true rfl ?_
    refine c_seq ?_
    refine c_region ?_
    refine o_y (y_move rfl) rfl ?_
    refine o_y (y_assign rfl) rfl ?_
    refine o_y (y_assign rfl) rfl ?_
    refine o_nil ?_
    refine f_seq ?_
    refine c_ret ?_
    refine f_seq_ret ?_
    refine f_ent ?_ (f_ret rfl ⟨rfl, rfl⟩)
    exact Ent.put (by repeat (first | with_reducible exact Takes.nil | (apply Takes.cons; focus (repeat (first | with_reducible exact Rem.here | apply Rem.there))))) (PCo.mk _ (by exact ⟨rfl, rfl, rfl, rfl, rfl, rfl, rfl⟩) hwf him) (by repeat (first | with_reducible exact Ent.nil | (apply Ent.one; focus (repeat (first | with_reducible exact Rem.here | apply Rem.there)))))
  rw [if_neg (fun h => h herr)]
  refine c_seq ?_
  refine c_region ?_
  refine o_y (y_assign rfl) rfl ?_
  refine o_y (y_assign rfl) rfl ?_
  refine o_nil ?_
  refine f_seq ?_
  refine c_seq ?_
  refine c_seq ?_
  refine pl_start [17] Tryz.mixed ?_; intro hd
  refine pl_lock (A := Blk _ _) Rem.here rfl ?_ hd; intro hb0
  refine pl_lock (A := Blk _ _) Rem.here rfl ?_ hd; intro hb1
  refine pl_take (i := 0) rfl (by kernel_rfl) (y_move rfl) ?_ hd; clear hd; intro hd
  refine pl_take (i := 1) rfl (by kernel_rfl) (y_nilCheck rfl) ?_ hd; clear hd; intro hd
  refine pl_take (i := 2) rfl (by kernel_rfl) (y_fieldAddr0 rfl) ?_ hd; clear hd; intro hd
  refine pl_take (i := 3) rfl (by kernel_rfl) (y_load rfl rfl rfl) ?_ hd; clear hd; intro hd
  refine pl_take (i := 4) rfl (by kernel_rfl) (y_nilCheck rfl) ?_ hd; clear hd; intro hd
  refine pl_take (i := 5) rfl (by kernel_rfl) (y_fieldAddr0 rfl) ?_ hd; clear hd; intro hd
  refine pl_take (i := 6) rfl (by kernel_rfl) (y_load rfl rfl rfl) ?_ hd; clear hd; intro hd
  refine pl_take (i := 7) rfl (by kernel_rfl) (y_move rfl) ?_ hd; clear hd; intro hd
  refine pl_take (i := 8) rfl (by kernel_rfl) (y_move rfl) ?_ hd; clear hd; intro hd
  refine pl_take (i := 9) rfl (by kernel_rfl) (y_nilCheck rfl) ?_ hd; clear hd; intro hd
  refine pl_take (i := 10) rfl (by kernel_rfl) (y_fieldAddr0 rfl) ?_ hd; clear hd; intro hd
  refine pl_take (i := 11) rfl (by kernel_rfl) (y_fieldAddr rfl) ?_ hd; clear hd; intro hd
  refine pl_take (i := 12) rfl (by kernel_rfl) (y_load rfl rfl rfl) ?_ hd; clear hd; intro hd
  refine pl_take (i := 13) rfl (by kernel_rfl) (y_arith64 rfl rfl rfl (by omega)) ?_ hd; clear hd; intro hd
  refine pl_take (i := 14) rfl (by kernel_rfl) (y_move rfl) ?_ hd; clear hd; intro hd
  refine pl_take (i := 15) rfl (by kernel_rfl) (y_move rfl) ?_ hd; clear hd; intro hd
  refine pl_take (i := 16) rfl (by kernel_rfl) (y_build rfl) ?_ hd; clear hd; intro hd
  refine pl_sole (i := 17) (by kernel_rfl) rfl ?_ hd; clear hd; intro hd
  refine o_call rfl hput (by repeat (first | with_reducible exact Takes.nil | (apply Takes.cons; focus (repeat (first | with_reducible exact Rem.here | apply Rem.there))))) rfl ?_
  rintro _ _ (⟨hne, _, _⟩ | ⟨_, b, rfl, rfl⟩)
  · exact absurd herr hne
  simp only [List.append_eq, List.cons_append, List.nil_append, List.append_nil, tup]
  refine pl_back (by repeat (first | with_reducible exact Owes.nil | with_reducible refine Owes.same ?_ | with_reducible refine Owes.any ?_ | refine Owes.waived 17 (by kernel_rfl) ?_)) ?_ hd; clear hd; intro hd
  refine pl_take (i := 18) rfl (by kernel_rfl) (y_move rfl) ?_ hd; clear hd; intro hd
  refine pl_take (i := 19) rfl (by kernel_rfl) (y_extract rfl rfl) ?_ hd; clear hd; intro hd
  refine pl_take (i := 20) rfl (by kernel_rfl) (y_extract rfl rfl) ?_ hd; clear hd; intro hd
  refine pl_take (i := 21) rfl (by kernel_rfl) (y_assign rfl) ?_ hd; clear hd; intro hd
  refine pl_take (i := 22) rfl (by kernel_rfl) (y_assign rfl) ?_ hd; clear hd; intro hd
  refine pl_done (by kernel_rfl) ?_ hd
  refine f_unlock (A := Blk _ _) ?_
  refine f_unlock (A := Blk _ _) ?_
  refine f_ent (M := [PCo p d cv lf lc S, RowA q strC 1 a cells]) (Ent.put (by repeat (first | with_reducible exact Takes.nil | (apply Takes.cons; focus (repeat (first | with_reducible exact Rem.here | apply Rem.there))))) (PCo.mk _ (by exact ⟨rfl, rfl, rfl, rfl, rfl, rfl, rfl⟩) hwf him) (by repeat (first | with_reducible exact Ent.nil | (apply Ent.one; focus (repeat (first | with_reducible exact Rem.here | apply Rem.there)))))) ?_
  refine f_seq ?_
  refine c_seq ?_
  refine c_region ?_
  refine o_y (y_move rfl) rfl ?_
  refine o_y (y_neq_f rfl rfl (by omega)) rfl ?_
  refine o_nil ?_
  refine f_seq ?_
  refine c_false rfl ?_
  refine c_skip ?_
  refine f_seq ?_
  refine c_seq ?_
  refine c_region ?_
  refine o_y (y_move rfl) rfl ?_
  refine o_call rfl (take_f S (by have := h.len; omega) h.disk.dead (by omega)) (by repeat (first | with_reducible exact Takes.nil | (apply Takes.cons; focus (repeat (first | with_reducible exact Rem.here | apply Rem.there))))) rfl ?_
  rintro _ _ ⟨rfl, rfl⟩
  obtain ⟨ht1, ht2, ht3⟩ := h.take
  simp only [List.append_eq, List.cons_append, List.nil_append, List.append_nil, tup]
  generalize S.take = t at ht1 ht2 ht3
  obtain ⟨T, no, er⟩ := t
  dsimp only at ht1 ht2 ht3 ⊢
  by_cases her : er = 0
  case neg =>
    rw [if_pos her]
    refine o_y (y_move rfl) rfl ?_
    refine o_y (y_extract rfl rfl) rfl ?_
    refine o_y (y_extract rfl rfl) rfl ?_
    refine o_y (y_assign rfl) rfl ?_
    refine o_y (y_assign rfl) rfl ?_
    refine o_nil ?_
    refine f_seq ?_
    refine c_seq ?_
    refine c_seq ?_
    refine c_region ?_
    refine o_y (y_move rfl) rfl ?_
    refine o_y (y_neq_t rfl rfl (by omega)) rfl ?_
    refine o_nil ?_
    refine f_seq ?_
    refine c_true rfl ?_
    refine c_seq ?_
    refine c_region ?_
    refine o_y (y_move rfl) rfl ?_
    refine o_y (y_assign rfl) rfl ?_
    refine o_y (y_assign rfl) rfl ?_
    refine o_nil ?_
    refine f_seq ?_
    refine c_ret ?_
    refine f_seq_ret ?_
    exact f_ent (by repeat (first | with_reducible exact Ent.nil | (apply Ent.one; focus (repeat (first | with_reducible exact Rem.here | apply Rem.there))))) (f_ret rfl ⟨rfl, rfl⟩)
  subst her
  rw [if_neg (fun h => h rfl)]
  obtain ⟨hn1, hn2⟩ := ht2 rfl
  have hTp := ht1.pg
  refine o_y (y_move rfl) rfl ?_
  refine o_y (y_extract rfl rfl) rfl ?_
  refine o_y (y_extract rfl rfl) rfl ?_
  refine o_y (y_assign rfl) rfl ?_
  refine o_y (y_assign rfl) rfl ?_
  refine o_nil ?_
  refine f_seq ?_
  refine c_seq ?_
  refine c_seq ?_
  refine c_region ?_
  refine o_y (y_move rfl) rfl ?_
  refine o_y (y_neq_f rfl rfl (by omega)) rfl ?_
  refine o_nil ?_
  refine f_seq ?_
  refine c_false rfl ?_
  refine c_skip ?_
  refine f_seq ?_
  refine c_seq ?_
  refine c_seq ?_
  refine c_region ?_
  refine o_y (y_move rfl) rfl ?_
  refine o_y (y_move rfl) rfl ?_
  refine o_y (y_move rfl) rfl ?_
  refine o_y (y_move rfl) rfl ?_
  refine o_y (y_move rfl) rfl ?_
  refine o_call rfl (pgwrite_f T q a cap k no kind link cells hs (by rw [ht3]; omega) ht1.disk (by omega) ⟨by omega, by omega⟩) (by repeat (first | with_reducible exact Takes.nil | (apply Takes.cons; focus (repeat (first | with_reducible exact Rem.here | apply Rem.there))))) rfl ?_
  rintro _ _ ⟨rfl, rfl⟩
  simp only [List.append_eq, List.cons_append, List.nil_append, List.append_nil, tup]
  generalize T.write no kind link cells = w
  obtain ⟨W, er⟩ := w
  dsimp only
  by_cases her : er = 0
  case neg =>
    rw [if_pos her]
    refine o_y (y_assign rfl) rfl ?_
    refine o_nil ?_
    refine f_seq ?_
    refine c_seq ?_
    refine c_region ?_
    refine o_y (y_move rfl) rfl ?_
    refine o_y (y_neq_t rfl rfl (by omega)) rfl ?_
    refine o_nil ?_
    refine f_seq ?_
    refine c_true rfl ?_
    refine c_seq ?_
    refine c_region ?_
    refine o_y (y_move rfl) rfl ?_
    refine o_y (y_assign rfl) rfl ?_
    refine o_y (y_assign rfl) rfl ?_
    refine o_nil ?_
    refine f_seq ?_
    refine c_ret ?_
    refine f_seq_ret ?_
    exact f_ent (by repeat (first | with_reducible exact Ent.nil | (apply Ent.one; focus (repeat (first | with_reducible exact Rem.here | apply Rem.there))))) (f_ret rfl ⟨rfl, rfl⟩)
  subst her
  rw [if_neg (fun h => h rfl)]
  refine o_y (y_assign rfl) rfl ?_
  refine o_nil ?_
  refine f_seq ?_
  refine c_seq ?_
  refine c_region ?_
  refine o_y (y_move rfl) rfl ?_
  refine o_y (y_neq_f rfl rfl (by omega)) rfl ?_
  refine o_nil ?_
  refine f_seq ?_
  refine c_false rfl ?_
  refine c_skip ?_
  refine f_seq ?_
  refine c_seq ?_
  refine c_region ?_
  refine o_y (y_move rfl) rfl ?_
  refine o_y (y_assign rfl) rfl ?_
  refine o_y (y_assign rfl) rfl ?_
  refine o_nil ?_
  refine f_seq ?_
  refine c_ret ?_
  exact f_ent (by repeat (first | with_reducible exact Ent.nil | (apply Ent.one; focus (repeat (first | with_reducible exact Rem.here | apply Rem.there))))) (f_ret rfl ⟨rfl, rfl⟩)

set_option maxHeartbeats 6400000 in
theorem pgdrop_f (S : PS) (k : Nat) (no : Int) (h : PFit S k) :
    Fn Tryz.prog 64 [.pointer (some ⟨p, 0, none⟩), .int .i64 no] [PCo p d cv lf lc S]
    (fun v L => v = .int .i64 (S.drop no).2 ∧ L = [PCo p d cv lf lc (S.drop no).1]) := by
  refine fn_start Tryz.func64 rfl rfl rfl fun F => ?_
  have he := h.e
  have hlen := h.len
  unfold PS.drop
  refine c_seq ?_
  refine c_region ?_
  refine o_y (y_assign rfl) rfl ?_
  refine o_nil ?_
  refine f_seq ?_
  refine c_seq ?_
  refine c_seq ?_
  refine c_region ?_
  refine o_y (y_move rfl) rfl ?_
  refine o_y (y_move rfl) rfl ?_
  refine o_call rfl (there_f S no (by omega)) (by repeat (first | with_reducible exact Takes.nil | (apply Takes.cons; focus (repeat (first | with_reducible exact Rem.here | apply Rem.there))))) rfl ?_
  rintro _ _ ⟨rfl, rfl⟩
  simp only [List.append_eq, List.cons_append, List.nil_append, List.append_nil, tup]
  cases hth : S.there no with
  | false =>
    rw [if_neg (by decide)]
    refine o_y (y_not rfl) rfl ?_
    refine o_nil ?_
    refine f_seq ?_
    refine c_true rfl ?_
    refine c_seq ?_
    refine c_region ?_
    refine o_y (y_assign rfl) rfl ?_
    refine o_nil ?_
    refine f_seq ?_
    refine c_ret ?_
    refine f_seq_ret ?_
    exact f_ent (by repeat (first | with_reducible exact Ent.nil | (apply Ent.one; focus (repeat (first | with_reducible exact Rem.here | apply Rem.there))))) (f_ret rfl ⟨rfl, rfl⟩)
  | true =>
  rw [if_pos rfl]
  refine o_open (A := PCo p d cv lf lc S) Rem.here (fun y hy => ?_)
  obtain ⟨rb, s, fa, fc, m, es, ck⟩ := y
  obtain ⟨hwf, him⟩ := hy
  dsimp only at hwf him
  try dsimp only [PY.frs]
  simp only [List.append_eq, List.cons_append, List.nil_append, List.append_nil, tup]
  have hg := him.get no
  cases hfr : S.fresh no with
  | none =>
    rw [hfr] at hg
    have hg : mget es no = none := hg
    refine o_y (y_not rfl) rfl ?_
    refine o_nil ?_
    refine f_seq ?_
    refine c_false rfl ?_
    refine c_skip ?_
    refine f_seq ?_
    refine c_seq ?_
    refine c_region ?_
    refine o_y (y_move rfl) rfl ?_
    refine o_y (y_nilCheck rfl) rfl ?_
    refine o_y (y_fieldAddr0 rfl) rfl ?_
    refine o_y (y_fieldAddr rfl) rfl ?_
    refine o_y (y_load rfl rfl rfl) rfl ?_
    refine o_y (y_arith64 rfl rfl rfl (by omega)) rfl ?_
    refine o_y (y_assign rfl) rfl ?_
    refine o_nil ?_
    refine f_seq ?_
    refine c_seq ?_
    refine c_seq ?_
    refine c_region ?_
    refine o_y (y_move rfl) rfl ?_
    refine o_y (y_nilCheck rfl) rfl ?_
    refine o_y (y_fieldAddr0 rfl) rfl ?_
    refine o_y (y_load rfl rfl rfl) rfl ?_
    refine o_y (y_move rfl) rfl ?_
    refine o_y (y_lookup_okz rfl rfl (by assumption)) rfl ?_
    refine o_y (y_move rfl) rfl ?_
    refine o_y (y_extract rfl rfl) rfl ?_
    refine o_y (y_extract rfl rfl) rfl ?_
    refine o_y (y_assign rfl) rfl ?_
    refine o_y (y_assign rfl) rfl ?_
    refine o_nil ?_
    refine f_seq ?_
    refine c_seq ?_
    refine c_region ?_
    refine o_y (y_move rfl) rfl ?_
    refine o_nil ?_
    refine f_seq ?_
    refine c_false rfl ?_
    refine c_skip ?_
    refine f_seq ?_
    refine c_seq ?_
    refine c_region ?_
    refine o_y (y_move rfl) rfl ?_
    refine o_y (y_move rfl) rfl ?_
    refine o_y (y_nilCheck rfl) rfl ?_
    refine o_y (y_fieldAddr0 rfl) rfl ?_
    refine o_y (y_load rfl rfl rfl) rfl ?_
    refine o_y (y_move rfl) rfl ?_
    refine o_y (y_move rfl) rfl ?_
    refine o_call rfl (fput_f no (S.x.e + 1) (by omega) hwf) (by repeat (first | with_reducible exact Takes.nil | (apply Takes.cons; focus (repeat (first | with_reducible exact Rem.here | apply Rem.there))))) rfl ?_
    rintro _ _ ⟨a', cap', hw', rfl, rfl⟩
    simp only [List.append_eq, List.cons_append, List.nil_append, List.append_nil, tup]
    refine o_y (y_nilCheck rfl) rfl ?_
    refine o_y (y_fieldAddr0 rfl) rfl ?_
    refine o_store rfl rfl rfl frz0 ?_
    refine o_nil ?_
    refine f_seq ?_
    refine c_seq ?_
    refine c_region ?_
    refine o_y (y_assign rfl) rfl ?_
    refine o_nil ?_
    refine f_seq ?_
    refine c_ret ?_
    refine f_ent ?_ (f_ret rfl ⟨rfl, rfl⟩)
    exact Ent.put (by repeat (first | with_reducible exact Takes.nil | (apply Takes.cons; focus (repeat (first | with_reducible exact Rem.here | apply Rem.there))))) (PCo.mk _ (by exact ⟨rfl, rfl, rfl, rfl, rfl, rfl, rfl⟩) hw' him) (by repeat (first | with_reducible exact Ent.nil | (apply Ent.one; focus (repeat (first | with_reducible exact Rem.here | apply Rem.there)))))
  | some u =>
    rw [hfr] at hg
    have hg : mget es no = some (.int .i64 u) := hg
    refine o_y (y_not rfl) rfl ?_
    refine o_nil ?_
    refine f_seq ?_
    refine c_false rfl ?_
    refine c_skip ?_
    refine f_seq ?_
    refine c_seq ?_
    refine c_region ?_
    refine o_y (y_move rfl) rfl ?_
    refine o_y (y_nilCheck rfl) rfl ?_
    refine o_y (y_fieldAddr0 rfl) rfl ?_
    refine o_y (y_fieldAddr rfl) rfl ?_
    refine o_y (y_load rfl rfl rfl) rfl ?_
    refine o_y (y_arith64 rfl rfl rfl (by omega)) rfl ?_
    refine o_y (y_assign rfl) rfl ?_
    refine o_nil ?_
    refine f_seq ?_
    refine c_seq ?_
    refine c_seq ?_
    refine c_region ?_
    refine o_y (y_move rfl) rfl ?_
    refine o_y (y_nilCheck rfl) rfl ?_
    refine o_y (y_fieldAddr0 rfl) rfl ?_
    refine o_y (y_load rfl rfl rfl) rfl ?_
    refine o_y (y_move rfl) rfl ?_
    refine o_y (y_lookup_okv rfl rfl (by assumption)) rfl ?_
    refine o_y (y_move rfl) rfl ?_
    refine o_y (y_extract rfl rfl) rfl ?_
    refine o_y (y_extract rfl rfl) rfl ?_
    refine o_y (y_assign rfl) rfl ?_
    refine o_y (y_assign rfl) rfl ?_
    refine o_nil ?_
    refine f_seq ?_
    refine c_seq ?_
    refine c_region ?_
    refine o_y (y_move rfl) rfl ?_
    refine o_nil ?_
    refine f_seq ?_
    refine c_true rfl ?_
    refine c_seq ?_
    refine c_region ?_
    refine o_y (y_move rfl) rfl ?_
    refine o_y (y_nilCheck rfl) rfl ?_
    refine o_y (y_fieldAddr0 rfl) rfl ?_
    refine o_y (y_load rfl rfl rfl) rfl ?_
    refine o_y (y_move rfl) rfl ?_
    refine o_delete rfl rfl rfl ?_
    refine o_nil ?_
    refine f_seq ?_
    refine c_region ?_
    refine o_y (y_assign rfl) rfl ?_
    refine o_nil ?_
    refine f_seq ?_
    refine c_seq ?_
    refine c_region ?_
    refine o_y (y_move rfl) rfl ?_
    refine o_y (y_move rfl) rfl ?_
    refine o_y (y_nilCheck rfl) rfl ?_
    refine o_y (y_fieldAddr0 rfl) rfl ?_
    refine o_y (y_load rfl rfl rfl) rfl ?_
    refine o_y (y_move rfl) rfl ?_
    refine o_y (y_move rfl) rfl ?_
    refine o_call rfl (fput_f no 0 (by omega) hwf) (by repeat (first | with_reducible exact Takes.nil | (apply Takes.cons; focus (repeat (first | with_reducible exact Rem.here | apply Rem.there))))) rfl ?_
    rintro _ _ ⟨a', cap', hw', rfl, rfl⟩
    simp only [List.append_eq, List.cons_append, List.nil_append, List.append_nil, tup]
    refine o_y (y_nilCheck rfl) rfl ?_
    refine o_y (y_fieldAddr0 rfl) rfl ?_
    refine o_store rfl rfl rfl frz0 ?_
    refine o_nil ?_
    refine f_seq ?_
    refine c_seq ?_
    refine c_region ?_
    refine o_y (y_assign rfl) rfl ?_
    refine o_nil ?_
    refine f_seq ?_
    refine c_ret ?_
    refine f_ent ?_ (f_ret rfl ⟨rfl, rfl⟩)
    exact Ent.put (by repeat (first | with_reducible exact Takes.nil | (apply Takes.cons; focus (repeat (first | with_reducible exact Rem.here | apply Rem.there))))) (PCo.mk _ (by exact ⟨rfl, rfl, rfl, rfl, rfl, rfl, rfl⟩) hw' (him.del no)) (by repeat (first | with_reducible exact Ent.nil | (apply Ent.one; focus (repeat (first | with_reducible exact Rem.here | apply Rem.there)))))

set_option maxHeartbeats 6400000 in
theorem pgchange_f (S : PS) (q : Bool) (a : Option Addr) (cap k : Nat) (no kind link : Int) (cells : List Bytes) (hs : Small cells) (h : PFit S k) (hk : k ≤ 800000) :
    Fn Tryz.prog 56 [.pointer (some ⟨p, 0, none⟩), .int .i64 no, .int .i64 kind, .int .i64 link, .slice a cells.length cap] [PCo p d cv lf lc S, RowA q strC 1 a cells]
    (fun v L => v = .tuple ⟨[.int .i64 (S.change no kind link cells).2.1, .int .i64 (S.change no kind link cells).2.2]⟩ ∧ L = [PCo p d cv lf lc (S.change no kind link cells).1, RowA q strC 1 a cells]) := by
  refine fn_start Tryz.func56 rfl rfl rfl fun F => ?_
  have he := h.e
  have hlen := h.len
  have hp := h.pg
  unfold PS.change
  refine c_seq ?_
  refine c_region ?_
  refine o_y (y_assign rfl) rfl ?_
  refine o_y (y_assign rfl) rfl ?_
  refine o_nil ?_
  refine f_seq ?_
  refine c_seq ?_
  refine c_seq ?_
  refine c_region ?_
  refine o_y (y_move rfl) rfl ?_
  refine o_y (y_move rfl) rfl ?_
  refine o_call rfl (there_f S no (by omega)) (by repeat (first | with_reducible exact Takes.nil | (apply Takes.cons; focus (repeat (first | with_reducible exact Rem.here | apply Rem.there))))) rfl ?_
  rintro _ _ ⟨rfl, rfl⟩
  simp only [List.append_eq, List.cons_append, List.nil_append, List.append_nil, tup]
  cases hth : S.there no with
  | false =>
    rw [if_neg (by decide)]
    refine o_y (y_not rfl) rfl ?_
    refine o_nil ?_
    refine f_seq ?_
    refine c_true rfl ?_
    refine c_seq ?_
    refine c_region ?_
    refine o_y (y_assign rfl) rfl ?_
    refine o_y (y_assign rfl) rfl ?_
    refine o_nil ?_
    refine f_seq ?_
    refine c_ret ?_
    refine f_seq_ret ?_
    exact f_ent (by repeat (first | with_reducible exact Ent.nil | (apply Ent.one; focus (repeat (first | with_reducible exact Rem.here | apply Rem.there))))) (f_ret rfl ⟨rfl, rfl⟩)
  | true =>
  rw [if_pos rfl]
  have hth2 := hth
  unfold PS.there at hth2
  simp only [Bool.and_eq_true, decide_eq_true_eq] at hth2
  refine o_open (A := PCo p d cv lf lc S) Rem.here (fun y hy => ?_)
  obtain ⟨rb, s, fa, fc, m, es, ck⟩ := y
  obtain ⟨hwf, him⟩ := hy
  dsimp only at hwf him
  try dsimp only [PY.frs]
  simp only [List.append_eq, List.cons_append, List.nil_append, List.append_nil, tup]
  have hg := him.get no
  cases hfr : S.fresh no with
  | none =>
    rw [hfr] at hg
    have hg : mget es no = none := hg
    refine o_y (y_not rfl) rfl ?_
    refine o_nil ?_
    refine f_seq ?_
    refine c_false rfl ?_
    refine c_skip ?_
    refine f_seq ?_
    refine c_seq ?_
    refine c_seq ?_
    refine c_region ?_
    refine o_y (y_move rfl) rfl ?_
    refine o_y (y_nilCheck rfl) rfl ?_
    refine o_y (y_fieldAddr0 rfl) rfl ?_
    refine o_y (y_load rfl rfl rfl) rfl ?_
    refine o_y (y_move rfl) rfl ?_
    refine o_y (y_lookup_okz rfl rfl (by assumption)) rfl ?_
    refine o_y (y_move rfl) rfl ?_
    refine o_y (y_extract rfl rfl) rfl ?_
    refine o_y (y_extract rfl rfl) rfl ?_
    refine o_y (y_assign rfl) rfl ?_
    refine o_y (y_assign rfl) rfl ?_
    refine o_nil ?_
    refine f_seq ?_
    refine c_seq ?_
    refine c_region ?_
    refine o_y (y_move rfl) rfl ?_
    refine o_nil ?_
    refine f_seq ?_
    refine c_false rfl ?_
    refine c_skip ?_
    refine f_seq ?_
    refine c_seq ?_
    refine c_region ?_
    refine o_y (y_move rfl) rfl ?_
    refine o_y (y_move rfl) rfl ?_
    refine o_y (y_move rfl) rfl ?_
    refine o_y (y_move rfl) rfl ?_
    refine o_ent (M := [PCo p d cv lf lc S, RowA q strC 1 a cells]) (Ent.put (by repeat (first | with_reducible exact Takes.nil | (apply Takes.cons; focus (repeat (first | with_reducible exact Rem.here | apply Rem.there))))) (PCo.mk _ (by exact ⟨rfl, rfl, rfl, rfl, rfl, rfl, rfl⟩) hwf him) (by repeat (first | with_reducible exact Ent.nil | (apply Ent.one; focus (repeat (first | with_reducible exact Rem.here | apply Rem.there)))))) ?_
    refine o_call rfl (pgnew_f S q a cap k kind link cells hs h hk) (by repeat (first | with_reducible exact Takes.nil | (apply Takes.cons; focus (repeat (first | with_reducible exact Rem.here | apply Rem.there))))) rfl ?_
    rintro _ _ ⟨rfl, rfl⟩
    have hN := h.new kind link cells
    simp only [List.append_eq, List.cons_append, List.nil_append, List.append_nil, tup]
    generalize S.new kind link cells = t at hN
    obtain ⟨T, n2, er⟩ := t
    dsimp only at hN ⊢
    by_cases her : er = 0
    case neg =>
      rw [if_pos her]
      refine o_y (y_move rfl) rfl ?_
      refine o_y (y_extract rfl rfl) rfl ?_
      refine o_y (y_extract rfl rfl) rfl ?_
      refine o_y (y_assign rfl) rfl ?_
      refine o_y (y_assign rfl) rfl ?_
      refine o_nil ?_
      refine f_seq ?_
      refine c_seq ?_
      refine c_seq ?_
      refine c_region ?_
      refine o_y (y_move rfl) rfl ?_
      refine o_y (y_neq_t rfl rfl (by omega)) rfl ?_
      refine o_nil ?_
      refine f_seq ?_
      refine c_true rfl ?_
      refine c_seq ?_
      refine c_region ?_
      refine o_y (y_move rfl) rfl ?_
      refine o_y (y_assign rfl) rfl ?_
      refine o_y (y_assign rfl) rfl ?_
      refine o_nil ?_
      refine f_seq ?_
      refine c_ret ?_
      refine f_seq_ret ?_
      exact f_ent (by repeat (first | with_reducible exact Ent.nil | (apply Ent.one; focus (repeat (first | with_reducible exact Rem.here | apply Rem.there))))) (f_ret rfl ⟨rfl, rfl⟩)
    subst her
    rw [if_neg (fun h => h rfl)]
    refine o_y (y_move rfl) rfl ?_
    refine o_y (y_extract rfl rfl) rfl ?_
    refine o_y (y_extract rfl rfl) rfl ?_
    refine o_y (y_assign rfl) rfl ?_
    refine o_y (y_assign rfl) rfl ?_
    refine o_nil ?_
    refine f_seq ?_
    refine c_seq ?_
    refine c_seq ?_
    refine c_region ?_
    refine o_y (y_move rfl) rfl ?_
    refine o_y (y_neq_f rfl rfl (by omega)) rfl ?_
    refine o_nil ?_
    refine f_seq ?_
    refine c_false rfl ?_
    refine c_skip ?_
    refine f_seq ?_
    refine c_seq ?_
    refine c_region ?_
    refine o_y (y_move rfl) rfl ?_
    refine o_y (y_move rfl) rfl ?_
    refine o_y (y_move rfl) rfl ?_
    refine o_call rfl (pgdrop_f T (k + 1) no hN) (by repeat (first | with_reducible exact Takes.nil | (apply Takes.cons; focus (repeat (first | with_reducible exact Rem.here | apply Rem.there))))) rfl ?_
    rintro _ _ ⟨rfl, rfl⟩
    simp only [List.append_eq, List.cons_append, List.nil_append, List.append_nil, tup]
    refine o_y (y_assign rfl) rfl ?_
    refine o_y (y_assign rfl) rfl ?_
    refine o_nil ?_
    refine f_seq ?_
    refine c_ret ?_
    exact f_ent (by repeat (first | with_reducible exact Ent.nil | (apply Ent.one; focus (repeat (first | with_reducible exact Rem.here | apply Rem.there))))) (f_ret rfl ⟨rfl, rfl⟩)
  | some u =>
    rw [hfr] at hg
    have hg : mget es no = some (.int .i64 u) := hg
    refine o_y (y_not rfl) rfl ?_
    refine o_nil ?_
    refine f_seq ?_
    refine c_false rfl ?_
    refine c_skip ?_
    refine f_seq ?_
    refine c_seq ?_
    refine c_seq ?_
    refine c_region ?_
    refine o_y (y_move rfl) rfl ?_
    refine o_y (y_nilCheck rfl) rfl ?_
    refine o_y (y_fieldAddr0 rfl) rfl ?_
    refine o_y (y_load rfl rfl rfl) rfl ?_
    refine o_y (y_move rfl) rfl ?_
    refine o_y (y_lookup_okv rfl rfl (by assumption)) rfl ?_
    refine o_y (y_move rfl) rfl ?_
    refine o_y (y_extract rfl rfl) rfl ?_
    refine o_y (y_extract rfl rfl) rfl ?_
    refine o_y (y_assign rfl) rfl ?_
    refine o_y (y_assign rfl) rfl ?_
    refine o_nil ?_
    refine f_seq ?_
    refine c_seq ?_
    refine c_region ?_
    refine o_y (y_move rfl) rfl ?_
    refine o_nil ?_
    refine f_seq ?_
    refine c_true rfl ?_
    refine c_seq ?_
    refine c_seq ?_
    refine c_region ?_
    refine o_y (y_move rfl) rfl ?_
    refine o_y (y_move rfl) rfl ?_
    refine o_y (y_move rfl) rfl ?_
    refine o_y (y_move rfl) rfl ?_
    refine o_y (y_move rfl) rfl ?_
    refine o_ent (M := [PCo p d cv lf lc S, RowA q strC 1 a cells]) (Ent.put (by repeat (first | with_reducible exact Takes.nil | (apply Takes.cons; focus (repeat (first | with_reducible exact Rem.here | apply Rem.there))))) (PCo.mk _ (by exact ⟨rfl, rfl, rfl, rfl, rfl, rfl, rfl⟩) hwf him) (by repeat (first | with_reducible exact Ent.nil | (apply Ent.one; focus (repeat (first | with_reducible exact Rem.here | apply Rem.there)))))) ?_
    refine o_call rfl (pgwrite_f S q a cap k no kind link cells hs (by omega) h.disk (by omega) ⟨by omega, by omega⟩) (by repeat (first | with_reducible exact Takes.nil | (apply Takes.cons; focus (repeat (first | with_reducible exact Rem.here | apply Rem.there))))) rfl ?_
    rintro _ _ ⟨rfl, rfl⟩
    simp only [List.append_eq, List.cons_append, List.nil_append, List.append_nil, tup]
    generalize S.write no kind link cells = w
    obtain ⟨W, er⟩ := w
    dsimp only
    by_cases her : er = 0
    case neg =>
      rw [if_pos her]
      refine o_y (y_assign rfl) rfl ?_
      refine o_nil ?_
      refine f_seq ?_
      refine c_seq ?_
      refine c_region ?_
      refine o_y (y_move rfl) rfl ?_
      refine o_y (y_neq_t rfl rfl (by omega)) rfl ?_
      refine o_nil ?_
      refine f_seq ?_
      refine c_true rfl ?_
      refine c_seq ?_
      refine c_region ?_
      refine o_y (y_move rfl) rfl ?_
      refine o_y (y_assign rfl) rfl ?_
      refine o_y (y_assign rfl) rfl ?_
      refine o_nil ?_
      refine f_seq ?_
      refine c_ret ?_
      refine f_seq_ret ?_
      refine f_seq_ret ?_
      exact f_ent (by repeat (first | with_reducible exact Ent.nil | (apply Ent.one; focus (repeat (first | with_reducible exact Rem.here | apply Rem.there))))) (f_ret rfl ⟨rfl, rfl⟩)
    subst her
    rw [if_neg (fun h => h rfl)]
    refine o_y (y_assign rfl) rfl ?_
    refine o_nil ?_
    refine f_seq ?_
    refine c_seq ?_
    refine c_region ?_
    refine o_y (y_move rfl) rfl ?_
    refine o_y (y_neq_f rfl rfl (by omega)) rfl ?_
    refine o_nil ?_
    refine f_seq ?_
    refine c_false rfl ?_
    refine c_skip ?_
    refine f_seq ?_
    refine c_seq ?_
    refine c_region ?_
    refine o_y (y_move rfl) rfl ?_
    refine o_y (y_assign rfl) rfl ?_
    refine o_y (y_assign rfl) rfl ?_
    refine o_nil ?_
    refine f_seq ?_
    refine c_ret ?_
    refine f_seq_ret ?_
    exact f_ent (by repeat (first | with_reducible exact Ent.nil | (apply Ent.one; focus (repeat (first | with_reducible exact Rem.here | apply Rem.there))))) (f_ret rfl ⟨rfl, rfl⟩)
end Go.Lun

/- The pager: Super, Free, Chain, Oldest, keep, Abort. -/
namespace Go.Lun
open Go.Proofs

/-- The rows at a pager: its chain, the free pages and the chain that it keeps. -/
structure PZ where
  ca : Option Addr
  cc : Nat
  fa : Option Addr
  fc : Nat
  la : Option Addr
  lc : Nat
abbrev PZ.frs (z : PZ) (p d : Nat) (S : PS) : List Asrt := [PCo p d (.slice z.ca S.chain.length z.cc) (.slice z.fa S.lfree.length z.fc) (.slice z.la S.lchain.length z.lc) S, RowA false intC 1 z.ca S.chain, RowA false freeC 2 z.fa S.lfree, RowA false intC 1 z.la S.lchain]
def PZ.fit (z : PZ) (S : PS) : Prop := Wf z.ca S.chain.length z.cc ∧ Wf z.fa S.lfree.length z.fc ∧ Wf z.la S.lchain.length z.lc
def PRep (p d : Nat) (S : PS) : Asrt := fun r => ∃ z : PZ, z.fit S ∧ sep (z.frs p d S) r
instance {p d : Nat} {S : PS} : Opens (PRep p d S) PZ (fun z => z.fit S) (fun z => z.frs p d S) := ⟨fun _ h => h⟩
theorem PRep.mk {p d n1 n2 n3 c1 c2 c3 : Nat} {a1 a2 a3 : Option Addr} {S : PS} {ch lch : List Int} {lf : List FR} (T : PS) (h : T = S ∧ T.chain = ch ∧ T.lfree = lf ∧ T.lchain = lch ∧ n1 = ch.length ∧ n2 = lf.length ∧ n3 = lch.length) (h1 : Wf a1 n1 c1) (h2 : Wf a2 n2 c2) (h3 : Wf a3 n3 c3) :
    ∀ r, sep [PCo p d (.slice a1 n1 c1) (.slice a2 n2 c2) (.slice a3 n3 c3) S, RowA false intC 1 a1 ch, RowA false freeC 2 a2 lf, RowA false intC 1 a3 lch] r → PRep p d T r := by
  obtain ⟨rfl, rfl, rfl, rfl, rfl, rfl, rfl⟩ := h
  exact fun _ hr => ⟨⟨a1, c1, a2, c2, a3, c3⟩, ⟨h1, h2, h3⟩, hr⟩

/-- What no act but a telling turns. -/
structure Same (S T : PS) : Prop where
  chain : T.chain = S.chain
  lfree : T.lfree = S.lfree
  lchain : T.lchain = S.lchain
  lpages : T.lpages = S.lpages
  x : T.x = S.x
theorem Same.refl (S : PS) : Same S S := ⟨rfl, rfl, rfl, rfl, rfl⟩
theorem Same.trans {S T U : PS} (h : Same S T) (k : Same T U) : Same S U := ⟨k.chain.trans h.chain, k.lfree.trans h.lfree, k.lchain.trans h.lchain, k.lpages.trans h.lpages, k.x.trans h.x⟩
theorem same_take (S : PS) : Same S S.take.1 := by
  unfold PS.take
  split
  · exact ⟨rfl, rfl, rfl, rfl, rfl⟩
  · split <;> exact ⟨rfl, rfl, rfl, rfl, rfl⟩
theorem same_write (S : PS) (no kind link : Int) (cells : List Bytes) : Same S (S.write no kind link cells).1 := by
  unfold PS.write
  split <;> exact ⟨rfl, rfl, rfl, rfl, rfl⟩
theorem same_new (S : PS) (kind link : Int) (cells : List Bytes) : Same S (S.new kind link cells).1 := by
  unfold PS.new
  split
  · exact .refl S
  · split
    · exact same_take S
    · split <;> exact (same_take S).trans (same_write ..)
theorem same_drop (S : PS) (no : Int) : Same S (S.drop no).1 := by
  unfold PS.drop
  split
  · split <;> exact ⟨rfl, rfl, rfl, rfl, rfl⟩
  · exact .refl S
theorem same_change (S : PS) (no kind link : Int) (cells : List Bytes) : Same S (S.change no kind link cells).1 := by
  unfold PS.change
  split
  · split
    · split <;> exact same_write ..
    · split
      · exact same_new ..
      · exact (same_new ..).trans (same_drop ..)
  · exact .refl S

variable {p d : Nat}

/-- A contract over a pager's core, over the pager. -/
theorem core_frame {f : FuncId} {args : List Value} {S T : PS} {v0 : Value} {X : List Asrt} (hs : Same S T)
    (h : ∀ cv lf lc, Fn Tryz.prog f args (PCo p d cv lf lc S :: X) (fun v L => v = v0 ∧ L = PCo p d cv lf lc T :: X)) :
    Fn Tryz.prog f args (PRep p d S :: X) (fun v L => v = v0 ∧ L = PRep p d T :: X) := by
  refine fn_open (A := PRep p d S) Rem.here (fun z hz => ?_)
  obtain ⟨h1, h2, h3⟩ := hz
  refine (h (.slice z.ca S.chain.length z.cc) (.slice z.fa S.lfree.length z.fc) (.slice z.la S.lchain.length z.lc)).frame (M := [RowA false intC 1 z.ca S.chain, RowA false freeC 2 z.fa S.lfree, RowA false intC 1 z.la S.lchain]) ?_ ?_
  · refine Takes.cons Rem.here ?_
    have key : ∀ (Y : List Asrt) (M : List Asrt), Takes (M ++ Y) Y M := fun Y => by
      induction Y with
      | nil => intro M; rw [List.append_nil]; exact .nil
      | cons A Y ih =>
        intro M
        refine Takes.cons (M := M ++ Y) ?_ (ih M)
        induction M with
        | nil => exact Rem.here
        | cons B M ihM => exact Rem.there ihM
    exact key X _
  · rintro v L ⟨rfl, rfl⟩
    refine ⟨_, _, ⟨rfl, rfl⟩, rfl, ?_⟩
    have e1 := hs.chain; have e2 := hs.lfree; have e3 := hs.lchain
    refine Ent.put (P := [PCo p d (.slice z.ca S.chain.length z.cc) (.slice z.fa S.lfree.length z.fc) (.slice z.la S.lchain.length z.lc) T, RowA false intC 1 z.ca S.chain, RowA false freeC 2 z.fa S.lfree, RowA false intC 1 z.la S.lchain]) (R := X) ?_ (PRep.mk T ⟨rfl, e1, e2, e3, rfl, rfl, rfl⟩ h1 h2 h3) (Ent.refl _)
    have key2 : ∀ (Y : List Asrt) {A : Asrt} {M : List Asrt}, Rem (Y ++ A :: M) A (Y ++ M) := fun Y => by
      induction Y with
      | nil => intro A M; exact Rem.here
      | cons B Y ih => intro A M; exact Rem.there ih
    exact Takes.cons Rem.here (Takes.cons (key2 X) (Takes.cons (key2 X) (Takes.cons (M := X) (by have := key2 X (A := RowA false intC 1 z.la S.lchain) (M := []); rwa [List.append_nil] at this) Takes.nil)))

theorem drop_p (S : PS) (k : Nat) (no : Int) (h : PFit S k) : Fn Tryz.prog 64 [.pointer (some ⟨p, 0, none⟩), .int .i64 no] [PRep p d S]
    (fun v L => v = .int .i64 (S.drop no).2 ∧ L = [PRep p d (S.drop no).1]) := core_frame (same_drop S no) fun _ _ _ => pgdrop_f S k no h
theorem new_p (S : PS) (q : Bool) (a : Option Addr) (cap k : Nat) (kind link : Int) (cells : List Bytes) (hs : Small cells) (h : PFit S k) (hk : k ≤ 800000) :
    Fn Tryz.prog 34 [.pointer (some ⟨p, 0, none⟩), .int .i64 kind, .int .i64 link, .slice a cells.length cap] [PRep p d S, RowA q strC 1 a cells]
    (fun v L => v = .tuple ⟨[.int .i64 (S.new kind link cells).2.1, .int .i64 (S.new kind link cells).2.2]⟩ ∧ L = [PRep p d (S.new kind link cells).1, RowA q strC 1 a cells]) := core_frame (same_new ..) fun _ _ _ => pgnew_f S q a cap k kind link cells hs h hk
theorem change_p (S : PS) (q : Bool) (a : Option Addr) (cap k : Nat) (no kind link : Int) (cells : List Bytes) (hs : Small cells) (h : PFit S k) (hk : k ≤ 800000) :
    Fn Tryz.prog 56 [.pointer (some ⟨p, 0, none⟩), .int .i64 no, .int .i64 kind, .int .i64 link, .slice a cells.length cap] [PRep p d S, RowA q strC 1 a cells]
    (fun v L => v = .tuple ⟨[.int .i64 (S.change no kind link cells).2.1, .int .i64 (S.change no kind link cells).2.2]⟩ ∧ L = [PRep p d (S.change no kind link cells).1, RowA q strC 1 a cells]) := core_frame (same_change ..) fun _ _ _ => pgchange_f S q a cap k no kind link cells hs h hk

theorem super_p (S : PS) : Fn Tryz.prog 25 [.pointer (some ⟨p, 0, none⟩)] [PRep p d S] (fun v L => v = .agg ⟨S.x.vals⟩ ∧ L = [PRep p d S]) := by
  refine core_frame (X := []) (.refl S) fun cv lf lc => ?_
  refine fn_open (A := PCo p d cv lf lc S) Rem.here (fun y hy => ?_)
  obtain ⟨rb, s, fa, fc, m, es, ck⟩ := y
  obtain ⟨hwf, him⟩ := hy
  dsimp only at hwf him
  try dsimp only [PY.frs]
  simp only [List.append_eq, List.cons_append, List.nil_append, List.append_nil, tup]
  refine fn_start Tryz.func25 rfl rfl rfl fun F => ?_
  refine c_seq ?_
  refine c_region ?_
  refine o_alloc rfl (fun zb => ?_)
  refine o_nil ?_
  refine f_seq ?_
  refine c_seq ?_
  refine c_region ?_
  refine o_y (y_move rfl) rfl ?_
  refine o_y (y_nilCheck rfl) rfl ?_
  refine o_y (y_fieldAddr0 rfl) rfl ?_
  refine o_y (y_loadN rfl rfl rfl) rfl ?_
  refine o_store rfl rfl rfl frz0 ?_
  refine o_nil ?_
  refine f_seq ?_
  refine c_ret ?_
  refine f_retc rfl rfl rfl rfl rfl ?_ ⟨rfl, rfl⟩
  exact Ent.put (by repeat (first | with_reducible exact Takes.nil | (apply Takes.cons; focus (repeat (first | with_reducible exact Rem.here | apply Rem.there))))) (PCo.mk _ (by exact ⟨rfl, rfl, rfl, rfl, rfl, rfl, rfl⟩) hwf him) (by repeat (first | with_reducible exact Ent.nil | (apply Ent.one; focus (repeat (first | with_reducible exact Rem.here | apply Rem.there)))))

theorem free_p (S : PS) (hn : S.free.length ≤ 1000000) : Fn Tryz.prog 27 [.pointer (some ⟨p, 0, none⟩)] [PRep p d S] (fun v L => ∃ a cap, Wf a S.free.length cap ∧ v = .slice a S.free.length cap ∧ L = [RowA false freeC 2 a S.free, PRep p d S]) := by
  refine fn_open (A := PRep p d S) Rem.here (fun z hz => ?_)
  obtain ⟨h1, h2, h3⟩ := hz
  refine fn_open (A := PCo p d (.slice z.ca S.chain.length z.cc) (.slice z.fa S.lfree.length z.fc) (.slice z.la S.lchain.length z.lc) S) Rem.here (fun y hy => ?_)
  obtain ⟨rb, s, fa, fc, m, es, ck⟩ := y
  obtain ⟨hwf, him⟩ := hy
  dsimp only at hwf him
  try dsimp only [PY.frs]
  simp only [List.append_eq, List.cons_append, List.nil_append, List.append_nil, tup]
  refine fn_start Tryz.func27 rfl rfl rfl fun F => ?_
  refine c_seq ?_
  refine c_region ?_
  refine o_y (y_assign rfl) rfl ?_
  refine o_nil ?_
  refine f_seq ?_
  refine c_seq ?_
  refine c_region ?_
  refine o_y (y_move rfl) rfl ?_
  refine o_y (y_nilCheck rfl) rfl ?_
  refine o_y (y_fieldAddr0 rfl) rfl ?_
  refine o_y (y_load rfl rfl rfl) rfl ?_
  refine o_call rfl (clonef_f hn hwf) (by repeat (first | with_reducible exact Takes.nil | (apply Takes.cons; focus (repeat (first | with_reducible exact Rem.here | apply Rem.there))))) rfl ?_
  rintro _ _ ⟨a', cap', hw', rfl, rfl⟩
  simp only [List.append_eq, List.cons_append, List.nil_append, List.append_nil, tup]
  refine o_y (y_assign rfl) rfl ?_
  refine o_nil ?_
  refine f_seq ?_
  refine c_ret ?_
  refine f_ent (M := [RowA false freeC 2 a' S.free, PRep p d S]) (Ent.one Rem.here ?_) (f_ret rfl ⟨a', cap', hw', rfl, rfl⟩)
  refine (Ent.put (by repeat (first | with_reducible exact Takes.nil | (apply Takes.cons; focus (repeat (first | with_reducible exact Rem.here | apply Rem.there))))) (PCo.mk S (by exact ⟨rfl, rfl, rfl, rfl, rfl, rfl, rfl⟩) hwf him) (Ent.refl _)).trans ?_
  exact Ent.put (by repeat (first | with_reducible exact Takes.nil | (apply Takes.cons; focus (repeat (first | with_reducible exact Rem.here | apply Rem.there))))) (PRep.mk S (by exact ⟨rfl, rfl, rfl, rfl, rfl, rfl, rfl⟩) h1 h2 h3) (by repeat (first | with_reducible exact Ent.nil | (apply Ent.one; focus (repeat (first | with_reducible exact Rem.here | apply Rem.there)))))

theorem chain_p (S : PS) (hn : S.chain.length ≤ 1000000) : Fn Tryz.prog 29 [.pointer (some ⟨p, 0, none⟩)] [PRep p d S] (fun v L => ∃ a cap, Wf a S.chain.length cap ∧ v = .slice a S.chain.length cap ∧ L = [RowA false intC 1 a S.chain, PRep p d S]) := by
  refine fn_open (A := PRep p d S) Rem.here (fun z hz => ?_)
  obtain ⟨h1, h2, h3⟩ := hz
  refine fn_open (A := PCo p d (.slice z.ca S.chain.length z.cc) (.slice z.fa S.lfree.length z.fc) (.slice z.la S.lchain.length z.lc) S) Rem.here (fun y hy => ?_)
  obtain ⟨rb, s, fa, fc, m, es, ck⟩ := y
  obtain ⟨hwf, him⟩ := hy
  dsimp only at hwf him
  try dsimp only [PY.frs]
  simp only [List.append_eq, List.cons_append, List.nil_append, List.append_nil, tup]
  refine fn_start Tryz.func29 rfl rfl rfl fun F => ?_
  refine c_seq ?_
  refine c_region ?_
  refine o_y (y_assign rfl) rfl ?_
  refine o_nil ?_
  refine f_seq ?_
  refine c_seq ?_
  refine c_region ?_
  refine o_y (y_move rfl) rfl ?_
  refine o_y (y_nilCheck rfl) rfl ?_
  refine o_y (y_fieldAddr0 rfl) rfl ?_
  refine o_y (y_load rfl rfl rfl) rfl ?_
  refine o_call rfl (clonei_f hn h1) (by repeat (first | with_reducible exact Takes.nil | (apply Takes.cons; focus (repeat (first | with_reducible exact Rem.here | apply Rem.there))))) rfl ?_
  rintro _ _ ⟨a', cap', hw', rfl, rfl⟩
  simp only [List.append_eq, List.cons_append, List.nil_append, List.append_nil, tup]
  refine o_y (y_assign rfl) rfl ?_
  refine o_nil ?_
  refine f_seq ?_
  refine c_ret ?_
  refine f_ent (M := [RowA false intC 1 a' S.chain, PRep p d S]) (Ent.one Rem.here ?_) (f_ret rfl ⟨a', cap', hw', rfl, rfl⟩)
  refine (Ent.put (by repeat (first | with_reducible exact Takes.nil | (apply Takes.cons; focus (repeat (first | with_reducible exact Rem.here | apply Rem.there))))) (PCo.mk S (by exact ⟨rfl, rfl, rfl, rfl, rfl, rfl, rfl⟩) hwf him) (Ent.refl _)).trans ?_
  exact Ent.put (by repeat (first | with_reducible exact Takes.nil | (apply Takes.cons; focus (repeat (first | with_reducible exact Rem.here | apply Rem.there))))) (PRep.mk S (by exact ⟨rfl, rfl, rfl, rfl, rfl, rfl, rfl⟩) h1 h2 h3) (by repeat (first | with_reducible exact Ent.nil | (apply Ent.one; focus (repeat (first | with_reducible exact Rem.here | apply Rem.there)))))

def PS.old (S : PS) (e : Int) : PS := { S with oldest := min e S.x.e }
theorem oldest_p (S : PS) (e : Int) : Fn Tryz.prog 53 [.pointer (some ⟨p, 0, none⟩), .int .i64 e] [PRep p d S] (fun v L => v = .tuple ⟨[]⟩ ∧ L = [PRep p d (S.old e)]) := by
  refine core_frame (X := []) (T := S.old e) ⟨rfl, rfl, rfl, rfl, rfl⟩ fun cv lf lc => ?_
  refine fn_open (A := PCo p d cv lf lc S) Rem.here (fun y hy => ?_)
  obtain ⟨rb, s, fa, fc, m, es, ck⟩ := y
  obtain ⟨hwf, him⟩ := hy
  dsimp only at hwf him
  try dsimp only [PY.frs]
  simp only [List.append_eq, List.cons_append, List.nil_append, List.append_nil, tup]
  refine fn_start Tryz.func53 rfl rfl rfl fun F => ?_
  refine c_region ?_
  refine o_y (y_move rfl) rfl ?_
  refine o_y (y_move rfl) rfl ?_
  refine o_y (y_move rfl) rfl ?_
  refine o_y (y_nilCheck rfl) rfl ?_
  refine o_y (y_fieldAddr0 rfl) rfl ?_
  refine o_y (y_fieldAddr rfl) rfl ?_
  refine o_y (y_load rfl rfl rfl) rfl ?_
  refine o_y (y_min rfl rfl) rfl ?_
  refine o_y (y_nilCheck rfl) rfl ?_
  refine o_y (y_fieldAddr0 rfl) rfl ?_
  refine o_store rfl rfl rfl frz0 ?_
  refine o_nil ?_
  refine f_ent ?_ (f_end rfl ⟨rfl, rfl⟩)
  exact Ent.put (by repeat (first | with_reducible exact Takes.nil | (apply Takes.cons; focus (repeat (first | with_reducible exact Rem.here | apply Rem.there))))) (PCo.mk _ (by exact ⟨rfl, rfl, rfl, rfl, rfl, rfl, rfl⟩) hwf him) (by repeat (first | with_reducible exact Ent.nil | (apply Ent.one; focus (repeat (first | with_reducible exact Rem.here | apply Rem.there)))))

def PS.keep (S : PS) : PS := { S with fresh := fun _ => none, oldest := S.x.e, lpages := S.pages, lfree := S.free, lchain := S.chain }
def PS.abort (S : PS) : PS := { S with pages := S.lpages, free := S.lfree, chain := S.lchain, fresh := fun _ => none }

set_option maxHeartbeats 6400000 in
theorem keep_p (S : PS) (hn : S.free.length ≤ 1000000) (hc : S.chain.length ≤ 1000000) : Fn Tryz.prog 72 [.pointer (some ⟨p, 0, none⟩)] [PRep p d S] (fun v L => v = .tuple ⟨[]⟩ ∧ L = [PRep p d S.keep]) := by
  refine fn_open (A := PRep p d S) Rem.here (fun z hz => ?_)
  obtain ⟨h1, h2, h3⟩ := hz
  refine fn_open (A := PCo p d (.slice z.ca S.chain.length z.cc) (.slice z.fa S.lfree.length z.fc) (.slice z.la S.lchain.length z.lc) S) Rem.here (fun y hy => ?_)
  obtain ⟨rb, s, fa, fc, m, es, ck⟩ := y
  obtain ⟨hwf, him⟩ := hy
  dsimp only at hwf him
  try dsimp only [PY.frs]
  simp only [List.append_eq, List.cons_append, List.nil_append, List.append_nil, tup]
  refine fn_start Tryz.func72 rfl rfl rfl fun F => ?_
  refine c_seq ?_
  refine c_region ?_
  refine o_y (y_move rfl) rfl ?_
  refine o_makeMap rfl (fun mb => ?_)
  refine o_y (y_nilCheck rfl) rfl ?_
  refine o_y (y_fieldAddr0 rfl) rfl ?_
  refine o_store rfl rfl rfl frz0 ?_
  refine o_nil ?_
  refine f_seq ?_
  refine c_seq ?_
  refine c_ent (M := [Blk p (pobj rb S.x (.slice fa S.free.length fc) (.slice z.ca S.chain.length z.cc) mb S.oldest S.lpages (.slice z.fa S.lfree.length z.fc) (.slice z.la S.lchain.length z.lc)), Blk rb (robj d s S.pages), DRep d S.D, SumR s, RowA false freeC 2 fa S.free, Blk mb (.map #[] 0), RowA false intC 1 z.ca S.chain]) (by repeat (first | with_reducible exact Ent.nil | (apply Ent.one; focus (repeat (first | with_reducible exact Rem.here | apply Rem.there))))) ?_
  refine pl_start [12, 17, 21] Tryz.mixed ?_; intro hd
  refine pl_lock (A := Blk _ _) Rem.here rfl ?_ hd; intro hb0
  refine pl_lock (A := Blk _ _) Rem.here rfl ?_ hd; intro hb1
  refine pl_take (i := 0) rfl (by kernel_rfl) (y_move rfl) ?_ hd; clear hd; intro hd
  refine pl_take (i := 1) rfl (by kernel_rfl) (y_move rfl) ?_ hd; clear hd; intro hd
  refine pl_take (i := 2) rfl (by kernel_rfl) (y_nilCheck rfl) ?_ hd; clear hd; intro hd
  refine pl_take (i := 3) rfl (by kernel_rfl) (y_fieldAddr0 rfl) ?_ hd; clear hd; intro hd
  refine pl_take (i := 4) rfl (by kernel_rfl) (y_load rfl rfl rfl) ?_ hd; clear hd; intro hd
  refine pl_take (i := 5) rfl (by kernel_rfl) (y_nilCheck rfl) ?_ hd; clear hd; intro hd
  refine pl_take (i := 6) rfl (by kernel_rfl) (y_fieldAddr0 rfl) ?_ hd; clear hd; intro hd
  refine pl_take (i := 7) rfl (by kernel_rfl) (y_load rfl rfl rfl) ?_ hd; clear hd; intro hd
  refine pl_take (i := 8) rfl (by kernel_rfl) (y_move rfl) ?_ hd; clear hd; intro hd
  refine pl_take (i := 9) rfl (by kernel_rfl) (y_nilCheck rfl) ?_ hd; clear hd; intro hd
  refine pl_take (i := 10) rfl (by kernel_rfl) (y_fieldAddr0 rfl) ?_ hd; clear hd; intro hd
  refine pl_take (i := 11) rfl (by kernel_rfl) (y_load rfl rfl rfl) ?_ hd; clear hd; intro hd
  refine pl_take (i := 13) rfl (by kernel_rfl) (y_move rfl) ?_ hd; clear hd; intro hd
  refine pl_take (i := 14) rfl (by kernel_rfl) (y_nilCheck rfl) ?_ hd; clear hd; intro hd
  refine pl_take (i := 15) rfl (by kernel_rfl) (y_fieldAddr0 rfl) ?_ hd; clear hd; intro hd
  refine pl_take (i := 16) rfl (by kernel_rfl) (y_load rfl rfl rfl) ?_ hd; clear hd; intro hd
  refine pl_sole (i := 12) (by kernel_rfl) rfl ?_ hd; clear hd; intro hd
  refine o_call rfl (clonef_f hn hwf) (by repeat (first | with_reducible exact Takes.nil | (apply Takes.cons; focus (repeat (first | with_reducible exact Rem.here | apply Rem.there))))) rfl ?_
  rintro _ _ ⟨a1, c1, hw1, rfl, rfl⟩
  simp only [List.append_eq, List.cons_append, List.nil_append, List.append_nil, tup]
  refine pl_back (by repeat (first | with_reducible exact Owes.nil | with_reducible refine Owes.same ?_ | with_reducible refine Owes.any ?_ | refine Owes.waived 12 (by kernel_rfl) ?_)) ?_ hd; clear hd; intro hd
  refine pl_sole (i := 17) (by kernel_rfl) rfl ?_ hd; clear hd; intro hd
  refine o_call rfl (clonei_f hc h1) (by repeat (first | with_reducible exact Takes.nil | (apply Takes.cons; focus (repeat (first | with_reducible exact Rem.here | apply Rem.there))))) rfl ?_
  rintro _ _ ⟨a2, c2, hw2, rfl, rfl⟩
  simp only [List.append_eq, List.cons_append, List.nil_append, List.append_nil, tup]
  refine pl_back (by repeat (first | with_reducible exact Owes.nil | with_reducible refine Owes.same ?_ | with_reducible refine Owes.any ?_ | refine Owes.waived 17 (by kernel_rfl) ?_ | refine Owes.waived 12 (by kernel_rfl) ?_)) ?_ hd; clear hd; intro hd
  refine pl_take (i := 18) rfl (by kernel_rfl) (y_build rfl) ?_ hd; clear hd; intro hd
  refine pl_take (i := 19) rfl (by kernel_rfl) (y_nilCheck rfl) ?_ hd; clear hd; intro hd
  refine pl_take (i := 20) rfl (by kernel_rfl) (y_fieldAddr0 rfl) ?_ hd; clear hd; intro hd
  refine pl_sole (i := 21) (by kernel_rfl) rfl ?_ hd; clear hd; intro hd
  refine o_unlock (A := Blk _ _) ?_
  refine o_unlock (A := Blk _ _) ?_
  refine o_store rfl rfl rfl frz0 ?_
  refine pl_back (by repeat (first | with_reducible exact Owes.nil | with_reducible refine Owes.same ?_ | with_reducible refine Owes.any ?_ | refine Owes.waived 21 (by kernel_rfl) ?_ | refine Owes.waived 17 (by kernel_rfl) ?_ | refine Owes.waived 12 (by kernel_rfl) ?_)) ?_ hd; clear hd; intro hd
  refine pl_done (by kernel_rfl) ?_ hd
  refine f_seq ?_
  refine c_region ?_
  refine o_y (y_move rfl) rfl ?_
  refine o_y (y_move rfl) rfl ?_
  refine o_y (y_nilCheck rfl) rfl ?_
  refine o_y (y_fieldAddr0 rfl) rfl ?_
  refine o_y (y_fieldAddr rfl) rfl ?_
  refine o_y (y_load rfl rfl rfl) rfl ?_
  refine o_y (y_nilCheck rfl) rfl ?_
  refine o_y (y_fieldAddr0 rfl) rfl ?_
  refine o_store rfl rfl rfl frz0 ?_
  refine o_nil ?_
  refine f_ent ?_ (f_end rfl ⟨rfl, rfl⟩)
  rw [show (.map #[] 0 : Obj) = .map (ents []) 0 from rfl]
  refine (Ent.put (by repeat (first | with_reducible exact Takes.nil | (apply Takes.cons; focus (repeat (first | with_reducible exact Rem.here | apply Rem.there))))) (PCo.mk S.keep (by exact ⟨rfl, rfl, rfl, rfl, rfl, rfl, rfl⟩) hwf (es := []) (ck := 0) IMok.nil) (Ent.refl _)).trans ?_
  exact Ent.put (by repeat (first | with_reducible exact Takes.nil | (apply Takes.cons; focus (repeat (first | with_reducible exact Rem.here | apply Rem.there))))) (PRep.mk S.keep (by exact ⟨rfl, rfl, rfl, rfl, rfl, rfl, rfl⟩) h1 hw1 hw2) (by repeat (first | with_reducible exact Ent.nil | (apply Ent.one; focus (repeat (first | with_reducible exact Rem.here | apply Rem.there)))))

set_option maxHeartbeats 6400000 in
theorem abort_p (S : PS) (hn : S.lfree.length ≤ 1000000) (hc : S.lchain.length ≤ 1000000) : Fn Tryz.prog 31 [.pointer (some ⟨p, 0, none⟩)] [PRep p d S] (fun v L => v = .tuple ⟨[]⟩ ∧ L = [PRep p d S.abort]) := by
  refine fn_open (A := PRep p d S) Rem.here (fun z hz => ?_)
  obtain ⟨h1, h2, h3⟩ := hz
  refine fn_open (A := PCo p d (.slice z.ca S.chain.length z.cc) (.slice z.fa S.lfree.length z.fc) (.slice z.la S.lchain.length z.lc) S) Rem.here (fun y hy => ?_)
  obtain ⟨rb, s, fa, fc, m, es, ck⟩ := y
  obtain ⟨hwf, him⟩ := hy
  dsimp only at hwf him
  try dsimp only [PY.frs]
  simp only [List.append_eq, List.cons_append, List.nil_append, List.append_nil, tup]
  refine fn_start Tryz.func31 rfl rfl rfl fun F => ?_
  refine c_seq ?_
  refine pl_start [16, 22, 25, 28, 31] Tryz.mixed ?_; intro hd
  refine pl_lock (A := Blk _ _) Rem.here rfl ?_ hd; intro hb0
  refine pl_lock (A := Blk _ _) Rem.here rfl ?_ hd; intro hb1
  refine pl_take (i := 0) rfl (by kernel_rfl) (y_move rfl) ?_ hd; clear hd; intro hd
  refine pl_take (i := 1) rfl (by kernel_rfl) (y_nilCheck rfl) ?_ hd; clear hd; intro hd
  refine pl_take (i := 2) rfl (by kernel_rfl) (y_fieldAddr0 rfl) ?_ hd; clear hd; intro hd
  refine pl_take (i := 3) rfl (by kernel_rfl) (y_load rfl rfl rfl) ?_ hd; clear hd; intro hd
  refine pl_pure (i := 4) rfl (by kernel_rfl) (fun _ => y_move rfl) ?_ hd; clear hd; intro hd
  refine pl_pure (i := 5) rfl (by kernel_rfl) (fun _ => y_move rfl) ?_ hd; clear hd; intro hd
  refine pl_take (i := 6) rfl (by kernel_rfl) (y_move rfl) ?_ hd; clear hd; intro hd
  refine pl_take (i := 7) rfl (by kernel_rfl) (y_nilCheck rfl) ?_ hd; clear hd; intro hd
  refine pl_take (i := 8) rfl (by kernel_rfl) (y_fieldAddr0 rfl) ?_ hd; clear hd; intro hd
  refine pl_take (i := 9) rfl (by kernel_rfl) (y_fieldAddr rfl) ?_ hd; clear hd; intro hd
  refine pl_take (i := 10) rfl (by kernel_rfl) (y_load rfl rfl rfl) ?_ hd; clear hd; intro hd
  refine pl_take (i := 11) rfl (by kernel_rfl) (y_move rfl) ?_ hd; clear hd; intro hd
  refine pl_take (i := 12) rfl (by kernel_rfl) (y_nilCheck rfl) ?_ hd; clear hd; intro hd
  refine pl_take (i := 13) rfl (by kernel_rfl) (y_fieldAddr0 rfl) ?_ hd; clear hd; intro hd
  refine pl_take (i := 14) rfl (by kernel_rfl) (y_fieldAddr rfl) ?_ hd; clear hd; intro hd
  refine pl_take (i := 15) rfl (by kernel_rfl) (y_load rfl rfl rfl) ?_ hd; clear hd; intro hd
  refine pl_take (i := 17) rfl (by kernel_rfl) (y_move rfl) ?_ hd; clear hd; intro hd
  refine pl_take (i := 18) rfl (by kernel_rfl) (y_nilCheck rfl) ?_ hd; clear hd; intro hd
  refine pl_take (i := 19) rfl (by kernel_rfl) (y_fieldAddr0 rfl) ?_ hd; clear hd; intro hd
  refine pl_take (i := 20) rfl (by kernel_rfl) (y_fieldAddr rfl) ?_ hd; clear hd; intro hd
  refine pl_take (i := 21) rfl (by kernel_rfl) (y_load rfl rfl rfl) ?_ hd; clear hd; intro hd
  refine pl_sole (i := 16) (by kernel_rfl) rfl ?_ hd; clear hd; intro hd
  refine o_call rfl (clonef_f hn h2) (by repeat (first | with_reducible exact Takes.nil | (apply Takes.cons; focus (repeat (first | with_reducible exact Rem.here | apply Rem.there))))) rfl ?_
  rintro _ _ ⟨a1, c1, hw1, rfl, rfl⟩
  simp only [List.append_eq, List.cons_append, List.nil_append, List.append_nil, tup]
  refine pl_back (by repeat (first | with_reducible exact Owes.nil | with_reducible refine Owes.same ?_ | with_reducible refine Owes.any ?_ | refine Owes.waived 16 (by kernel_rfl) ?_)) ?_ hd; clear hd; intro hd
  refine pl_sole (i := 22) (by kernel_rfl) rfl ?_ hd; clear hd; intro hd
  refine o_call rfl (clonei_f hc h3) (by repeat (first | with_reducible exact Takes.nil | (apply Takes.cons; focus (repeat (first | with_reducible exact Rem.here | apply Rem.there))))) rfl ?_
  rintro _ _ ⟨a2, c2, hw2, rfl, rfl⟩
  simp only [List.append_eq, List.cons_append, List.nil_append, List.append_nil, tup]
  refine pl_back (by repeat (first | with_reducible exact Owes.nil | with_reducible refine Owes.same ?_ | with_reducible refine Owes.any ?_ | refine Owes.waived 22 (by kernel_rfl) ?_ | refine Owes.waived 16 (by kernel_rfl) ?_)) ?_ hd; clear hd; intro hd
  refine pl_take (i := 23) rfl (by kernel_rfl) (y_nilCheck rfl) ?_ hd; clear hd; intro hd
  refine pl_take (i := 24) rfl (by kernel_rfl) (y_fieldAddr0 rfl) ?_ hd; clear hd; intro hd
  refine pl_sole (i := 25) (by kernel_rfl) rfl ?_ hd; clear hd; intro hd
  refine o_unlock (A := Blk _ _) ?_
  refine o_unlock (A := Blk _ _) ?_
  refine o_store rfl rfl rfl frz0 ?_
  refine pl_back (by repeat (first | with_reducible exact Owes.nil | with_reducible refine Owes.same ?_ | with_reducible refine Owes.any ?_ | refine Owes.waived 25 (by kernel_rfl) ?_ | refine Owes.waived 22 (by kernel_rfl) ?_ | refine Owes.waived 16 (by kernel_rfl) ?_)) ?_ hd; clear hd; intro hd
  refine pl_take (i := 26) rfl (by kernel_rfl) (y_nilCheck rfl) ?_ hd; clear hd; intro hd
  refine pl_take (i := 27) rfl (by kernel_rfl) (y_fieldAddr0 rfl) ?_ hd; clear hd; intro hd
  refine pl_sole (i := 28) (by kernel_rfl) rfl ?_ hd; clear hd; intro hd
  refine o_store rfl rfl rfl frz0 ?_
  refine pl_back (by repeat (first | with_reducible exact Owes.nil | with_reducible refine Owes.same ?_ | with_reducible refine Owes.any ?_ | refine Owes.waived 28 (by kernel_rfl) ?_ | refine Owes.waived 25 (by kernel_rfl) ?_ | refine Owes.waived 22 (by kernel_rfl) ?_ | refine Owes.waived 16 (by kernel_rfl) ?_)) ?_ hd; clear hd; intro hd
  refine pl_take (i := 29) rfl (by kernel_rfl) (y_nilCheck rfl) ?_ hd; clear hd; intro hd
  refine pl_take (i := 30) rfl (by kernel_rfl) (y_fieldAddr0 rfl) ?_ hd; clear hd; intro hd
  refine pl_sole (i := 31) (by kernel_rfl) rfl ?_ hd; clear hd; intro hd
  refine o_store rfl rfl rfl frz0 ?_
  refine pl_back (by repeat (first | with_reducible exact Owes.nil | with_reducible refine Owes.same ?_ | with_reducible refine Owes.any ?_ | refine Owes.waived 31 (by kernel_rfl) ?_ | refine Owes.waived 28 (by kernel_rfl) ?_ | refine Owes.waived 25 (by kernel_rfl) ?_ | refine Owes.waived 22 (by kernel_rfl) ?_ | refine Owes.waived 16 (by kernel_rfl) ?_)) ?_ hd; clear hd; intro hd
  refine pl_done (by kernel_rfl) ?_ hd
  refine f_seq ?_
  refine c_region ?_
  refine o_y (y_move rfl) rfl ?_
  refine o_y (y_nilCheck rfl) rfl ?_
  refine o_y (y_fieldAddr0 rfl) rfl ?_
  refine o_y (y_load rfl rfl rfl) rfl ?_
  refine o_call rfl (delall_f m ck es S.fresh him) (by repeat (first | with_reducible exact Takes.nil | (apply Takes.cons; focus (repeat (first | with_reducible exact Rem.here | apply Rem.there))))) rfl ?_
  rintro _ _ ⟨rfl, rfl⟩
  simp only [List.append_eq, List.cons_append, List.nil_append, List.append_nil, tup]
  refine o_nil ?_
  refine f_ent ?_ (f_end rfl ⟨rfl, rfl⟩)
  refine (Ent.put (by repeat (first | with_reducible exact Takes.nil | (apply Takes.cons; focus (repeat (first | with_reducible exact Rem.here | apply Rem.there))))) (PCo.mk S.abort (by exact ⟨rfl, rfl, rfl, rfl, rfl, rfl, rfl⟩) hw1 (es := []) (ck := ck) IMok.nil) (Ent.refl _)).trans ?_
  exact Ent.put (by repeat (first | with_reducible exact Takes.nil | (apply Takes.cons; focus (repeat (first | with_reducible exact Rem.here | apply Rem.there))))) (PRep.mk S.abort (by exact ⟨rfl, rfl, rfl, rfl, rfl, rfl, rfl⟩) hw2 h2 h3) (by repeat (first | with_reducible exact Ent.nil | (apply Ent.one; focus (repeat (first | with_reducible exact Rem.here | apply Rem.there)))))
end Go.Lun

/- The pager: relay. -/
namespace Go.Lun
open Go.Proofs

def PS.frs (S : PS) (l : List Int) : List FR := l.foldl (fun l no => putF l no (S.x.e + 1)) S.free
def PS.freed (S : PS) : PS := { S with free := S.frs S.chain, chain := [] }
theorem take_len (S : PS) : S.take.1.free.length ≤ S.free.length ∧ S.take.1.chain = S.chain := by
  refine ⟨?_, (same_take S).chain⟩
  unfold PS.take
  cases h : takeF S.free S.oldest with
  | some qm =>
    obtain ⟨q, m⟩ := qm
    obtain ⟨f, a, b, h1, h2, _⟩ := takeF_some h
    dsimp only [PS.took]
    rw [h1, h2]; simp
  | none => dsimp only; split <;> exact Nat.le_refl _
/-- A chain's page taken. -/
abbrev PS.link (S : PS) : PS := { S.take.1 with chain := S.take.1.chain ++ [S.take.2.1] }
def PS.lay (S : PS) : PS × Int :=
  if S.chain.length * 23 < S.free.length then (if S.take.2.2 ≠ 0 then (S.take.1, S.take.2.2) else PS.lay S.link) else (S, 0)
termination_by S.free.length - S.chain.length * 23
decreasing_by
  have := take_len S
  simp only [PS.link, List.length_append, List.length_cons, List.length_nil, this.2]
  omega
/-- The first pages of a chain written. -/
def PS.wr (T : PS) : Nat → PS
  | 0 => T
  | i + 1 => ((T.wr i).write (T.chain.getD i 0) 3 (T.chain.getD (i + 1) 0) ((cellsF T.free).getD i [])).1
def PS.relay (S : PS) : PS × Int := if S.freed.lay.2 ≠ 0 then S.freed.lay else (S.freed.lay.1.wr S.freed.lay.1.chain.length, 0)

/-- A chain's pages are there. -/
structure CFit (S : PS) : Prop where
  ok : ∀ no ∈ S.chain, 2 ≤ no ∧ no < S.pages
  len : S.chain.length ≤ 100000

theorem PFit.free {S : PS} {k : Nat} (h : PFit S k) {l : List FR} (h1 : SF l) (h2 : ∀ f ∈ l, f.p < S.pages) : PFit { S with free := l } k := ⟨h.disk, h.most, h.pg, h1, h2, h.e⟩
theorem frs_snoc (S : PS) (l : List Int) (no : Int) : S.frs (l ++ [no]) = putF (S.frs l) no (S.x.e + 1) := by unfold PS.frs; rw [List.foldl_append]; rfl
theorem PFit.frs {S : PS} {k : Nat} (h : PFit S k) : ∀ (l : List Int), (∀ no ∈ l, 2 ≤ no ∧ no < S.pages) → SF (S.frs l) ∧ ∀ f ∈ S.frs l, f.p < S.pages := by
  have hp := h.pg; have hm := h.most; have he := h.e
  have key : ∀ (l : List Int) (fl : List FR), (∀ no ∈ l, 2 ≤ no ∧ no < S.pages) → SF fl → (∀ f ∈ fl, f.p < S.pages) → SF (l.foldl (fun l no => putF l no (S.x.e + 1)) fl) ∧ ∀ f ∈ l.foldl (fun l no => putF l no (S.x.e + 1)) fl, f.p < S.pages := fun l => by
    induction l with
    | nil => intro fl _ h1 h2; exact ⟨h1, h2⟩
    | cons no l ih =>
      intro fl hl h1 h2
      have hno := hl no (by simp)
      rw [List.foldl_cons]
      refine ih _ (fun x hx => hl x (List.mem_cons_of_mem _ hx)) ?_ ?_
      · rw [putF_ins]; exact ins_sf (by omega) (by omega) h1
      · rw [putF_ins]
        intro f hf
        rcases (ins_mem h1).1 hf with rfl | h3
        · exact hno.2
        · exact h2 f h3.1
  exact fun l hl => key l S.free hl h.sf h.lt
theorem PFit.freed {S : PS} {k : Nat} (h : PFit S k) (hc : CFit S) : PFit S.freed k ∧ CFit S.freed :=
  ⟨⟨h.disk, h.most, h.pg, (h.frs S.chain hc.ok).1, (h.frs S.chain hc.ok).2, h.e⟩, ⟨fun _ h => (by cases h), by show (0 : Nat) ≤ _; omega⟩⟩
theorem PFit.link {S : PS} {k : Nat} (h : PFit S k) (hc : CFit S) (ht : S.take.2.2 = 0) (hl : S.chain.length * 23 < S.free.length) : PFit S.link k ∧ CFit S.link := by
  obtain ⟨h1, h2, _⟩ := h.take
  have h3 := h2 ht
  have hlen := h.len
  have hpg : S.pages ≤ S.take.1.pages := by
    unfold PS.take
    split
    · exact Int.le_refl _
    · split
      · exact Int.le_refl _
      · show S.pages ≤ S.pages + 1; omega
  refine ⟨⟨h1.disk, h1.most, h1.pg, h1.sf, h1.lt, h1.e⟩, ⟨fun no hno => ?_, ?_⟩⟩
  · rcases List.mem_append.1 hno with hno | hno
    · rw [(same_take S).chain] at hno
      have := hc.ok no hno
      exact ⟨this.1, by show no < S.take.1.pages; omega⟩
    · rw [List.mem_singleton] at hno; subst hno; exact h3
  · show (S.take.1.chain ++ [S.take.2.1]).length ≤ _
    rw [(same_take S).chain, List.length_append]
    simp only [List.length_cons, List.length_nil]; omega

/-- The cells that tell free pages fit onto pages. -/
theorem cellsF_fit (l : List FR) : ∀ c ∈ cellsF l, c.length ≤ 23 ∧ ∀ s ∈ c, s.length = 8 := fun c hc => by
  obtain ⟨i, _, rfl⟩ := List.mem_map.1 hc
  refine ⟨by rw [List.length_map, chunk_len]; omega, fun s hs => ?_⟩
  obtain ⟨f, _, rfl⟩ := List.mem_map.1 hs
  rfl
theorem room_eight : ∀ {c : List Bytes}, (∀ s ∈ c, s.length = 8) → room c = 10 * c.length
  | [], _ => rfl
  | s :: c, h => by
    have ih := room_eight (c := c) (fun x hx => h x (List.mem_cons_of_mem _ hx))
    have := h s (by simp)
    unfold room at ih ⊢
    rw [List.map_cons, List.sum_cons, ih, List.length_cons]; omega
theorem getD_cells {l : List FR} (i : Nat) : ((cellsF l).getD i []).length ≤ 23 ∧ ∀ s ∈ (cellsF l).getD i [], s.length = 8 := by
  rw [List.getD_eq_getElem?_getD]
  cases h : (cellsF l)[i]? with
  | none => exact ⟨Nat.zero_le _, fun _ h => by cases h⟩
  | some c => exact cellsF_fit l c (List.mem_of_getElem? h)
theorem small_eight {c : List Bytes} (h : c.length ≤ 23 ∧ ∀ s ∈ c, s.length = 8) : Small c := ⟨by omega, fun s hs => by rw [h.2 s hs]; omega⟩
theorem fits_eight {c : List Bytes} (h : c.length ≤ 23 ∧ ∀ s ∈ c, s.length = 8) : fitsP c = true := by
  unfold fitsP
  rw [room_eight h.2]
  simp only [Bool.and_eq_true, decide_eq_true_eq, List.all_eq_true]
  exact ⟨by omega, fun s hs => by rw [h.2 s hs]; omega⟩
theorem wr_eq (T : PS) : ∀ i, Same T (T.wr i) ∧ (T.wr i).free = T.free ∧ (T.wr i).pages = T.pages
  | 0 => ⟨.refl T, rfl, rfl⟩
  | i + 1 => by
    obtain ⟨h1, h2, h3⟩ := wr_eq T i
    refine ⟨h1.trans (same_write ..), ?_, ?_⟩
    · show (PS.write _ _ _ _ _).1.free = _
      unfold PS.write; split <;> exact h2
    · show (PS.write _ _ _ _ _).1.pages = _
      unfold PS.write; split <;> exact h3
theorem PFit.wr {T : PS} {k : Nat} (h : PFit T k) : ∀ i, PFit (T.wr i) (k + i)
  | 0 => h
  | i + 1 => ((h.wr i).write _ _ _ _).1
theorem wr_err {T : PS} {k : Nat} (h : PFit T k) (hc : CFit T) {i : Nat} (hi : i < T.chain.length) : ((T.wr i).page (T.chain.getD i 0) 3 (T.chain.getD (i + 1) 0) ((cellsF T.free).getD i [])).err = 0 := by
  have hx := (wr_eq T i).1.x
  have he := h.e
  have hp := h.pg
  have hm := h.most
  unfold PG.err
  rw [if_pos (fits_eight (getD_cells i)), if_pos]
  have hg : ∀ j, 0 ≤ T.chain.getD j 0 ∧ T.chain.getD j 0 ≤ 4294967295 := fun j => by
    rw [List.getD_eq_getElem?_getD]
    cases h : T.chain[j]? with
    | none => exact ⟨by decide, by decide⟩
    | some c =>
      have := hc.ok c (List.mem_of_getElem? h)
      dsimp only [Option.getD]; omega
  refine ⟨(by decide : (1 : Int) ≤ 3), (by decide : (3 : Int) ≤ 255), (hg i).1, (hg i).2, ?_, ?_, (hg (i + 1)).1, (hg (i + 1)).2⟩
  · dsimp only; rw [hx]; omega
  · dsimp only; rw [hx]; omega
end Go.Lun

/- The pager: relay, walked. -/
namespace Go.Lun
open Go.Proofs

variable {p d : Nat}

theorem cells_len (l : List FR) : (cellsF l).length = (l.length + 22) / 23 := by unfold cellsF; rw [List.length_map, List.length_range]

set_option maxHeartbeats 25600000 in
theorem relay_p (S : PS) (k : Nat) (h : PFit S k) (hc : CFit S) (hk : k ≤ 500000) :
    Fn Tryz.prog 140 [.pointer (some ⟨p, 0, none⟩)] [PRep p d S] (fun v L => v = .int .i64 S.relay.2 ∧ L = [PRep p d S.relay.1]) := by
  refine fn_open (A := PRep p d S) Rem.here (fun z hz => ?_)
  obtain ⟨h1, h2, h3⟩ := hz
  obtain ⟨ca, cc, lfa, lfc, la, lc⟩ := z
  dsimp only at h1 h2 h3
  try dsimp only [PZ.frs]
  generalize hlf : Value.slice lfa S.lfree.length lfc = lfv
  generalize hlc : Value.slice la S.lchain.length lc = lcv
  simp only [List.append_eq, List.cons_append, List.nil_append, List.append_nil, tup]
  refine fn_start Tryz.func140 rfl rfl rfl fun F => ?_
  have hlen := hc.len
  have he := h.e
  refine c_seq ?_
  refine c_region ?_
  refine o_y (y_assign rfl) rfl ?_
  refine o_nil ?_
  refine f_seq ?_
  refine c_open (A := PCo p d (.slice ca S.chain.length cc) lfv lcv S) Rem.here (fun y hy => ?_)
  obtain ⟨rb, s, fa, fc, m, es, ck⟩ := y
  obtain ⟨hwf, him⟩ := hy
  dsimp only at hwf him
  try dsimp only [PY.frs]
  simp only [List.append_eq, List.cons_append, List.nil_append, List.append_nil, tup]
  refine c_seq ?_
  refine c_seq ?_
  refine c_region ?_
  refine o_y (y_move rfl) rfl ?_
  refine o_y (y_nilCheck rfl) rfl ?_
  refine o_y (y_fieldAddr0 rfl) rfl ?_
  refine o_y (y_load rfl rfl rfl) rfl ?_
  refine o_y (y_len_slice rfl) rfl ?_
  refine o_y (y_move rfl) rfl ?_
  refine o_nil ?_
  refine f_seq ?_
  refine c_block ?_
  refine c_loop_inv (X := Nat) (fun i => i ≤ S.chain.length) (fun i => S.chain.length - i)
    (fun i => [PCo p d (.slice ca S.chain.length cc) lfv lcv { S with free := S.frs (S.chain.take i) }, RowA false intC 1 ca S.chain, RowA false freeC 2 lfa S.lfree, RowA false intC 1 la S.lchain])
    (fun i => [(0, .pointer (some ⟨p, 0, none⟩)), (17, .slice ca S.chain.length cc), (18, .int .i64 (S.chain.length : Int)), (19, .int .i64 (i : Int))])
    0 (Nat.zero_le _) (Ent.put (by repeat (first | with_reducible exact Takes.nil | (apply Takes.cons; focus (repeat (first | with_reducible exact Rem.here | apply Rem.there))))) (PCo.mk _ (by exact ⟨rfl, rfl, rfl, rfl, rfl, rfl, rfl⟩) hwf him) (by repeat (first | with_reducible exact Ent.nil | (apply Ent.one; focus (repeat (first | with_reducible exact Rem.here | apply Rem.there)))))) (by repeat (first | exact trivial | refine ⟨rfl, ?_⟩)) ?_
  clear hwf him es ck m fa fc s rb
  intro i hi ih
  by_cases hlt : i < S.chain.length
  case pos =>
    obtain ⟨no, hno⟩ : ∃ c, S.chain[i]? = some c := ⟨_, List.getElem?_eq_getElem hlt⟩
    have hne : S.chain ≠ [] := by intro h; rw [h] at hlt; exact absurd hlt (by simp)
    have hfr := h.frs (S.chain.take i) (fun no hn => hc.ok no (List.mem_of_mem_take hn))
    have hfl := (h.free hfr.1 hfr.2).len
    dsimp only at hfl
    have hsn : putF (S.frs (S.chain.take i)) no (S.x.e + 1) = S.frs (S.chain.take (i + 1)) := by rw [take_snoc' hno, frs_snoc]
    refine c_open (h := RowA.opens (f := intC) hne) (by repeat (first | with_reducible exact Rem.here | apply Rem.there)) (fun y hy2 => ?_)
    obtain ⟨kb, ko, cs, T, fz⟩ := y
    obtain ⟨e1, e2⟩ := hy2
    dsimp only at e1 e2
    have hgt := int_get e2 hno
    rw [e1]
    simp only [List.append_eq, List.cons_append, List.nil_append, List.append_nil, tup]
    refine c_open (A := PCo p d _ lfv lcv _) (by apply Rem.there; exact Rem.here) (fun y hy => ?_)
    obtain ⟨rb, s, fa, fc, m, es, ck⟩ := y
    obtain ⟨hwf, him⟩ := hy
    dsimp only at hwf him
    try dsimp only [PY.frs]
    simp only [List.append_eq, List.cons_append, List.nil_append, List.append_nil, tup]
    refine c_seq ?_
    refine c_region ?_
    refine o_y (y_lss_t rfl rfl (by omega)) rfl ?_
    refine o_nil ?_
    refine f_seq ?_
    refine c_seq ?_
    refine c_true rfl ?_
    refine c_skip ?_
    refine f_seq ?_
    refine c_seq ?_
    refine c_block ?_
    refine c_seq ?_
    refine c_region ?_
    refine o_y (y_indexAddr i rfl rfl rfl hlt) rfl ?_
    refine o_y (y_load rfl rfl hgt) rfl ?_
    refine o_y (y_assign rfl) rfl ?_
    refine o_nil ?_
    refine f_seq ?_
    refine pl_start [12, 15] Tryz.mixed ?_; intro hd
    refine pl_lock (A := Blk _ _) Rem.here rfl ?_ hd; intro hb0
    refine pl_take (i := 0) rfl (by kernel_rfl) (y_move rfl) ?_ hd; clear hd; intro hd
    refine pl_take (i := 1) rfl (by kernel_rfl) (y_move rfl) ?_ hd; clear hd; intro hd
    refine pl_take (i := 2) rfl (by kernel_rfl) (y_nilCheck rfl) ?_ hd; clear hd; intro hd
    refine pl_take (i := 3) rfl (by kernel_rfl) (y_fieldAddr0 rfl) ?_ hd; clear hd; intro hd
    refine pl_take (i := 4) rfl (by kernel_rfl) (y_load rfl rfl rfl) ?_ hd; clear hd; intro hd
    refine pl_take (i := 5) rfl (by kernel_rfl) (y_move rfl) ?_ hd; clear hd; intro hd
    refine pl_take (i := 6) rfl (by kernel_rfl) (y_move rfl) ?_ hd; clear hd; intro hd
    refine pl_take (i := 7) rfl (by kernel_rfl) (y_nilCheck rfl) ?_ hd; clear hd; intro hd
    refine pl_take (i := 8) rfl (by kernel_rfl) (y_fieldAddr0 rfl) ?_ hd; clear hd; intro hd
    refine pl_take (i := 9) rfl (by kernel_rfl) (y_fieldAddr rfl) ?_ hd; clear hd; intro hd
    refine pl_take (i := 10) rfl (by kernel_rfl) (y_load rfl rfl rfl) ?_ hd; clear hd; intro hd
    refine pl_take (i := 11) rfl (by kernel_rfl) (y_arith64 rfl rfl rfl (by omega)) ?_ hd; clear hd; intro hd
    refine pl_sole (i := 12) (by kernel_rfl) rfl ?_ hd; clear hd; intro hd
    refine o_call rfl (fput_f no (S.x.e + 1) (by omega) hwf) (by repeat (first | with_reducible exact Takes.nil | (apply Takes.cons; focus (repeat (first | with_reducible exact Rem.here | apply Rem.there))))) rfl ?_
    rintro _ _ ⟨a', cap', hw', rfl, rfl⟩
    simp only [List.append_eq, List.cons_append, List.nil_append, List.append_nil, tup]
    refine pl_back (by repeat (first | with_reducible exact Owes.nil | with_reducible refine Owes.same ?_ | with_reducible refine Owes.any ?_ | refine Owes.waived 12 (by kernel_rfl) ?_)) ?_ hd; clear hd; intro hd
    refine pl_take (i := 13) rfl (by kernel_rfl) (y_nilCheck rfl) ?_ hd; clear hd; intro hd
    refine pl_take (i := 14) rfl (by kernel_rfl) (y_fieldAddr0 rfl) ?_ hd; clear hd; intro hd
    refine pl_sole (i := 15) (by kernel_rfl) rfl ?_ hd; clear hd; intro hd
    refine o_unlock (A := Blk _ _) ?_
    refine o_store rfl rfl rfl frz0 ?_
    refine pl_back (by repeat (first | with_reducible exact Owes.nil | with_reducible refine Owes.same ?_ | with_reducible refine Owes.any ?_ | refine Owes.waived 15 (by kernel_rfl) ?_ | refine Owes.waived 12 (by kernel_rfl) ?_)) ?_ hd; clear hd; intro hd
    refine pl_done (by kernel_rfl) ?_ hd
    rw [hsn] at hw' ⊢
    refine f_block ?_
    refine f_seq ?_
    refine c_region ?_
    refine o_y (y_arith64 rfl rfl rfl (by omega)) rfl ?_
    refine o_y (y_move rfl) rfl ?_
    refine o_nil ?_
    refine f_next ?_ ?_ (ih (i + 1) hlt (by omega))
    · rw [e1]
      refine Ent.put (by repeat (first | with_reducible exact Takes.nil | (apply Takes.cons; focus (repeat (first | with_reducible exact Rem.here | apply Rem.there))))) (PCo.mk { S with free := S.frs (S.chain.take (i + 1)) } (by exact ⟨rfl, rfl, rfl, rfl, rfl, rfl, rfl⟩) hw' him) ?_
      exact Ent.put (P := [Bkp false kb (.cells ⟨cs⟩ T fz)]) (by repeat (first | with_reducible exact Takes.nil | (apply Takes.cons; focus (repeat (first | with_reducible exact Rem.here | apply Rem.there))))) (RowA.shut rfl e2) (by repeat (first | with_reducible exact Ent.nil | (apply Ent.one; focus (repeat (first | with_reducible exact Rem.here | apply Rem.there)))))
    · rw [e1]
      repeat (first | exact trivial | refine ⟨rfl, ?_⟩)
  case neg =>
  clear ih
  rw [List.take_of_length_le (by omega)]
  refine c_open (A := PCo p d _ lfv lcv _) Rem.here (fun y hy => ?_)
  obtain ⟨rb, s, fa, fc, m, es, ck⟩ := y
  obtain ⟨hwf, him⟩ := hy
  dsimp only at hwf him
  try dsimp only [PY.frs]
  simp only [List.append_eq, List.cons_append, List.nil_append, List.append_nil, tup]
  refine c_seq ?_
  refine c_region ?_
  refine o_y (y_lss_f rfl rfl (by omega)) rfl ?_
  refine o_nil ?_
  refine f_seq ?_
  refine c_seq ?_
  refine c_false rfl ?_
  refine c_exit ?_
  refine f_seq_exit ?_
  refine f_seq_exit ?_
  refine f_block_here ?_
  refine f_seq ?_
  refine c_seq ?_
  refine c_region ?_
  refine o_y (y_move rfl) rfl ?_
  refine o_y (y_nilCheck rfl) rfl ?_
  refine o_y (y_fieldAddr0 rfl) rfl ?_
  refine o_store rfl rfl rfl frz0 ?_
  refine o_nil ?_
  refine f_seq ?_
  refine c_seq ?_
  refine c_block ?_
  obtain ⟨hF, hFc⟩ := h.freed hc
  have hrelay : S.relay = if S.freed.lay.2 ≠ 0 then S.freed.lay else (S.freed.lay.1.wr S.freed.lay.1.chain.length, 0) := rfl
  have hsame : Same { S with chain := [] } S.freed := ⟨rfl, rfl, rfl, rfl, rfl⟩
  have hlfr : S.freed.lfree = S.lfree := rfl
  have hlch : S.freed.lchain = S.lchain := rfl
  refine c_loop_inv (X := PS × Option Addr × Nat) (fun x => PFit x.1 k ∧ CFit x.1 ∧ x.1.lay = S.freed.lay ∧ x.1.lfree = S.lfree ∧ x.1.lchain = S.lchain) (fun x => x.1.free.length - x.1.chain.length * 23)
    (fun x => [PCo p d (.slice x.2.1 x.1.chain.length x.2.2) lfv lcv x.1, Sl 3 1 x.2.1 x.1.chain.length x.2.2 (x.1.chain.flatMap intC), RowA false freeC 2 lfa S.lfree, RowA false intC 1 la S.lchain])
    (fun x => [(0, .pointer (some ⟨p, 0, none⟩))])
    (S.freed, none, 0) ⟨hF, hFc, rfl, rfl, rfl⟩ ?_ (by repeat (first | exact trivial | refine ⟨rfl, ?_⟩)) ?_
  · dsimp only
    rw [show S.freed.chain.length = 0 from rfl, show S.freed.chain.flatMap intC = [] from rfl]
    refine Ent.put (by repeat (first | with_reducible exact Takes.nil | (apply Takes.cons; focus (repeat (first | with_reducible exact Rem.here | apply Rem.there))))) (PCo.mk S.freed (by exact ⟨rfl, rfl, rfl, rfl, rfl, rfl, rfl⟩) hwf him) ?_
    exact Ent.put (P := []) Takes.nil Sl.shut_nil (by repeat (first | with_reducible exact Ent.nil | (apply Ent.one; focus (repeat (first | with_reducible exact Rem.here | apply Rem.there)))))
  clear hwf him es ck m fa fc s rb hlt hi i hF hFc hsame h1
  rintro ⟨T, a, c⟩ ⟨hT, hTc, hlay, hl1, hl2⟩ ih
  dsimp only at hT hTc hlay hl1 hl2 ih ⊢
  have hTl := hT.len
  have hTcl := hTc.len
  refine c_open (A := PCo p d _ lfv lcv _) Rem.here (fun y hy => ?_)
  obtain ⟨rb, s, fa, fc, m, es, ck⟩ := y
  obtain ⟨hwf, him⟩ := hy
  dsimp only at hwf him
  try dsimp only [PY.frs]
  simp only [List.append_eq, List.cons_append, List.nil_append, List.append_nil, tup]
  by_cases hmore : T.chain.length * 23 < T.free.length
  case pos =>
    refine c_seq ?_
    refine c_seq ?_
    refine pl_start [] Tryz.mixed ?_; intro hd
    refine pl_lock (A := Blk _ _) Rem.here rfl ?_ hd; intro hb0
    refine pl_take (i := 0) rfl (by kernel_rfl) (y_move rfl) ?_ hd; clear hd; intro hd
    refine pl_take (i := 1) rfl (by kernel_rfl) (y_nilCheck rfl) ?_ hd; clear hd; intro hd
    refine pl_take (i := 2) rfl (by kernel_rfl) (y_fieldAddr0 rfl) ?_ hd; clear hd; intro hd
    refine pl_take (i := 3) rfl (by kernel_rfl) (y_load rfl rfl rfl) ?_ hd; clear hd; intro hd
    refine pl_take (i := 4) rfl (by kernel_rfl) (y_len_slice rfl) ?_ hd; clear hd; intro hd
    refine pl_take (i := 5) rfl (by kernel_rfl) (y_arith64 rfl rfl rfl (by omega)) ?_ hd; clear hd; intro hd
    refine pl_take (i := 6) rfl (by kernel_rfl) (y_move rfl) ?_ hd; clear hd; intro hd
    refine pl_take (i := 7) rfl (by kernel_rfl) (y_nilCheck rfl) ?_ hd; clear hd; intro hd
    refine pl_take (i := 8) rfl (by kernel_rfl) (y_fieldAddr0 rfl) ?_ hd; clear hd; intro hd
    refine pl_take (i := 9) rfl (by kernel_rfl) (y_load rfl rfl rfl) ?_ hd; clear hd; intro hd
    refine pl_take (i := 10) rfl (by kernel_rfl) (y_len_slice rfl) ?_ hd; clear hd; intro hd
    refine pl_take (i := 11) rfl (by kernel_rfl) (y_lss_t rfl rfl (by omega)) ?_ hd; clear hd; intro hd
    refine pl_done (by kernel_rfl) ?_ hd
    refine f_unlock (A := Blk _ _) ?_
    refine f_seq ?_
    refine c_true rfl ?_
    refine c_skip ?_
    refine f_seq ?_
    refine c_block ?_
    refine c_seq ?_
    refine c_region ?_
    refine o_y (y_move rfl) rfl ?_
    refine o_ent (M := [PCo p d (.slice a T.chain.length c) lfv lcv T, Sl 3 1 a T.chain.length c (T.chain.flatMap intC), RowA false freeC 2 lfa S.lfree, RowA false intC 1 la S.lchain]) (Ent.put (by repeat (first | with_reducible exact Takes.nil | (apply Takes.cons; focus (repeat (first | with_reducible exact Rem.here | apply Rem.there))))) (PCo.mk _ (by exact ⟨rfl, rfl, rfl, rfl, rfl, rfl, rfl⟩) hwf him) (by repeat (first | with_reducible exact Ent.nil | (apply Ent.one; focus (repeat (first | with_reducible exact Rem.here | apply Rem.there)))))) ?_
    have hTp := hT.pg
    have hTm := hT.most
    refine o_call rfl (take_f T (by omega) hT.disk.dead (by omega)) (by repeat (first | with_reducible exact Takes.nil | (apply Takes.cons; focus (repeat (first | with_reducible exact Rem.here | apply Rem.there))))) rfl ?_
    rintro _ _ ⟨rfl, rfl⟩
    simp only [List.append_eq, List.cons_append, List.nil_append, List.append_nil, tup]
    rw [PS.lay, if_pos hmore] at hlay
    have hch := (take_len T).2
    have hfl := (take_len T).1
    by_cases her : T.take.2.2 = 0
    case neg =>
      clear ih
      rw [if_pos her] at hlay
      rw [hrelay, ← hlay, if_pos her]
      refine o_y (y_move rfl) rfl ?_
      refine o_y (y_extract rfl rfl) rfl ?_
      refine o_y (y_extract rfl rfl) rfl ?_
      refine o_y (y_assign rfl) rfl ?_
      refine o_y (y_assign rfl) rfl ?_
      refine o_nil ?_
      refine f_seq ?_
      refine c_seq ?_
      refine c_seq ?_
      refine c_region ?_
      refine o_y (y_move rfl) rfl ?_
      refine o_y (y_neq_t rfl rfl (by omega)) rfl ?_
      refine o_nil ?_
      refine f_seq ?_
      refine c_true rfl ?_
      refine c_seq ?_
      refine c_region ?_
      refine o_y (y_move rfl) rfl ?_
      refine o_y (y_assign rfl) rfl ?_
      refine o_nil ?_
      refine f_seq ?_
      refine c_ret ?_
      refine f_seq_ret ?_
      refine f_block_ret ?_
      refine f_seq_ret ?_
      refine f_block_ret ?_
      refine f_seq_ret ?_
      refine f_openWf (a := a) (len := T.chain.length) (cap := c) (by repeat (first | with_reducible exact Rem.here | apply Rem.there)) (fun hw => ?_)
      refine f_shareSl (a := a) (cap := c) intC T.chain (by repeat (first | with_reducible exact Rem.here | apply Rem.there)) rfl rfl ?_
      refine f_ent ?_ (f_ret rfl ⟨rfl, rfl⟩)
      subst hlf; subst hlc
      refine Ent.put (by repeat (first | with_reducible exact Takes.nil | (apply Takes.cons; focus (repeat (first | with_reducible exact Rem.here | apply Rem.there))))) (PRep.mk T.take.1 (by exact ⟨rfl, hch, (same_take T).lfree.trans hl1, (same_take T).lchain.trans hl2, rfl, rfl, rfl⟩) hw h2 h3) (by repeat (first | with_reducible exact Ent.nil | (apply Ent.one; focus (repeat (first | with_reducible exact Rem.here | apply Rem.there)))))
    case pos =>
    rw [if_neg (fun h => h her)] at hlay
    obtain ⟨hL, hLc⟩ := hT.link hTc her hmore
    refine o_open (A := PCo p d _ lfv lcv _) Rem.here (fun y hy => ?_)
    obtain ⟨rb, s, fa, fc, m, es, ck⟩ := y
    obtain ⟨hwf, him⟩ := hy
    dsimp only at hwf him
    try dsimp only [PY.frs]
    simp only [List.append_eq, List.cons_append, List.nil_append, List.append_nil, tup]
    refine o_y (y_move rfl) rfl ?_
    refine o_y (y_extract rfl rfl) rfl ?_
    refine o_y (y_extract rfl rfl) rfl ?_
    refine o_y (y_assign rfl) rfl ?_
    refine o_y (y_assign rfl) rfl ?_
    refine o_nil ?_
    refine f_seq ?_
    refine c_seq ?_
    refine c_seq ?_
    refine c_region ?_
    refine o_y (y_move rfl) rfl ?_
    refine o_y (y_neq_f rfl rfl (by omega)) rfl ?_
    refine o_nil ?_
    refine f_seq ?_
    refine c_false rfl ?_
    refine c_skip ?_
    refine f_seq ?_
    refine c_region ?_
    refine o_y (y_move rfl) rfl ?_
    refine o_y (y_move rfl) rfl ?_
    refine o_y (y_nilCheck rfl) rfl ?_
    refine o_y (y_fieldAddr0 rfl) rfl ?_
    refine o_y (y_load rfl rfl rfl) rfl ?_
    refine o_y (y_move rfl) rfl ?_
    refine o_buildSlice rfl rfl rfl rfl rfl (fun nb => ?_)
    refine o_append (k := 1) (ys := [.int .i64 T.take.2.1]) rfl rfl (Src.slice rfl) (by repeat (first | with_reducible exact Rem.here | apply Rem.there)) (by simp [Value.oneCell']) (by omega) rfl (by omega) rfl (fun a2 c2 => ?_)
    refine o_y (y_nilCheck rfl) rfl ?_
    refine o_y (y_fieldAddr0 rfl) rfl ?_
    refine o_store rfl rfl rfl frz0 ?_
    refine o_nil ?_
    refine f_block ?_
    have el : T.link.chain.length = T.chain.length + 1 := by show (T.take.1.chain ++ [T.take.2.1]).length = _; rw [hch, List.length_append]; rfl
    have ef : T.link.chain.flatMap intC = T.chain.flatMap intC ++ [.int .i64 T.take.2.1] := by show (T.take.1.chain ++ [T.take.2.1]).flatMap intC = _; rw [hch, List.flatMap_append]; rfl
    refine f_next ?_ ?_ (ih (T.link, a2, c2) ⟨hL, hLc, hlay, (same_take T).lfree.trans hl1, (same_take T).lchain.trans hl2⟩ ?_)
    · dsimp only
      rw [el, ef]
      refine Ent.put (by repeat (first | with_reducible exact Takes.nil | (apply Takes.cons; focus (repeat (first | with_reducible exact Rem.here | apply Rem.there))))) (PCo.mk T.link (by exact ⟨rfl, rfl, rfl, rfl, rfl, rfl, rfl⟩) hwf him) ?_
      repeat (first | with_reducible exact Ent.nil | (apply Ent.one; focus (repeat (first | with_reducible exact Rem.here | apply Rem.there))))
    · repeat (first | exact trivial | refine ⟨rfl, ?_⟩)
    · dsimp only
      rw [el]
      show T.take.1.free.length - _ < _
      omega
  case neg =>
  clear ih
  rw [PS.lay, if_neg hmore] at hlay
  rw [hrelay, ← hlay, if_neg (fun h => h rfl)]
  refine c_seq ?_
  refine c_seq ?_
  refine pl_start [] Tryz.mixed ?_; intro hd
  refine pl_lock (A := Blk _ _) Rem.here rfl ?_ hd; intro hb0
  refine pl_take (i := 0) rfl (by kernel_rfl) (y_move rfl) ?_ hd; clear hd; intro hd
  refine pl_take (i := 1) rfl (by kernel_rfl) (y_nilCheck rfl) ?_ hd; clear hd; intro hd
  refine pl_take (i := 2) rfl (by kernel_rfl) (y_fieldAddr0 rfl) ?_ hd; clear hd; intro hd
  refine pl_take (i := 3) rfl (by kernel_rfl) (y_load rfl rfl rfl) ?_ hd; clear hd; intro hd
  refine pl_take (i := 4) rfl (by kernel_rfl) (y_len_slice rfl) ?_ hd; clear hd; intro hd
  refine pl_take (i := 5) rfl (by kernel_rfl) (y_arith64 rfl rfl rfl (by omega)) ?_ hd; clear hd; intro hd
  refine pl_take (i := 6) rfl (by kernel_rfl) (y_move rfl) ?_ hd; clear hd; intro hd
  refine pl_take (i := 7) rfl (by kernel_rfl) (y_nilCheck rfl) ?_ hd; clear hd; intro hd
  refine pl_take (i := 8) rfl (by kernel_rfl) (y_fieldAddr0 rfl) ?_ hd; clear hd; intro hd
  refine pl_take (i := 9) rfl (by kernel_rfl) (y_load rfl rfl rfl) ?_ hd; clear hd; intro hd
  refine pl_take (i := 10) rfl (by kernel_rfl) (y_len_slice rfl) ?_ hd; clear hd; intro hd
  refine pl_take (i := 11) rfl (by kernel_rfl) (y_lss_f rfl rfl (by omega)) ?_ hd; clear hd; intro hd
  refine pl_done (by kernel_rfl) ?_ hd
  refine f_unlock (A := Blk _ _) ?_
  refine f_seq ?_
  refine c_false rfl ?_
  refine c_exit ?_
  refine f_seq_exit ?_
  refine f_seq_exit ?_
  refine f_block_here ?_
  refine f_seq ?_
  refine c_seq ?_
  refine c_region ?_
  refine o_y (y_move rfl) rfl ?_
  refine o_y (y_nilCheck rfl) rfl ?_
  refine o_y (y_fieldAddr0 rfl) rfl ?_
  refine o_y (y_load rfl rfl rfl) rfl ?_
  refine o_openWf (a := a) (len := T.chain.length) (cap := c) (by repeat (first | with_reducible exact Rem.here | apply Rem.there)) (fun hw => ?_)
  refine o_shareSl (a := a) (cap := c) intC T.chain (by repeat (first | with_reducible exact Rem.here | apply Rem.there)) rfl rfl ?_
  refine o_ent (Ent.trans (M := [RowA false freeC 2 fa T.free, Blk p (pobj rb T.x (.slice fa T.free.length fc) (.slice a T.chain.length c) m T.oldest T.lpages lfv lcv), Blk rb (robj d s T.pages), DRep d T.D, SumR s, Blk m (.map (ents es) ck), RowA false intC 1 a T.chain, RowA false freeC 2 lfa S.lfree, RowA false intC 1 la S.lchain]) (by repeat (first | with_reducible exact Ent.nil | (apply Ent.one; focus (repeat (first | with_reducible exact Rem.here | apply Rem.there))))) RowA.dup) ?_
  refine o_call rfl (fcells_f (OkF.of hT.sf) (by omega) hwf) (by repeat (first | with_reducible exact Takes.nil | (apply Takes.cons; focus (repeat (first | with_reducible exact Rem.here | apply Rem.there))))) rfl ?_
  rintro _ _ ⟨y, hy, rfl, rfl⟩
  have hyl : y.ps.length = (cellsF T.free).length := by rw [← hy, List.length_map]
  have hyle : y.ps.length ≤ 100000 := by rw [hyl, cells_len]; omega
  simp only [List.append_eq, List.cons_append, List.nil_append, List.append_nil, tup]
  refine o_y (y_move rfl) rfl ?_
  refine o_y (y_extract rfl rfl) rfl ?_
  refine o_y (y_extract rfl rfl) rfl ?_
  refine o_y (y_assign rfl) rfl ?_
  refine o_y (y_assign rfl) rfl ?_
  refine o_nil ?_
  refine f_seq ?_
  refine c_seq ?_
  refine c_seq ?_
  refine c_region ?_
  refine o_y (y_move rfl) rfl ?_
  refine o_y (y_nilCheck rfl) rfl ?_
  refine o_y (y_fieldAddr0 rfl) rfl ?_
  refine o_y (y_load rfl rfl rfl) rfl ?_
  refine o_y (y_len_slice rfl) rfl ?_
  refine o_y (y_move rfl) rfl ?_
  refine o_nil ?_
  refine f_seq ?_
  refine c_block ?_
  have heT := hT.e
  refine c_loop_inv (X := Nat) (fun i => i ≤ T.chain.length) (fun i => T.chain.length - i)
    (fun i => [PCo p d (.slice a T.chain.length c) lfv lcv (T.wr i), RowA false intC 1 a T.chain, Sl 37 1 y.a y.ps.length y.cap (y.ps.map ST.val), Star (y.ps.map ST.A), RowA false freeC 2 lfa S.lfree, RowA false intC 1 la S.lchain])
    (fun i => [(0, .pointer (some ⟨p, 0, none⟩)), (7, .slice y.a y.ps.length y.cap), (83, .slice a T.chain.length c), (84, .int .i64 (T.chain.length : Int)), (85, .int .i64 (i : Int))])
    0 (Nat.zero_le _) (Ent.put (by repeat (first | with_reducible exact Takes.nil | (apply Takes.cons; focus (repeat (first | with_reducible exact Rem.here | apply Rem.there))))) (PCo.mk T (by exact ⟨rfl, rfl, rfl, rfl, rfl, rfl, rfl⟩) hwf him) (by repeat (first | with_reducible exact Ent.nil | (apply Ent.one; focus (repeat (first | with_reducible exact Rem.here | apply Rem.there)))))) (by repeat (first | exact trivial | refine ⟨rfl, ?_⟩)) ?_
  clear hwf him
  intro i hi ih
  obtain ⟨hwS, hwf1, hwp⟩ := wr_eq T i
  have hW := hT.wr i
  by_cases hlt : i < T.chain.length
  case neg =>
    clear ih
    have : i = T.chain.length := by omega
    rw [this] at hwS ⊢
    refine c_seq ?_
    refine c_region ?_
    refine o_y (y_lss_f rfl rfl (by omega)) rfl ?_
    refine o_nil ?_
    refine f_seq ?_
    refine c_seq ?_
    refine c_false rfl ?_
    refine c_exit ?_
    refine f_seq_exit ?_
    refine f_seq_exit ?_
    refine f_block_here ?_
    refine f_seq ?_
    refine c_seq ?_
    refine c_region ?_
    refine o_y (y_assign rfl) rfl ?_
    refine o_nil ?_
    refine f_seq ?_
    refine c_ret ?_
    refine f_ent ?_ (f_ret rfl ⟨rfl, rfl⟩)
    subst hlf; subst hlc
    exact Ent.put (by repeat (first | with_reducible exact Takes.nil | (apply Takes.cons; focus (repeat (first | with_reducible exact Rem.here | apply Rem.there))))) (PRep.mk (T.wr T.chain.length) (by exact ⟨rfl, hwS.chain, hwS.lfree.trans hl1, hwS.lchain.trans hl2, rfl, rfl, rfl⟩) hw h2 h3) (by repeat (first | with_reducible exact Ent.nil | (apply Ent.one; focus (repeat (first | with_reducible exact Rem.here | apply Rem.there)))))
  case pos =>
  have herr := wr_err hT hTc hlt
  have hno : T.chain[i]? = some (T.chain.getD i 0) := by rw [List.getD_eq_getElem?_getD, List.getElem?_eq_getElem hlt]; rfl
  have hwr : T.wr (i + 1) = ((T.wr i).write (T.chain.getD i 0) 3 (T.chain.getD (i + 1) 0) ((cellsF T.free).getD i [])).1 := rfl
  have hwe : ((T.wr i).write (T.chain.getD i 0) 3 (T.chain.getD (i + 1) 0) ((cellsF T.free).getD i [])).2 = 0 := by unfold PS.write; rw [if_pos herr]
  have hnr := hTc.ok _ (List.mem_of_getElem? hno)
  generalize T.chain.getD i 0 = no at herr hno hwr hwe hnr
  have hlink : ∀ c, T.chain[i + 1]? = some c → T.chain.getD (i + 1) 0 = c := fun c hc => by rw [List.getD_eq_getElem?_getD, hc]; rfl
  have hlink0 : T.chain.length ≤ i + 1 → T.chain.getD (i + 1) 0 = 0 := fun h => by rw [List.getD_eq_getElem?_getD, List.getElem?_eq_none h]; rfl
  generalize T.chain.getD (i + 1) 0 = link at herr hwr hwe hlink hlink0
  have hcl := getD_cells (l := T.free) i
  have hcell : ∀ q, y.ps[i]? = some q → (cellsF T.free).getD i [] = q.xs := fun q hq => by
    rw [← hy, List.getD_eq_getElem?_getD, List.getElem?_map, hq]; rfl
  have hcell0 : y.ps.length ≤ i → (cellsF T.free).getD i [] = [] := fun h => by
    rw [List.getD_eq_getElem?_getD, List.getElem?_eq_none (by rw [← hyl]; exact h)]; rfl
  generalize (cellsF T.free).getD i [] = cells at herr hwr hwe hcl hcell hcell0
  have hne : T.chain ≠ [] := by intro h; rw [h] at hlt; exact absurd hlt (by simp)
  refine c_open (h := RowA.opens (f := intC) hne) (by repeat (first | with_reducible exact Rem.here | apply Rem.there)) (fun y2 hy2 => ?_)
  obtain ⟨kb, ko, cs, T2, fz⟩ := y2
  obtain ⟨e1, e2⟩ := hy2
  dsimp only at e1 e2
  subst e1
  have hgt := int_get e2 hno
  simp only [List.append_eq, List.cons_append, List.nil_append, List.append_nil, tup]
  refine c_open (A := PCo p d _ lfv lcv _) (by apply Rem.there; exact Rem.here) (fun y3 hy3 => ?_)
  obtain ⟨rb, s, fa, fc, m, es, ck⟩ := y3
  obtain ⟨hwf, him⟩ := hy3
  dsimp only at hwf him
  try dsimp only [PY.frs]
  simp only [List.append_eq, List.cons_append, List.nil_append, List.append_nil, tup]
  refine c_seq ?_
  refine c_region ?_
  refine o_y (y_lss_t rfl rfl (by omega)) rfl ?_
  refine o_nil ?_
  refine f_seq ?_
  refine c_seq ?_
  refine c_true rfl ?_
  refine c_skip ?_
  refine f_seq ?_
  refine c_seq ?_
  refine c_block ?_
  refine c_seq ?_
  refine c_region ?_
  refine o_y (y_move rfl) rfl ?_
  refine o_y (y_indexAddr i rfl rfl rfl hlt) rfl ?_
  refine o_y (y_load rfl rfl hgt) rfl ?_
  refine o_y (y_assign rfl) rfl ?_
  refine o_y (y_assign rfl) rfl ?_
  refine o_nil ?_
  refine f_seq ?_
  refine c_seq ?_
  refine c_region ?_
  refine o_y (y_assign rfl) rfl ?_
  refine o_nil ?_
  refine f_seq ?_
  refine c_seq ?_
  refine c_seq ?_
  refine c_region ?_
  refine o_y (y_move rfl) rfl ?_
  refine o_y (y_arith64 rfl rfl rfl (by omega)) rfl ?_
  refine o_y (y_move rfl) rfl ?_
  refine o_y (y_nilCheck rfl) rfl ?_
  refine o_y (y_fieldAddr0 rfl) rfl ?_
  refine o_y (y_load rfl rfl rfl) rfl ?_
  refine o_y (y_len_slice rfl) rfl ?_
  refine o_y (y_cmp rfl rfl rfl) rfl ?_
  refine o_nil ?_
  refine f_seq ?_
  refine c_cut (X := Unit) (fun _ => [PCo p d (.slice (some ⟨kb, ko, none⟩) T.chain.length c) lfv lcv (T.wr i), RowA false intC 1 (some ⟨kb, ko, none⟩) T.chain, Sl 37 1 y.a y.ps.length y.cap (y.ps.map ST.val), Star (y.ps.map ST.A), RowA false freeC 2 lfa S.lfree, RowA false intC 1 la S.lchain])
    (fun _ => [(0, .pointer (some ⟨p, 0, none⟩)), (7, .slice y.a y.ps.length y.cap), (83, .slice (some ⟨kb, ko, none⟩) T.chain.length c), (84, .int .i64 (T.chain.length : Int)), (85, .int .i64 (i : Int)), (9, .int .i64 (i : Int)), (10, .int .i64 no), (11, .int .i64 link)]) ?_ ?_
  · by_cases hl : i + 1 < T.chain.length
    · obtain ⟨n2, hn2⟩ : ∃ c, T.chain[i + 1]? = some c := ⟨_, List.getElem?_eq_getElem hl⟩
      rw [decide_eq_true (show ((i : Int) + 1 < (T.chain.length : Int)) by omega)]
      rw [hlink n2 hn2]
      refine c_true rfl ?_
      refine c_region ?_
      refine o_y (y_move rfl) rfl ?_
      refine o_y (y_nilCheck rfl) rfl ?_
      refine o_y (y_fieldAddr0 rfl) rfl ?_
      refine o_y (y_load rfl rfl rfl) rfl ?_
      refine o_y (y_move rfl) rfl ?_
      refine o_y (y_arith64 rfl rfl rfl (by omega)) rfl ?_
      refine o_y (y_indexAddr (i + 1) rfl rfl (by omega) hl) rfl ?_
      refine o_y (y_load rfl rfl (int_get e2 hn2)) rfl ?_
      refine o_y (y_assign rfl) rfl ?_
      refine o_nil ?_
      refine f_cut () ?_ (by repeat (first | exact trivial | refine ⟨rfl, ?_⟩))
      refine Ent.put (by repeat (first | with_reducible exact Takes.nil | (apply Takes.cons; focus (repeat (first | with_reducible exact Rem.here | apply Rem.there))))) (PCo.mk (T.wr i) (by exact ⟨rfl, rfl, rfl, rfl, rfl, rfl, rfl⟩) hwf him) ?_
      exact Ent.put (P := [Bkp false kb (.cells ⟨cs⟩ T2 fz)]) (by repeat (first | with_reducible exact Takes.nil | (apply Takes.cons; focus (repeat (first | with_reducible exact Rem.here | apply Rem.there))))) (RowA.shut rfl e2) (by repeat (first | with_reducible exact Ent.nil | (apply Ent.one; focus (repeat (first | with_reducible exact Rem.here | apply Rem.there)))))
    · rw [decide_eq_false (show ¬ ((i : Int) + 1 < (T.chain.length : Int)) by omega)]
      rw [hlink0 (by omega)]
      refine c_false rfl ?_
      refine c_skip ?_
      refine f_cut () ?_ (by repeat (first | exact trivial | refine ⟨rfl, ?_⟩))
      refine Ent.put (by repeat (first | with_reducible exact Takes.nil | (apply Takes.cons; focus (repeat (first | with_reducible exact Rem.here | apply Rem.there))))) (PCo.mk (T.wr i) (by exact ⟨rfl, rfl, rfl, rfl, rfl, rfl, rfl⟩) hwf him) ?_
      exact Ent.put (P := [Bkp false kb (.cells ⟨cs⟩ T2 fz)]) (by repeat (first | with_reducible exact Takes.nil | (apply Takes.cons; focus (repeat (first | with_reducible exact Rem.here | apply Rem.there))))) (RowA.shut rfl e2) (by repeat (first | with_reducible exact Ent.nil | (apply Ent.one; focus (repeat (first | with_reducible exact Rem.here | apply Rem.there)))))
  intro _
  clear hwf him
  refine c_seq ?_
  refine c_region ?_
  refine o_y (y_assign rfl) rfl ?_
  refine o_nil ?_
  refine f_seq ?_
  refine c_seq ?_
  refine c_seq ?_
  refine c_region ?_
  refine o_y (y_move rfl) rfl ?_
  refine o_y (y_move rfl) rfl ?_
  refine o_y (y_len_slice rfl) rfl ?_
  refine o_y (y_cmp rfl rfl rfl) rfl ?_
  refine o_nil ?_
  refine f_seq ?_
  refine c_cut (X := Option Addr × Nat) (fun x => [PCo p d (.slice (some ⟨kb, ko, none⟩) T.chain.length c) lfv lcv (T.wr i), RowA false strC 1 x.1 cells, RowA false intC 1 (some ⟨kb, ko, none⟩) T.chain, Sl 37 1 y.a y.ps.length y.cap (y.ps.map ST.val), Star (y.ps.map ST.A), RowA false freeC 2 lfa S.lfree, RowA false intC 1 la S.lchain])
    (fun x => [(0, .pointer (some ⟨p, 0, none⟩)), (7, .slice y.a y.ps.length y.cap), (83, .slice (some ⟨kb, ko, none⟩) T.chain.length c), (84, .int .i64 (T.chain.length : Int)), (85, .int .i64 (i : Int)), (9, .int .i64 (i : Int)), (10, .int .i64 no), (11, .int .i64 link), (12, .slice x.1 cells.length x.2)]) ?_ ?_
  · by_cases hl : i < y.ps.length
    · obtain ⟨q, hq⟩ : ∃ q, y.ps[i]? = some q := ⟨_, List.getElem?_eq_getElem hl⟩
      rw [hcell q hq]
      rw [decide_eq_true (show ((i : Int) < (y.ps.length : Int)) by omega)]
      generalize y.ps = ps at *
      generalize y.a = ya at *
      generalize y.cap = yc at *
      refine c_openSl (by repeat (first | with_reducible exact Rem.here | apply Rem.there)) ?_ ?_
      · intro g1 g2 g3 g4; omega
      intro b rs g1 g2 g3 g4
      have hld : (ps.map ST.val ++ rs)[0 + i * 1]? = some q.val := by
        rw [Nat.zero_add, Nat.mul_one, List.getElem?_append_left (by rw [List.length_map]; exact hl), List.getElem?_map, hq]; rfl
      subst g2
      refine c_true rfl ?_
      refine c_region ?_
      refine o_y (y_move rfl) rfl ?_
      refine o_y (y_move rfl) rfl ?_
      refine o_y (y_indexAddr i rfl rfl rfl hl) rfl ?_
      refine o_y (y_load rfl rfl hld) rfl ?_
      refine o_y (y_assign rfl) rfl ?_
      refine o_nil ?_
      refine f_cut (q.a, q.cap) ?_ (by repeat (first | exact trivial | refine ⟨rfl, ?_⟩))
      refine (Ent.trans (M := [Star (ps.map ST.A), PCo p d (.slice (some ⟨kb, ko, none⟩) T.chain.length c) lfv lcv (T.wr i), RowA false intC 1 (some ⟨kb, ko, none⟩) T.chain, Sl 37 1 (some ⟨b, 0, none⟩) ps.length yc (ps.map ST.val), RowA false freeC 2 lfa S.lfree, RowA false intC 1 la S.lchain]) ?_ (star_dupS hq)).trans (by repeat (first | with_reducible exact Ent.nil | (apply Ent.one; focus (repeat (first | with_reducible exact Rem.here | apply Rem.there)))))
      refine Ent.one (by repeat (first | with_reducible exact Rem.here | apply Rem.there)) (Ent.one (by repeat (first | with_reducible exact Rem.here | apply Rem.there)) (Ent.one (by repeat (first | with_reducible exact Rem.here | apply Rem.there)) ?_))
      exact Ent.put (P := [Blk b (.cells ⟨ps.map ST.val ++ rs⟩ 37 (0, 0))]) (by repeat (first | with_reducible exact Takes.nil | (apply Takes.cons; focus (repeat (first | with_reducible exact Rem.here | apply Rem.there))))) (Sl.shut g1 g3 g4) (by repeat (first | with_reducible exact Ent.nil | (apply Ent.one; focus (repeat (first | with_reducible exact Rem.here | apply Rem.there)))))
    · rw [hcell0 (by omega)]
      rw [decide_eq_false (show ¬ ((i : Int) < (y.ps.length : Int)) by omega)]
      refine c_false rfl ?_
      refine c_skip ?_
      refine f_cut (none, 0) ?_ (by repeat (first | exact trivial | refine ⟨rfl, ?_⟩))
      exact Ent.one (by repeat (first | with_reducible exact Rem.here | apply Rem.there)) (Ent.put (P := []) Takes.nil RowA.empty (by repeat (first | with_reducible exact Ent.nil | (apply Ent.one; focus (repeat (first | with_reducible exact Rem.here | apply Rem.there))))))
  rintro ⟨qa, qc⟩
  dsimp only
  refine c_seq ?_
  refine c_region ?_
  refine o_y (y_move rfl) rfl ?_
  refine o_y (y_move rfl) rfl ?_
  refine o_y (y_move rfl) rfl ?_
  refine o_y (y_move rfl) rfl ?_
  refine o_call rfl (pgwrite_f (T.wr i) false qa qc (k + i) no 3 link cells (small_eight hcl) (by rw [hwS.x]; omega) hW.disk (by omega) ⟨by omega, by have := hW.pg; omega⟩) (by repeat (first | with_reducible exact Takes.nil | (apply Takes.cons; focus (repeat (first | with_reducible exact Rem.here | apply Rem.there))))) rfl ?_
  rintro _ _ ⟨rfl, rfl⟩
  rw [hwe]
  simp only [List.append_eq, List.cons_append, List.nil_append, List.append_nil, tup]
  refine o_y (y_assign rfl) rfl ?_
  refine o_nil ?_
  refine f_seq ?_
  refine c_seq ?_
  refine c_region ?_
  refine o_y (y_move rfl) rfl ?_
  refine o_y (y_neq_f rfl rfl (by omega)) rfl ?_
  refine o_nil ?_
  refine f_seq ?_
  refine c_false rfl ?_
  refine c_skip ?_
  refine f_block ?_
  refine f_seq ?_
  refine c_region ?_
  refine o_y (y_arith64 rfl rfl rfl (by omega)) rfl ?_
  refine o_y (y_move rfl) rfl ?_
  refine o_nil ?_
  refine f_next ?_ (by repeat (first | exact trivial | refine ⟨rfl, ?_⟩)) (ih (i + 1) hlt (by omega))
  rw [hwr]
  repeat (first | with_reducible exact Ent.nil | (apply Ent.one; focus (repeat (first | with_reducible exact Rem.here | apply Rem.there))))
end Go.Lun

/- The pager: tell, Commit. -/
namespace Go.Lun
open Go.Proofs

/-- What no act but a telling turns, the chain apart. -/
structure SameL (S T : PS) : Prop where
  lfree : T.lfree = S.lfree
  lchain : T.lchain = S.lchain
  lpages : T.lpages = S.lpages
  x : T.x = S.x
theorem SameL.refl (S : PS) : SameL S S := ⟨rfl, rfl, rfl, rfl⟩
theorem SameL.trans {S T U : PS} (h : SameL S T) (k : SameL T U) : SameL S U := ⟨k.lfree.trans h.lfree, k.lchain.trans h.lchain, k.lpages.trans h.lpages, k.x.trans h.x⟩
theorem Same.l {S T : PS} (h : Same S T) : SameL S T := ⟨h.lfree, h.lchain, h.lpages, h.x⟩

theorem take_up (S : PS) : S.pages ≤ S.take.1.pages ∧ S.D.pages ≤ S.take.1.D.pages ∧ S.take.1.D.most = S.D.most := by
  unfold PS.take
  split
  · exact ⟨Int.le_refl _, Int.le_refl _, rfl⟩
  · split
    · exact ⟨Int.le_refl _, Int.le_refl _, rfl⟩
    · exact ⟨by show S.pages ≤ S.pages + 1; omega, by show S.D.pages ≤ max S.D.pages _; omega, rfl⟩
theorem write_up (S : PS) (no kind link : Int) (cells : List Bytes) : (S.write no kind link cells).1.pages = S.pages ∧ (S.write no kind link cells).1.D.pages = S.D.pages ∧ (S.write no kind link cells).1.D.most = S.D.most := by
  unfold PS.write
  split <;> exact ⟨rfl, rfl, rfl⟩
theorem lay_fit {k : Nat} (S : PS) (h : PFit S k) (hc : CFit S) (hl : S.chain.length ≤ 200) :
    PFit S.lay.1 k ∧ CFit S.lay.1 ∧ S.pages ≤ S.lay.1.pages ∧ S.D.pages ≤ S.lay.1.D.pages ∧ S.lay.1.D.most = S.D.most ∧ S.lay.1.chain.length ≤ 200 ∧ SameL S S.lay.1 := by
  have hlen := h.len
  have ⟨u1, u2, u3⟩ := take_up S
  have hcl := hc.len
  rw [PS.lay]
  split
  · rename_i hm
    split
    · refine ⟨h.take.1, ⟨?_, ?_⟩, u1, u2, u3, ?_, (same_take S).l⟩
      · intro no hno
        rw [(take_len S).2] at hno
        have := hc.ok no hno; dsimp only; omega
      · rw [(take_len S).2]; exact hcl
      · rw [(take_len S).2]; exact hl
    · rename_i he
      have he : S.take.2.2 = 0 := by simpa using he
      obtain ⟨h1, h2⟩ := h.link hc he hm
      have h3 := (take_len S)
      have hll : S.link.chain.length = S.chain.length + 1 := by show (S.take.1.chain ++ [S.take.2.1]).length = _; rw [h3.2, List.length_append]; rfl
      have ih := lay_fit S.link h1 h2 (by rw [hll]; omega)
      obtain ⟨i1, i2, i3, i4, i5, i6, i7⟩ := ih
      have j3 : S.take.1.pages ≤ S.link.lay.1.pages := i3
      have j4 : S.take.1.D.pages ≤ S.link.lay.1.D.pages := i4
      refine ⟨i1, i2, by omega, by omega, i5.trans u3, i6, ?_⟩
      exact ((same_take S).l.trans (U := S.link) ⟨rfl, rfl, rfl, rfl⟩).trans i7
  · exact ⟨h, hc, Int.le_refl _, Int.le_refl _, rfl, hl, .refl S⟩
termination_by S.free.length - S.chain.length * 23
decreasing_by
  have := take_len S
  simp only [PS.link, List.length_append, List.length_cons, List.length_nil, this.2]
  omega
theorem wr_up (T : PS) : ∀ i, (T.wr i).pages = T.pages ∧ (T.wr i).D.pages = T.D.pages ∧ (T.wr i).D.most = T.D.most
  | 0 => ⟨rfl, rfl, rfl⟩
  | i + 1 => by
    obtain ⟨h1, h2, h3⟩ := wr_up T i
    have ⟨g1, g2, g3⟩ := write_up (T.wr i) (T.chain.getD i 0) 3 (T.chain.getD (i + 1) 0) ((cellsF T.free).getD i [])
    exact ⟨g1.trans h1, g2.trans h2, g3.trans h3⟩
theorem relay_fit {S : PS} {k : Nat} (h : PFit S k) (hc : CFit S) :
    PFit S.relay.1 (k + 200) ∧ CFit S.relay.1 ∧ S.pages ≤ S.relay.1.pages ∧ S.D.pages ≤ S.relay.1.D.pages ∧ S.relay.1.D.most = S.D.most ∧ SameL S S.relay.1 := by
  obtain ⟨h1, h2⟩ := h.freed hc
  obtain ⟨i1, i2, i3, i4, i5, i6, i7⟩ := lay_fit S.freed h1 h2 (by show (0 : Nat) ≤ 200; omega)
  have i7' : SameL S S.freed.lay.1 := SameL.trans (T := S.freed) ⟨rfl, rfl, rfl, rfl⟩ i7
  unfold PS.relay
  split
  · exact ⟨i1.up (by omega), i2, i3, i4, i5, i7'⟩
  · obtain ⟨w1, w2, w3⟩ := wr_up S.freed.lay.1 S.freed.lay.1.chain.length
    obtain ⟨e1, _, _⟩ := wr_eq S.freed.lay.1 S.freed.lay.1.chain.length
    refine ⟨(i1.wr _).up (by omega), ⟨fun no hno => ?_, ?_⟩, ?_, ?_, ?_, i7'.trans e1.l⟩
    · rw [e1.chain] at hno; dsimp only; rw [w1]; exact i2.ok no hno
    · rw [e1.chain]; exact i2.len
    · dsimp only; rw [w1]; exact i3
    · dsimp only; rw [w2]; exact i4
    · dsimp only; rw [w3]; exact i5

def PS.first (T : PS) : Int := T.chain.getD 0 0
def PS.nextx (T : PS) (root : Int) : SP := ⟨T.x.e + 1, root, T.first, T.pages⟩
def PS.told (T : PS) (root : Int) : PS := { T with D := ((T.D.sync).write ((T.nextx root).e % 2) (T.nextx root).page.bytes).sync }
theorem DOk.sync {D : DS} {k : Nat} (h : DOk D k) : DOk D.sync (k + 1) := ⟨h.burns, by have := h.lo; simp only [DS.sync]; omega, by have := h.hi; simp only [DS.sync]; omega, Nat.zero_le _⟩
theorem nextx_ok {T : PS} {k : Nat} (h : PFit T k) (hc : CFit T) {root : Int} (hr : root = 0 ∨ 2 ≤ root ∧ root < T.pages) : (T.nextx root).ok := by
  have he := h.e; have hp := h.pg; have hm := h.most
  refine ⟨by show 0 ≤ T.x.e + 1; omega, by show T.x.e + 1 ≤ _; omega, hp.1, by show T.pages ≤ _; omega, hr, ?_⟩
  show T.first = 0 ∨ 2 ≤ T.first ∧ T.first < T.pages
  unfold PS.first
  rw [List.getD_eq_getElem?_getD]
  cases hh : T.chain[0]? with
  | none => exact .inl rfl
  | some c => exact .inr (hc.ok c (List.mem_of_getElem? hh))
theorem PFit.told {T : PS} {k : Nat} (h : PFit T k) (root : Int) : PFit (T.told root) (k + 3) := ⟨((h.disk.sync).write _ _).sync, h.most, h.pg, h.sf, h.lt, h.e⟩

variable {p d : Nat}

set_option maxHeartbeats 12800000 in
theorem tell_p (S : PS) (k : Nat) (root : Int) (h : PFit S k) (hc : CFit S) (hk : k ≤ 400000) (hr : root = 0 ∨ 2 ≤ root ∧ root < S.pages) :
    Fn Tryz.prog 96 [.pointer (some ⟨p, 0, none⟩), .int .i64 root] [PRep p d S]
    (fun v L => (S.relay.2 ≠ 0 ∧ v = .tuple ⟨[.agg ⟨SP.zero.vals⟩, .int .i64 S.relay.2]⟩ ∧ L = [PRep p d S.relay.1]) ∨ (S.relay.2 = 0 ∧ v = .tuple ⟨[.agg ⟨(S.relay.1.nextx root).vals⟩, .int .i64 0]⟩ ∧ L = [PRep p d (S.relay.1.told root)])) := by
  refine fn_start Tryz.func96 rfl rfl rfl fun F => ?_
  obtain ⟨hR, hRc, hRp, _, _, hRs⟩ := relay_fit h hc
  refine c_seq ?_
  refine c_region ?_
  refine o_alloc rfl (fun zb => ?_)
  refine o_y (y_assign rfl) rfl ?_
  refine o_nil ?_
  refine f_seq ?_
  refine c_seq ?_
  refine c_seq ?_
  refine c_region ?_
  refine o_y (y_move rfl) rfl ?_
  refine o_call rfl (relay_p S k h hc (by omega)) (by repeat (first | with_reducible exact Takes.nil | (apply Takes.cons; focus (repeat (first | with_reducible exact Rem.here | apply Rem.there))))) rfl ?_
  rintro _ _ ⟨rfl, rfl⟩
  simp only [List.append_eq, List.cons_append, List.nil_append, List.append_nil, tup]
  by_cases herr : S.relay.2 = 0
  case neg =>
    refine o_y (y_assign rfl) rfl ?_
    refine o_nil ?_
    refine f_seq ?_
    refine c_seq ?_
    refine c_region ?_
    refine o_y (y_move rfl) rfl ?_
    refine o_y (y_neq_t rfl rfl (by omega)) rfl ?_
    refine o_nil ?_
    refine f_seq ?_
    refine c_true rfl ?_
    refine c_seq ?_
    refine c_region ?_
    refine o_y (y_build rfl) rfl ?_
    refine o_y (y_move rfl) rfl ?_
    refine o_store rfl rfl rfl frz0 ?_
    refine o_y (y_assign rfl) rfl ?_
    refine o_nil ?_
    refine f_seq ?_
    refine c_ret ?_
    refine f_seq_ret ?_
    exact f_retc rfl rfl rfl rfl rfl (by repeat (first | with_reducible exact Ent.nil | (apply Ent.one; focus (repeat (first | with_reducible exact Rem.here | apply Rem.there))))) (.inl ⟨herr, rfl, rfl⟩)
  have hr' : root = 0 ∨ 2 ≤ root ∧ root < S.relay.1.pages := by omega
  have hfin : ∀ {v : Value} {L : List Asrt}, (v = .tuple ⟨[.agg ⟨(S.relay.1.nextx root).vals⟩, .int .i64 0]⟩ ∧ L = [PRep p d (S.relay.1.told root)]) → (S.relay.2 ≠ 0 ∧ v = .tuple ⟨[.agg ⟨SP.zero.vals⟩, .int .i64 S.relay.2]⟩ ∧ L = [PRep p d S.relay.1]) ∨ (S.relay.2 = 0 ∧ v = .tuple ⟨[.agg ⟨(S.relay.1.nextx root).vals⟩, .int .i64 0]⟩ ∧ L = [PRep p d (S.relay.1.told root)]) := fun h => .inr ⟨herr, h⟩
  refine o_y (y_assign rfl) rfl ?_
  refine o_nil ?_
  refine f_seq ?_
  refine c_seq ?_
  refine c_region ?_
  refine o_y (y_move rfl) rfl ?_
  refine o_y (y_neq_f rfl rfl (by omega)) rfl ?_
  refine o_nil ?_
  refine f_seq ?_
  refine c_false rfl ?_
  refine c_skip ?_
  refine f_seq ?_
  refine c_seq ?_
  refine c_region ?_
  refine o_y (y_move rfl) rfl ?_
  refine o_y (y_nilCheck rfl) rfl ?_
  refine o_y (y_fieldAddr0 rfl) rfl ?_
  clear hRp hr
  generalize hRR : S.relay.1 = T at *
  have hok := nextx_ok hR hRc hr'
  have he := hR.e
  have hp := hR.pg
  have hm := hR.most
  have hD := hR.disk
  have hd1 := hD.lo; have hd2 := hD.hi; have hd3 := hD.loose
  have hcl := hRc.len
  refine o_open (A := PRep p d T) (by repeat (first | with_reducible exact Rem.here | apply Rem.there)) (fun z hz => ?_)
  obtain ⟨h1, h2, h3⟩ := hz
  obtain ⟨ca, cc, lfa, lfc, la, lc⟩ := z
  dsimp only at h1 h2 h3
  try dsimp only [PZ.frs]
  simp only [List.append_eq, List.cons_append, List.nil_append, List.append_nil, tup]
  refine o_open (A := PCo p d _ _ _ T) (by repeat (first | with_reducible exact Rem.here | apply Rem.there)) (fun y hy => ?_)
  obtain ⟨rb, s, fa, fc, m, es, ck⟩ := y
  obtain ⟨hwf, him⟩ := hy
  dsimp only at hwf him
  try dsimp only [PY.frs]
  simp only [List.append_eq, List.cons_append, List.nil_append, List.append_nil, tup]
  refine o_y (y_load rfl rfl rfl) rfl ?_
  refine o_y (y_nilCheck rfl) rfl ?_
  refine o_y (y_fieldAddr0 rfl) rfl ?_
  refine o_y (y_load rfl rfl rfl) rfl ?_
  refine o_call rfl (sync_d d T.D (by omega) (by omega) (by omega)) (by repeat (first | with_reducible exact Takes.nil | (apply Takes.cons; focus (repeat (first | with_reducible exact Rem.here | apply Rem.there))))) rfl ?_
  rintro _ _ ⟨rfl, rfl⟩
  rw [if_neg (by rw [hD.dead]; decide)]
  simp only [List.append_eq, List.cons_append, List.nil_append, List.append_nil, tup]
  refine o_nil ?_
  refine f_seq ?_
  refine c_seq ?_
  refine c_region ?_
  refine o_y (y_assign rfl) rfl ?_
  refine o_nil ?_
  refine f_seq ?_
  refine c_seq ?_
  refine c_seq ?_
  refine c_region ?_
  refine o_y (y_move rfl) rfl ?_
  refine o_y (y_nilCheck rfl) rfl ?_
  refine o_y (y_fieldAddr0 rfl) rfl ?_
  refine o_y (y_load rfl rfl rfl) rfl ?_
  refine o_y (y_len_slice rfl) rfl ?_
  refine o_y (y_cmp rfl rfl rfl) rfl ?_
  refine o_nil ?_
  refine f_seq ?_
  have hfirst : ∀ c, T.chain[0]? = some c → T.first = c := fun c hc => by unfold PS.first; rw [List.getD_eq_getElem?_getD, hc]; rfl
  have hfirst0 : T.chain.length = 0 → T.first = 0 := fun h => by unfold PS.first; rw [List.getD_eq_getElem?_getD, List.getElem?_eq_none (by omega)]; rfl
  have hx : (T.nextx root).vals = [.int .i64 (T.x.e + 1), .int .i64 root, .int .i64 T.first, .int .i64 T.pages] := rfl
  generalize hnx : T.nextx root = nx at *
  generalize T.first = fst at *
  refine c_cut (X := Unit) (fun _ => [Blk p (pobj rb T.x (.slice fa T.free.length fc) (.slice ca T.chain.length cc) m T.oldest T.lpages (.slice lfa T.lfree.length lfc) (.slice la T.lchain.length lc)), Blk rb (robj d s T.pages), DRep d T.D.sync, SumR s, RowA false freeC 2 fa T.free, Blk m (.map (ents es) ck), RowA false intC 1 ca T.chain, RowA false freeC 2 lfa T.lfree, RowA false intC 1 la T.lchain, Blk zb (.cells ⟨[.int .i64 0, .int .i64 0, .int .i64 0, .int .i64 0]⟩ 29 (0, 0))])
    (fun _ => [(0, .pointer (some ⟨p, 0, none⟩)), (1, .int .i64 root), (4, .pointer (some ⟨zb, 0, none⟩)), (7, .int .i64 fst)]) ?_ ?_
  · by_cases hl : 0 < T.chain.length
    · obtain ⟨c0, hc0⟩ : ∃ c, T.chain[0]? = some c := ⟨_, List.getElem?_eq_getElem hl⟩
      rw [decide_eq_true (show (0 : Int) < (T.chain.length : Int) by omega)]
      rw [hfirst c0 hc0]
      have hne : T.chain ≠ [] := by intro h; rw [h] at hl; exact absurd hl (by simp)
      refine c_open (h := RowA.opens (f := intC) hne) (by repeat (first | with_reducible exact Rem.here | apply Rem.there)) (fun y2 hy2 => ?_)
      obtain ⟨kb, ko, cs, T2, fz⟩ := y2
      obtain ⟨e1, e2⟩ := hy2
      dsimp only at e1 e2
      subst e1
      have hgt := int_get e2 hc0
      simp only [List.append_eq, List.cons_append, List.nil_append, List.append_nil, tup]
      refine c_true rfl ?_
      refine c_region ?_
      refine o_y (y_move rfl) rfl ?_
      refine o_y (y_nilCheck rfl) rfl ?_
      refine o_y (y_fieldAddr0 rfl) rfl ?_
      refine o_y (y_load rfl rfl rfl) rfl ?_
      refine o_y (y_indexAddr 0 rfl rfl rfl hl) rfl ?_
      refine o_y (y_load rfl rfl hgt) rfl ?_
      refine o_y (y_assign rfl) rfl ?_
      refine o_nil ?_
      refine f_cut () ?_ (by repeat (first | exact trivial | refine ⟨rfl, ?_⟩))
      refine Ent.one (by repeat (first | with_reducible exact Rem.here | apply Rem.there)) (Ent.one (by repeat (first | with_reducible exact Rem.here | apply Rem.there)) (Ent.one (by repeat (first | with_reducible exact Rem.here | apply Rem.there)) (Ent.one (by repeat (first | with_reducible exact Rem.here | apply Rem.there)) (Ent.one (by repeat (first | with_reducible exact Rem.here | apply Rem.there)) (Ent.one (by repeat (first | with_reducible exact Rem.here | apply Rem.there)) ?_)))))
      exact Ent.put (P := [Bkp false kb (.cells ⟨cs⟩ T2 fz)]) (by repeat (first | with_reducible exact Takes.nil | (apply Takes.cons; focus (repeat (first | with_reducible exact Rem.here | apply Rem.there))))) (RowA.shut rfl e2) (by repeat (first | with_reducible exact Ent.nil | (apply Ent.one; focus (repeat (first | with_reducible exact Rem.here | apply Rem.there)))))
    · rw [decide_eq_false (show ¬ (0 : Int) < (T.chain.length : Int) by omega)]
      rw [hfirst0 (by omega)]
      refine c_false rfl ?_
      refine c_skip ?_
      exact f_cut () (by repeat (first | with_reducible exact Ent.nil | (apply Ent.one; focus (repeat (first | with_reducible exact Rem.here | apply Rem.there))))) (by repeat (first | exact trivial | refine ⟨rfl, ?_⟩))
  intro _
  refine c_seq ?_
  refine c_cut (X := Nat) (fun xb => [Blk p (pobj rb T.x (.slice fa T.free.length fc) (.slice ca T.chain.length cc) m T.oldest T.lpages (.slice lfa T.lfree.length lfc) (.slice la T.lchain.length lc)), Blk rb (robj d s T.pages), Blk xb (.cells ⟨[.int .i64 (T.x.e + 1), .int .i64 root, .int .i64 fst, .int .i64 T.pages]⟩ 29 (0, 0)), DRep d T.D.sync, SumR s, RowA false freeC 2 fa T.free, Blk m (.map (ents es) ck), RowA false intC 1 ca T.chain, RowA false freeC 2 lfa T.lfree, RowA false intC 1 la T.lchain, Blk zb (.cells ⟨[.int .i64 0, .int .i64 0, .int .i64 0, .int .i64 0]⟩ 29 (0, 0))])
    (fun xb => [(0, .pointer (some ⟨p, 0, none⟩)), (4, .pointer (some ⟨zb, 0, none⟩)), (8, .pointer (some ⟨xb, 0, none⟩))]) ?_ ?_
  ·
    refine pl_start [13, 14, 15] Tryz.mixed ?_; intro hd
    refine pl_lock (A := Blk _ _) Rem.here rfl ?_ hd; intro hb0
    refine pl_lock (A := Blk _ _) Rem.here rfl ?_ hd; intro hb1
    refine pl_take (i := 0) rfl (by kernel_rfl) (y_move rfl) ?_ hd; clear hd; intro hd
    refine pl_take (i := 1) rfl (by kernel_rfl) (y_nilCheck rfl) ?_ hd; clear hd; intro hd
    refine pl_take (i := 2) rfl (by kernel_rfl) (y_fieldAddr0 rfl) ?_ hd; clear hd; intro hd
    refine pl_take (i := 3) rfl (by kernel_rfl) (y_loadN rfl rfl rfl) ?_ hd; clear hd; intro hd
    refine pl_take (i := 4) rfl (by kernel_rfl) (y_move rfl) ?_ hd; clear hd; intro hd
    refine pl_take (i := 5) rfl (by kernel_rfl) (y_move rfl) ?_ hd; clear hd; intro hd
    refine pl_take (i := 6) rfl (by kernel_rfl) (y_move rfl) ?_ hd; clear hd; intro hd
    refine pl_take (i := 7) rfl (by kernel_rfl) (y_nilCheck rfl) ?_ hd; clear hd; intro hd
    refine pl_take (i := 8) rfl (by kernel_rfl) (y_fieldAddr0 rfl) ?_ hd; clear hd; intro hd
    refine pl_take (i := 9) rfl (by kernel_rfl) (y_load rfl rfl rfl) ?_ hd; clear hd; intro hd
    refine pl_take (i := 10) rfl (by kernel_rfl) (y_nilCheck rfl) ?_ hd; clear hd; intro hd
    refine pl_take (i := 11) rfl (by kernel_rfl) (y_fieldAddr0 rfl) ?_ hd; clear hd; intro hd
    refine pl_take (i := 12) rfl (by kernel_rfl) (y_load rfl rfl rfl) ?_ hd; clear hd; intro hd
    refine pl_two (i := 13) (j := 14) (by kernel_rfl) rfl rfl ?_ ?_ hd
    · clear hd; intro hd
      refine o_call rfl (next_f T.x root fst T.pages (by omega) (by omega)) (by repeat (first | with_reducible exact Takes.nil | (apply Takes.cons; focus (repeat (first | with_reducible exact Rem.here | apply Rem.there))))) rfl ?_
      rintro _ _ ⟨rfl, rfl⟩
      simp only [List.append_eq, List.cons_append, List.nil_append, List.append_nil, tup]
      refine pl_back (by repeat (first | with_reducible exact Owes.nil | with_reducible refine Owes.same ?_ | with_reducible refine Owes.any ?_ | refine Owes.waived 13 (by kernel_rfl) ?_)) ?_ hd; clear hd; intro hd
      refine pl_sole (i := 14) (by kernel_rfl) rfl ?_ hd; clear hd; intro hd
      refine o_alloc rfl (fun xb => ?_)
      refine pl_back (by repeat (first | with_reducible exact Owes.nil | with_reducible refine Owes.same ?_ | with_reducible refine Owes.any ?_ | refine Owes.waived 14 (by kernel_rfl) ?_ | refine Owes.waived 13 (by kernel_rfl) ?_)) ?_ hd; clear hd; intro hd
      refine pl_sole (i := 15) (by kernel_rfl) rfl ?_ hd; clear hd; intro hd
      refine o_store rfl rfl rfl frz0 ?_
      refine pl_back (by repeat (first | with_reducible exact Owes.nil | with_reducible refine Owes.same ?_ | with_reducible refine Owes.any ?_ | refine Owes.waived 15 (by kernel_rfl) ?_ | refine Owes.waived 14 (by kernel_rfl) ?_ | refine Owes.waived 13 (by kernel_rfl) ?_)) ?_ hd; clear hd; intro hd
      refine pl_done (by kernel_rfl) ?_ hd
      refine f_unlock (A := Blk _ _) ?_
      refine f_unlock (A := Blk _ _) ?_
      exact f_cut _ (by repeat (first | with_reducible exact Ent.nil | (apply Ent.one; focus (repeat (first | with_reducible exact Rem.here | apply Rem.there))))) (by repeat (first | exact trivial | refine ⟨rfl, ?_⟩))
    · clear hd; intro hd
      refine o_alloc rfl (fun xb => ?_)
      refine pl_back (by repeat (first | with_reducible exact Owes.nil | with_reducible refine Owes.same ?_ | with_reducible refine Owes.any ?_ | refine Owes.waived 14 (by kernel_rfl) ?_)) ?_ hd; clear hd; intro hd
      refine pl_sole (i := 13) (by kernel_rfl) rfl ?_ hd; clear hd; intro hd
      refine o_call rfl (next_f T.x root fst T.pages (by omega) (by omega)) (by repeat (first | with_reducible exact Takes.nil | (apply Takes.cons; focus (repeat (first | with_reducible exact Rem.here | apply Rem.there))))) rfl ?_
      rintro _ _ ⟨rfl, rfl⟩
      simp only [List.append_eq, List.cons_append, List.nil_append, List.append_nil, tup]
      refine pl_back (by repeat (first | with_reducible exact Owes.nil | with_reducible refine Owes.same ?_ | with_reducible refine Owes.any ?_ | refine Owes.waived 13 (by kernel_rfl) ?_ | refine Owes.waived 14 (by kernel_rfl) ?_)) ?_ hd; clear hd; intro hd
      refine pl_sole (i := 15) (by kernel_rfl) rfl ?_ hd; clear hd; intro hd
      refine o_store rfl rfl rfl frz0 ?_
      refine pl_back (by repeat (first | with_reducible exact Owes.nil | with_reducible refine Owes.same ?_ | with_reducible refine Owes.any ?_ | refine Owes.waived 15 (by kernel_rfl) ?_ | refine Owes.waived 13 (by kernel_rfl) ?_ | refine Owes.waived 14 (by kernel_rfl) ?_)) ?_ hd; clear hd; intro hd
      refine pl_done (by kernel_rfl) ?_ hd
      refine f_unlock (A := Blk _ _) ?_
      refine f_unlock (A := Blk _ _) ?_
      exact f_cut _ (by repeat (first | with_reducible exact Ent.nil | (apply Ent.one; focus (repeat (first | with_reducible exact Rem.here | apply Rem.there))))) (by repeat (first | exact trivial | refine ⟨rfl, ?_⟩))
  intro xb
  rw [← hx]
  refine c_seq ?_
  refine pl_start [8] Tryz.mixed ?_; intro hd
  refine pl_lock (A := Blk _ _) Rem.here rfl ?_ hd; intro hb0
  refine pl_lock (A := Blk _ _) Rem.here rfl ?_ hd; intro hb1
  refine pl_lock (A := Blk _ _) Rem.here rfl ?_ hd; intro hb2
  refine pl_take (i := 0) rfl (by kernel_rfl) (y_move rfl) ?_ hd; clear hd; intro hd
  refine pl_take (i := 1) rfl (by kernel_rfl) (y_nilCheck rfl) ?_ hd; clear hd; intro hd
  refine pl_take (i := 2) rfl (by kernel_rfl) (y_fieldAddr0 rfl) ?_ hd; clear hd; intro hd
  refine pl_take (i := 3) rfl (by kernel_rfl) (y_load rfl rfl rfl) ?_ hd; clear hd; intro hd
  refine pl_take (i := 4) rfl (by kernel_rfl) (y_nilCheck rfl) ?_ hd; clear hd; intro hd
  refine pl_take (i := 5) rfl (by kernel_rfl) (y_fieldAddr0 rfl) ?_ hd; clear hd; intro hd
  refine pl_take (i := 6) rfl (by kernel_rfl) (y_load rfl rfl rfl) ?_ hd; clear hd; intro hd
  refine pl_take (i := 7) rfl (by kernel_rfl) (y_loadN rfl rfl rfl) ?_ hd; clear hd; intro hd
  refine pl_sole (i := 8) (by kernel_rfl) rfl ?_ hd; clear hd; intro hd
  refine o_call rfl (sput_f s nx) (by repeat (first | with_reducible exact Takes.nil | (apply Takes.cons; focus (repeat (first | with_reducible exact Rem.here | apply Rem.there))))) rfl ?_
  rintro _ _ (⟨hno, _, _⟩ | ⟨_, b, rfl, rfl⟩)
  · exact absurd hok hno
  simp only [List.append_eq, List.cons_append, List.nil_append, List.append_nil, tup]
  refine pl_back (by repeat (first | with_reducible exact Owes.nil | with_reducible refine Owes.same ?_ | with_reducible refine Owes.any ?_ | refine Owes.waived 8 (by kernel_rfl) ?_)) ?_ hd; clear hd; intro hd
  refine pl_take (i := 9) rfl (by kernel_rfl) (y_move rfl) ?_ hd; clear hd; intro hd
  refine pl_take (i := 10) rfl (by kernel_rfl) (y_extract rfl rfl) ?_ hd; clear hd; intro hd
  refine pl_take (i := 11) rfl (by kernel_rfl) (y_extract rfl rfl) ?_ hd; clear hd; intro hd
  refine pl_take (i := 12) rfl (by kernel_rfl) (y_extract rfl rfl) ?_ hd; clear hd; intro hd
  refine pl_take (i := 13) rfl (by kernel_rfl) (y_assign rfl) ?_ hd; clear hd; intro hd
  refine pl_take (i := 14) rfl (by kernel_rfl) (y_assign rfl) ?_ hd; clear hd; intro hd
  refine pl_take (i := 15) rfl (by kernel_rfl) (y_assign rfl) ?_ hd; clear hd; intro hd
  refine pl_done (by kernel_rfl) ?_ hd
  refine f_unlock (A := Blk _ _) ?_
  refine f_unlock (A := Blk _ _) ?_
  refine f_unlock (A := Blk _ _) ?_
  have hlen := bytes_len nx.page
  have htold : (T.told root).D = ((T.D.sync).write (nx.e % 2) nx.page.bytes).sync := by unfold PS.told; rw [hnx]
  generalize nx.page.bytes = bs at *
  have hDs := hD.sync
  have hsp : T.D.sync.pages = T.D.pages := rfl
  generalize T.D.sync = D1 at *
  have hsl : D1.has (nx.e % 2) := by
    constructor
    · omega
    · rw [hsp]; omega
  have hs1 := hDs.lo; have hs2 := hDs.hi; have hs3 := hDs.loose
  refine f_seq ?_
  refine c_seq ?_
  refine c_seq ?_
  refine c_region ?_
  refine o_y (y_move rfl) rfl ?_
  refine o_y (y_neq_f rfl rfl (by omega)) rfl ?_
  refine o_nil ?_
  refine f_seq ?_
  refine c_false rfl ?_
  refine c_skip ?_
  refine f_seq ?_
  refine c_seq ?_
  refine c_seq ?_
  refine c_region ?_
  refine o_y (y_move rfl) rfl ?_
  refine o_y (y_nilCheck rfl) rfl ?_
  refine o_y (y_fieldAddr0 rfl) rfl ?_
  refine o_y (y_load rfl rfl rfl) rfl ?_
  refine o_y (y_nilCheck rfl) rfl ?_
  refine o_y (y_fieldAddr0 rfl) rfl ?_
  refine o_y (y_load rfl rfl rfl) rfl ?_
  refine o_y (y_move rfl) rfl ?_
  refine o_y (y_move rfl) rfl ?_
  refine o_call rfl (write_d d D1 (nx.e % 2) b 0 256 256 (bs.map byteV) 5 (0, 0) true bs (by have := getN_front (bs.map byteV) []; simpa [hlen] using this) (by omega) (by omega) (by omega) (by omega)) (by repeat (first | with_reducible exact Takes.nil | (apply Takes.cons; focus (repeat (first | with_reducible exact Rem.here | apply Rem.there))))) rfl ?_
  rintro _ _ ⟨D', c, rfl, rfl, hw⟩
  rw [if_neg (fun h => h hsl), if_neg (fun h => h hlen), if_neg (by rw [hDs.dead]; decide)] at hw
  obtain ⟨rfl, hD'⟩ := hw
  have hDw := hDs.write (nx.e % 2) bs
  rw [← hD'] at hDw htold
  clear hD'
  have hw1 := hDw.lo; have hw2 := hDw.hi; have hw3 := hDw.loose
  simp only [List.append_eq, List.cons_append, List.nil_append, List.append_nil, tup]
  refine o_y (y_assign rfl) rfl ?_
  refine o_nil ?_
  refine f_seq ?_
  refine c_seq ?_
  refine c_region ?_
  refine o_y (y_move rfl) rfl ?_
  refine o_y (y_neq_f rfl rfl (by omega)) rfl ?_
  refine o_nil ?_
  refine f_seq ?_
  refine c_false rfl ?_
  refine c_skip ?_
  refine f_seq ?_
  refine c_seq ?_
  refine c_region ?_
  refine o_y (y_move rfl) rfl ?_
  refine o_y (y_nilCheck rfl) rfl ?_
  refine o_y (y_fieldAddr0 rfl) rfl ?_
  refine o_y (y_load rfl rfl rfl) rfl ?_
  refine o_y (y_nilCheck rfl) rfl ?_
  refine o_y (y_fieldAddr0 rfl) rfl ?_
  refine o_y (y_load rfl rfl rfl) rfl ?_
  refine o_call rfl (sync_d d D' (by omega) (by omega) (by omega)) (by repeat (first | with_reducible exact Takes.nil | (apply Takes.cons; focus (repeat (first | with_reducible exact Rem.here | apply Rem.there))))) rfl ?_
  rintro _ _ ⟨rfl, rfl⟩
  rw [if_neg (by rw [hDw.dead]; decide)]
  have hll : (D'.sync.loose.length : Int) = 0 := rfl
  rw [← htold] at hll ⊢
  generalize hTD : (T.told root).D = D2 at *
  simp only [List.append_eq, List.cons_append, List.nil_append, List.append_nil, tup]
  refine o_nil ?_
  refine f_seq ?_
  refine c_seq ?_
  refine c_seq ?_
  refine c_region ?_
  refine o_y (y_move rfl) rfl ?_
  refine o_y (y_nilCheck rfl) rfl ?_
  refine o_y (y_fieldAddr0 rfl) rfl ?_
  refine o_y (y_load rfl rfl rfl) rfl ?_
  refine o_y (y_nilCheck rfl) rfl ?_
  refine o_y (y_fieldAddr0 rfl) rfl ?_
  refine o_y (y_load rfl rfl rfl) rfl ?_
  refine o_call rfl (loose_d d D2) (by repeat (first | with_reducible exact Takes.nil | (apply Takes.cons; focus (repeat (first | with_reducible exact Rem.here | apply Rem.there))))) rfl ?_
  rintro _ _ ⟨rfl, rfl⟩
  rw [hll]
  simp only [List.append_eq, List.cons_append, List.nil_append, List.append_nil, tup]
  refine o_y (y_gtr_f rfl rfl (by omega)) rfl ?_
  refine o_nil ?_
  refine f_seq ?_
  refine c_false rfl ?_
  refine c_skip ?_
  refine f_seq ?_
  refine c_seq ?_
  refine c_region ?_
  refine o_y (y_loadN rfl rfl rfl) rfl ?_
  refine o_store rfl rfl rfl frz0 ?_
  refine o_y (y_assign rfl) rfl ?_
  refine o_nil ?_
  refine f_seq ?_
  refine c_ret ?_
  refine f_retc rfl rfl rfl rfl rfl ?_ (hfin ⟨rfl, rfl⟩)
  refine (Ent.put (by repeat (first | with_reducible exact Takes.nil | (apply Takes.cons; focus (repeat (first | with_reducible exact Rem.here | apply Rem.there))))) (PCo.mk (T.told root) (by exact ⟨rfl, rfl, rfl, rfl, hTD, rfl, rfl⟩) hwf him) (Ent.refl _)).trans ?_
  exact Ent.put (by repeat (first | with_reducible exact Takes.nil | (apply Takes.cons; focus (repeat (first | with_reducible exact Rem.here | apply Rem.there))))) (PRep.mk (T.told root) (by exact ⟨rfl, rfl, rfl, rfl, rfl, rfl, rfl⟩) h1 h2 h3) (by repeat (first | with_reducible exact Ent.nil | (apply Ent.one; focus (repeat (first | with_reducible exact Rem.here | apply Rem.there)))))
end Go.Lun

/- The pager: Commit. -/
namespace Go.Lun
open Go.Proofs

/-- What a pager keeps may be taken back. -/
structure LFit (S : PS) : Prop where
  sf : SF S.lfree
  lt : ∀ f ∈ S.lfree, f.p < S.lpages
  ok : ∀ no ∈ S.lchain, 2 ≤ no ∧ no < S.lpages
  len : S.lchain.length ≤ 100000
  pg : 2 ≤ S.lpages ∧ S.lpages ≤ S.D.pages
def PS.commit (S : PS) (root : Int) : PS × Int :=
  if root ≠ 0 ∧ S.there root = false then (S, 81)
  else if S.relay.2 ≠ 0 then (S.relay.1.abort, S.relay.2)
  else (PS.keep { S.relay.1.told root with x := S.relay.1.nextx root }, 0)

theorem LFit.flen {S : PS} {k : Nat} (h : LFit S) (hp : PFit S k) : S.lfree.length ≤ 4096 := by
  have := h.sf.len2 h.lt h.pg.1
  have := h.pg; have := hp.pg; have := hp.most; omega
theorem LFit.up {S T : PS} (h : LFit S) (hs : SameL S T) (hd : S.D.pages ≤ T.D.pages) : LFit T :=
  ⟨by rw [hs.lfree]; exact h.sf, by rw [hs.lfree, hs.lpages]; exact h.lt, by rw [hs.lchain, hs.lpages]; exact h.ok, by rw [hs.lchain]; exact h.len, by rw [hs.lpages]; have := h.pg; omega⟩
theorem PFit.abort {S : PS} {k : Nat} (h : PFit S k) (hl : LFit S) : PFit S.abort k ∧ CFit S.abort ∧ LFit S.abort :=
  ⟨⟨h.disk, h.most, ⟨hl.pg.1, hl.pg.2, h.pg.2.2⟩, hl.sf, hl.lt, h.e⟩, ⟨hl.ok, hl.len⟩, ⟨hl.sf, hl.lt, hl.ok, hl.len, hl.pg⟩⟩
theorem PFit.keep {S : PS} {k : Nat} (h : PFit S k) (hc : CFit S) : PFit S.keep k ∧ CFit S.keep ∧ LFit S.keep :=
  ⟨⟨h.disk, h.most, h.pg, h.sf, h.lt, h.e⟩, ⟨hc.ok, hc.len⟩, ⟨h.sf, h.lt, hc.ok, hc.len, ⟨h.pg.1, h.pg.2.1⟩⟩⟩
theorem commit_fit {S : PS} {k : Nat} (h : PFit S k) (hc : CFit S) (hl : LFit S) (root : Int) (he : S.x.e < 1000000) :
    PFit (S.commit root).1 (k + 203) ∧ CFit (S.commit root).1 ∧ LFit (S.commit root).1 := by
  obtain ⟨r1, r2, r3, r4, r5, r6⟩ := relay_fit h hc
  unfold PS.commit
  split
  · exact ⟨h.up (by omega), hc, hl⟩
  · split
    · have := r1.abort (hl.up r6 r4)
      exact ⟨this.1.up (by omega), this.2⟩
    · have ht := r1.told root
      refine PFit.keep (S := { S.relay.1.told root with x := S.relay.1.nextx root }) (k := k + 203) ⟨ht.disk, ht.most, ht.pg, ht.sf, ht.lt, ?_⟩ ⟨r2.ok, r2.len⟩
      have h1 := r6.x
      have h2 := h.e
      show 0 ≤ S.relay.1.x.e + 1 ∧ S.relay.1.x.e + 1 ≤ 1000000
      rw [h1]; omega

variable {p d : Nat}

theorem there_p (S : PS) (no : Int) (hn : S.free.length ≤ 1000000) : Fn Tryz.prog 95 [.pointer (some ⟨p, 0, none⟩), .int .i64 no] [PRep p d S]
    (fun v L => v = .bool (S.there no) ∧ L = [PRep p d S]) := core_frame (.refl S) fun _ _ _ => there_f S no hn

set_option maxHeartbeats 6400000 in
theorem commit_p (S : PS) (k : Nat) (root : Int) (h : PFit S k) (hc : CFit S) (hl : LFit S) (hk : k ≤ 400000) :
    Fn Tryz.prog 52 [.pointer (some ⟨p, 0, none⟩), .int .i64 root] [PRep p d S]
    (fun v L => v = .int .i64 (S.commit root).2 ∧ L = [PRep p d (S.commit root).1]) := by
  refine fn_start Tryz.func52 rfl rfl rfl fun F => ?_
  have hlen := h.len
  obtain ⟨r1, r2, r3, r4, r5, r6⟩ := relay_fit h hc
  have hlr := hl.up r6 r4
  unfold PS.commit
  refine c_seq ?_
  refine c_region ?_
  refine o_y (y_assign rfl) rfl ?_
  refine o_nil ?_
  refine f_seq ?_
  refine c_seq ?_
  refine c_seq ?_
  refine c_cut (X := Unit) (fun _ => [PRep p d S]) (fun _ => [(0, .pointer (some ⟨p, 0, none⟩)), (1, .int .i64 root), (14, .bool (decide (root ≠ 0 ∧ S.there root = false)))]) ?_ ?_
  · by_cases h0 : root = 0
    · rw [decide_eq_false (fun h => h.1 h0)]
      refine c_region ?_
      refine o_y (y_move rfl) rfl ?_
      refine o_y (y_neq_f rfl rfl (by omega)) rfl ?_
      refine o_y (y_move rfl) rfl ?_
      refine o_skip rfl rfl ?_
      refine o_skip rfl rfl ?_
      refine o_skip rfl rfl ?_
      refine o_skip rfl rfl ?_
      refine o_y (y_pick_f rfl rfl) rfl ?_
      refine o_nil ?_
      exact f_cut () (by repeat (first | with_reducible exact Ent.nil | (apply Ent.one; focus (repeat (first | with_reducible exact Rem.here | apply Rem.there))))) (by repeat (first | exact trivial | refine ⟨rfl, ?_⟩))
    · refine c_region ?_
      refine o_y (y_move rfl) rfl ?_
      refine o_y (y_neq_t rfl rfl (by omega)) rfl ?_
      refine o_y (y_move rfl) rfl ?_
      refine o_want rfl ?_
      refine o_y (y_move rfl) rfl ?_
      refine o_want rfl ?_
      refine o_y (y_move rfl) rfl ?_
      refine o_want rfl ?_
      refine o_call rfl (there_p S root (by omega)) (by repeat (first | with_reducible exact Takes.nil | (apply Takes.cons; focus (repeat (first | with_reducible exact Rem.here | apply Rem.there))))) rfl ?_
      rintro _ _ ⟨rfl, rfl⟩
      simp only [List.append_eq, List.cons_append, List.nil_append, List.append_nil, tup]
      cases hth : S.there root with
      | true =>
        rw [decide_eq_false (fun h => by cases h.2)]
        refine o_want rfl ?_
        refine o_y (y_not rfl) rfl ?_
        refine o_y (y_pick_t rfl rfl) rfl ?_
        refine o_nil ?_
        exact f_cut () (by repeat (first | with_reducible exact Ent.nil | (apply Ent.one; focus (repeat (first | with_reducible exact Rem.here | apply Rem.there))))) (by repeat (first | exact trivial | refine ⟨rfl, ?_⟩))
      | false =>
        rw [decide_eq_true ⟨h0, rfl⟩]
        refine o_want rfl ?_
        refine o_y (y_not rfl) rfl ?_
        refine o_y (y_pick_t rfl rfl) rfl ?_
        refine o_nil ?_
        exact f_cut () (by repeat (first | with_reducible exact Ent.nil | (apply Ent.one; focus (repeat (first | with_reducible exact Rem.here | apply Rem.there))))) (by repeat (first | exact trivial | refine ⟨rfl, ?_⟩))
  intro _
  by_cases hbad : root ≠ 0 ∧ S.there root = false
  · rw [if_pos hbad, decide_eq_true hbad]
    refine c_true rfl ?_
    refine c_seq ?_
    refine c_region ?_
    refine o_y (y_assign rfl) rfl ?_
    refine o_nil ?_
    refine f_seq ?_
    refine c_ret ?_
    refine f_seq_ret ?_
    exact f_ent (by repeat (first | with_reducible exact Ent.nil | (apply Ent.one; focus (repeat (first | with_reducible exact Rem.here | apply Rem.there))))) (f_ret rfl ⟨rfl, rfl⟩)
  rw [if_neg hbad, decide_eq_false hbad]
  have hr : root = 0 ∨ 2 ≤ root ∧ root < S.pages := by
    by_cases h0 : root = 0
    · exact .inl h0
    · have hth : S.there root = true := by
        cases hx : S.there root with
        | true => rfl
        | false => exact absurd ⟨h0, hx⟩ hbad
      unfold PS.there at hth
      simp only [Bool.and_eq_true, decide_eq_true_eq] at hth
      exact .inr hth.1
  refine c_false rfl ?_
  refine c_skip ?_
  refine f_seq ?_
  refine c_seq ?_
  refine c_region ?_
  refine o_y (y_move rfl) rfl ?_
  refine o_y (y_move rfl) rfl ?_
  refine o_call rfl (tell_p S k root h hc hk hr) (by repeat (first | with_reducible exact Takes.nil | (apply Takes.cons; focus (repeat (first | with_reducible exact Rem.here | apply Rem.there))))) rfl ?_
  rintro _ _ (⟨herr, rfl, rfl⟩ | ⟨herr, rfl, rfl⟩)
  · rw [if_pos herr]
    simp only [List.append_eq, List.cons_append, List.nil_append, List.append_nil, tup]
    refine o_y (y_move rfl) rfl ?_
    refine o_y (y_extract rfl rfl) rfl ?_
    refine o_y (y_extract rfl rfl) rfl ?_
    refine o_alloc rfl (fun nb => ?_)
    refine o_store rfl rfl rfl frz0 ?_
    refine o_y (y_assign rfl) rfl ?_
    refine o_nil ?_
    refine f_seq ?_
    refine c_seq ?_
    refine c_seq ?_
    refine c_region ?_
    refine o_y (y_move rfl) rfl ?_
    refine o_y (y_neq_t rfl rfl (by omega)) rfl ?_
    refine o_nil ?_
    refine f_seq ?_
    refine c_true rfl ?_
    refine c_seq ?_
    refine c_region ?_
    refine o_y (y_move rfl) rfl ?_
    refine o_call rfl (abort_p S.relay.1 (by have := hlr.flen r1; omega) (by have := hlr.len; omega)) (by repeat (first | with_reducible exact Takes.nil | (apply Takes.cons; focus (repeat (first | with_reducible exact Rem.here | apply Rem.there))))) rfl ?_
    rintro _ _ ⟨rfl, rfl⟩
    simp only [List.append_eq, List.cons_append, List.nil_append, List.append_nil, tup]
    refine o_nil ?_
    refine f_seq ?_
    refine c_seq ?_
    refine c_region ?_
    refine o_y (y_move rfl) rfl ?_
    refine o_y (y_assign rfl) rfl ?_
    refine o_nil ?_
    refine f_seq ?_
    refine c_ret ?_
    refine f_seq_ret ?_
    exact f_ent (by repeat (first | with_reducible exact Ent.nil | (apply Ent.one; focus (repeat (first | with_reducible exact Rem.here | apply Rem.there))))) (f_ret rfl ⟨rfl, rfl⟩)
  rw [if_neg (fun h => h herr)]
  have ht := r1.told root
  have htc : CFit (S.relay.1.told root) := ⟨r2.ok, r2.len⟩
  generalize hX : S.relay.1.nextx root = X
  generalize S.relay.1.told root = T at ht htc
  simp only [List.append_eq, List.cons_append, List.nil_append, List.append_nil, tup]
  refine o_y (y_move rfl) rfl ?_
  refine o_y (y_extract rfl rfl) rfl ?_
  refine o_y (y_extract rfl rfl) rfl ?_
  refine o_alloc rfl (fun nb => ?_)
  refine o_store rfl rfl rfl frz0 ?_
  refine o_y (y_assign rfl) rfl ?_
  refine o_nil ?_
  refine f_seq ?_
  refine c_seq ?_
  refine c_seq ?_
  refine c_region ?_
  refine o_y (y_move rfl) rfl ?_
  refine o_y (y_neq_f rfl rfl (by omega)) rfl ?_
  refine o_nil ?_
  refine f_seq ?_
  refine c_false rfl ?_
  refine c_skip ?_
  refine f_seq ?_
  refine c_seq ?_
  refine c_region ?_
  refine o_y (y_move rfl) rfl ?_
  refine o_y (y_loadN rfl rfl rfl) rfl ?_
  refine o_y (y_nilCheck rfl) rfl ?_
  refine o_y (y_fieldAddr0 rfl) rfl ?_
  refine o_open (A := PRep p d T) (by repeat (first | with_reducible exact Rem.here | apply Rem.there)) (fun z hz => ?_)
  obtain ⟨h1, h2, h3⟩ := hz
  obtain ⟨ca, cc, lfa, lfc, la, lc⟩ := z
  dsimp only at h1 h2 h3
  try dsimp only [PZ.frs]
  simp only [List.append_eq, List.cons_append, List.nil_append, List.append_nil, tup]
  refine o_open (A := PCo p d _ _ _ T) (by repeat (first | with_reducible exact Rem.here | apply Rem.there)) (fun y hy => ?_)
  obtain ⟨rb, s, fa, fc, m, es, ck⟩ := y
  obtain ⟨hwf, him⟩ := hy
  dsimp only at hwf him
  try dsimp only [PY.frs]
  simp only [List.append_eq, List.cons_append, List.nil_append, List.append_nil, tup]
  refine o_store rfl rfl rfl frz0 ?_
  refine o_nil ?_
  refine f_seq ?_
  refine c_seq ?_
  refine c_region ?_
  refine o_y (y_move rfl) rfl ?_
  refine o_ent (M := [PRep p d { T with x := X }]) ?_ ?_
  · refine (Ent.put (by repeat (first | with_reducible exact Takes.nil | (apply Takes.cons; focus (repeat (first | with_reducible exact Rem.here | apply Rem.there))))) (PCo.mk { T with x := X } (by exact ⟨rfl, rfl, rfl, rfl, rfl, rfl, rfl⟩) hwf him) (Ent.refl _)).trans ?_
    exact Ent.put (by repeat (first | with_reducible exact Takes.nil | (apply Takes.cons; focus (repeat (first | with_reducible exact Rem.here | apply Rem.there))))) (PRep.mk { T with x := X } (by exact ⟨rfl, rfl, rfl, rfl, rfl, rfl, rfl⟩) h1 h2 h3) (by repeat (first | with_reducible exact Ent.nil | (apply Ent.one; focus (repeat (first | with_reducible exact Rem.here | apply Rem.there)))))
  refine o_call rfl (keep_p { T with x := X } (by have := ht.len; dsimp only; omega) (by have := htc.len; dsimp only; omega)) (by repeat (first | with_reducible exact Takes.nil | (apply Takes.cons; focus (repeat (first | with_reducible exact Rem.here | apply Rem.there))))) rfl ?_
  rintro _ _ ⟨rfl, rfl⟩
  simp only [List.append_eq, List.cons_append, List.nil_append, List.append_nil, tup]
  refine o_nil ?_
  refine f_seq ?_
  refine c_seq ?_
  refine c_region ?_
  refine o_y (y_assign rfl) rfl ?_
  refine o_nil ?_
  refine f_seq ?_
  refine c_ret ?_
  exact f_ent (by repeat (first | with_reducible exact Ent.nil | (apply Ent.one; focus (repeat (first | with_reducible exact Rem.here | apply Rem.there))))) (f_ret rfl ⟨rfl, rfl⟩)
end Go.Lun

/- The pager: make; a number looked for in a row that is owned. -/
namespace Go.Lun
open Go.Proofs

abbrev pobjV (rb : Nat) (x : SP) (fv cv mv : Value) (old lp : Int) (lf lc : Value) : Obj := .cells ⟨[.pointer (some ⟨rb, 0, none⟩), .int .i64 x.e, .int .i64 x.root, .int .i64 x.free, .int .i64 x.pages, fv, cv, mv, .int .i64 old, .int .i64 lp, lf, lc]⟩ 59 (0, 0)
def SP.one (e : Int) : SP := ⟨e, 0, 0, 2⟩
def DS.made (D : DS) : DS := ((({ D with pages := max D.pages 2 } : DS).write 0 (SP.one 0).page.bytes).write 1 (SP.one 1).page.bytes).sync
theorem one_ok {e : Int} (h : 0 ≤ e ∧ e ≤ 1) : (SP.one e).ok := ⟨h.1, by show e ≤ _; omega, (by decide : (2 : Int) ≤ 2), (by decide : (2 : Int) ≤ 4096), .inl rfl, .inl rfl⟩
theorem one_vals (e : Int) : (SP.one e).vals = [.int .i64 e, .int .i64 0, .int .i64 0, .int .i64 2] := rfl

variable {p d : Nat}

/-- A disk with the first supers written. -/
def DS.mk1 (D : DS) : Nat → DS
  | 0 => { D with pages := max D.pages 2 }
  | i + 1 => (D.mk1 i).write (i : Int) (SP.one (i : Int)).page.bytes
theorem mk1_fit {D : DS} {k : Nat} (h : DOk D k) : ∀ i, DOk (D.mk1 i) (k + i) ∧ (D.mk1 i).pages = max D.pages 2
  | 0 => ⟨⟨h.burns, h.lo, h.hi, h.loose⟩, rfl⟩
  | i + 1 => ⟨(mk1_fit h i).1.write _ _, (mk1_fit h i).2⟩

set_option maxHeartbeats 6400000 in
theorem make_f (rb s : Nat) (D : DS) (n : Int) (k : Nat) (fv cv mv lf lc : Value) (old lp : Int) (x0 : SP) (hx0 : x0 = SP.zero) [h1 : CellsV fv [fv]] (hD : DOk D k) (hk : k ≤ 500000) (hm : 2 ≤ D.most) :
    Fn Tryz.prog 70 [.pointer (some ⟨p, 0, none⟩)] [Blk p (pobjV rb x0 fv cv mv old lp lf lc), Blk rb (robj d s n), DRep d D, SumR s]
    (fun v L => v = .int .i64 0 ∧ L = [Blk p (pobjV rb (SP.one 1) fv cv mv old lp lf lc), Blk rb (robj d s n), DRep d D.made, SumR s]) := by
  refine fn_start Tryz.func70 rfl rfl rfl fun F => ?_
  refine c_seq ?_
  refine c_region ?_
  refine o_y (y_assign rfl) rfl ?_
  refine o_nil ?_
  refine f_seq ?_
  refine c_seq ?_
  refine c_seq ?_
  refine c_region ?_
  refine o_y (y_move rfl) rfl ?_
  refine o_y (y_nilCheck rfl) rfl ?_
  refine o_y (y_fieldAddr0 rfl) rfl ?_
  refine o_y (y_load rfl rfl rfl) rfl ?_
  refine o_y (y_nilCheck rfl) rfl ?_
  refine o_y (y_fieldAddr0 rfl) rfl ?_
  refine o_y (y_load rfl rfl rfl) rfl ?_
  refine o_call rfl (grow_d d D 2) (by repeat (first | with_reducible exact Takes.nil | (apply Takes.cons; focus (repeat (first | with_reducible exact Rem.here | apply Rem.there))))) rfl ?_
  rintro _ _ ⟨D', c, rfl, rfl, hg⟩
  rw [if_neg (by omega), if_neg (by rw [hD.dead]; decide)] at hg
  obtain ⟨rfl, hD'⟩ := hg
  have hD' : D' = D.mk1 0 := hD'
  subst hD'
  simp only [List.append_eq, List.cons_append, List.nil_append, List.append_nil, tup]
  refine o_y (y_assign rfl) rfl ?_
  refine o_nil ?_
  refine f_seq ?_
  refine c_seq ?_
  refine c_region ?_
  refine o_y (y_move rfl) rfl ?_
  refine o_y (y_neq_f rfl rfl (by omega)) rfl ?_
  refine o_nil ?_
  refine f_seq ?_
  refine c_false rfl ?_
  refine c_skip ?_
  refine f_seq ?_
  refine c_seq ?_
  refine c_seq ?_
  refine c_region ?_
  refine o_y (y_move rfl) rfl ?_
  refine o_nil ?_
  refine f_seq ?_
  refine c_block ?_
  refine c_loop_inv (X := Nat) (fun i => i ≤ 2) (fun i => 2 - i)
    (fun i => [Blk p (pobjV rb (if i = 0 then x0 else SP.one ((i : Int) - 1)) fv cv mv old lp lf lc), Blk rb (robj d s n), DRep d (D.mk1 i), SumR s])
    (fun i => [(0, .pointer (some ⟨p, 0, none⟩)), (20, .int .i64 (i : Int))]) 0 (by decide) (by rw [if_pos rfl]; repeat (first | with_reducible exact Ent.nil | (apply Ent.one; focus (repeat (first | with_reducible exact Rem.here | apply Rem.there))))) (by repeat (first | exact trivial | refine ⟨rfl, ?_⟩)) ?_
  intro i hi ih
  obtain ⟨hDi, hpi⟩ := mk1_fit hD i
  have g1 := hDi.lo; have g2 := hDi.hi; have g3 := hDi.loose
  by_cases hlt : i < 2
  case neg =>
    clear ih
    have : i = 2 := by omega
    subst this
    rw [if_neg (by decide), show (((2 : Nat) : Int) - 1) = 1 from rfl]
    refine c_seq ?_
    refine c_region ?_
    refine o_y (y_lss_f rfl rfl (by omega)) rfl ?_
    refine o_nil ?_
    refine f_seq ?_
    refine c_seq ?_
    refine c_false rfl ?_
    refine c_exit ?_
    refine f_seq_exit ?_
    refine f_seq_exit ?_
    refine f_block_here ?_
    refine f_seq ?_
    refine c_seq ?_
    refine c_region ?_
    refine o_y (y_move rfl) rfl ?_
    refine o_y (y_nilCheck rfl) rfl ?_
    refine o_y (y_fieldAddr0 rfl) rfl ?_
    refine o_y (y_load rfl rfl rfl) rfl ?_
    refine o_y (y_nilCheck rfl) rfl ?_
    refine o_y (y_fieldAddr0 rfl) rfl ?_
    refine o_y (y_load rfl rfl rfl) rfl ?_
    refine o_call rfl (sync_d d (D.mk1 2) (by omega) (by omega) (by omega)) (by repeat (first | with_reducible exact Takes.nil | (apply Takes.cons; focus (repeat (first | with_reducible exact Rem.here | apply Rem.there))))) rfl ?_
    rintro _ _ ⟨rfl, rfl⟩
    rw [if_neg (by rw [hDi.dead]; decide)]
    rw [show (D.mk1 2).sync = D.made from rfl]
    have hll : (D.made.loose.length : Int) = 0 := rfl
    generalize hmd : D.made = M at *
    simp only [List.append_eq, List.cons_append, List.nil_append, List.append_nil, tup]
    refine o_nil ?_
    refine f_seq ?_
    refine c_seq ?_
    refine c_seq ?_
    refine c_region ?_
    refine o_y (y_move rfl) rfl ?_
    refine o_y (y_nilCheck rfl) rfl ?_
    refine o_y (y_fieldAddr0 rfl) rfl ?_
    refine o_y (y_load rfl rfl rfl) rfl ?_
    refine o_y (y_nilCheck rfl) rfl ?_
    refine o_y (y_fieldAddr0 rfl) rfl ?_
    refine o_y (y_load rfl rfl rfl) rfl ?_
    refine o_call rfl (loose_d d M) (by repeat (first | with_reducible exact Takes.nil | (apply Takes.cons; focus (repeat (first | with_reducible exact Rem.here | apply Rem.there))))) rfl ?_
    rintro _ _ ⟨rfl, rfl⟩
    rw [hll]
    simp only [List.append_eq, List.cons_append, List.nil_append, List.append_nil, tup]
    refine o_y (y_gtr_f rfl rfl (by omega)) rfl ?_
    refine o_nil ?_
    refine f_seq ?_
    refine c_false rfl ?_
    refine c_skip ?_
    refine f_seq ?_
    refine c_seq ?_
    refine c_region ?_
    refine o_y (y_assign rfl) rfl ?_
    refine o_nil ?_
    refine f_seq ?_
    refine c_ret ?_
    exact f_ent (by repeat (first | with_reducible exact Ent.nil | (apply Ent.one; focus (repeat (first | with_reducible exact Rem.here | apply Rem.there))))) (f_ret rfl ⟨rfl, rfl⟩)
  case pos =>
  have hsp := sput_f s (SP.one (i : Int))
  have hok := one_ok (e := (i : Int)) (by omega)
  have hmod : (SP.one (i : Int)).e % 2 = (i : Int) := by show (i : Int) % 2 = _; omega
  have hlen := bytes_len (SP.one (i : Int)).page
  have hnext : D.mk1 (i + 1) = (D.mk1 i).write (i : Int) (SP.one (i : Int)).page.bytes := rfl
  have hhas : (D.mk1 i).has (i : Int) := ⟨by omega, by rw [hpi]; omega⟩
  rw [one_vals] at hsp
  generalize (SP.one (i : Int)).page.bytes = bs at *
  generalize D.mk1 i = Di at *
  have hsup : (if i = 0 then x0 else SP.one ((i : Int) - 1)) = (if i = 0 then x0 else SP.one ((i : Int) - 1)) := rfl
  generalize (if i = 0 then x0 else SP.one ((i : Int) - 1)) = xi at hsup ⊢
  refine c_seq ?_
  refine c_region ?_
  refine o_y (y_lss_t rfl rfl (by omega)) rfl ?_
  refine o_nil ?_
  refine f_seq ?_
  refine c_seq ?_
  refine c_true rfl ?_
  refine c_skip ?_
  refine f_seq ?_
  refine c_seq ?_
  refine c_block ?_
  refine c_seq ?_
  refine c_region ?_
  refine o_y (y_move rfl) rfl ?_
  refine o_y (y_assign rfl) rfl ?_
  refine o_nil ?_
  refine f_seq ?_
  refine c_seq ?_
  refine c_region ?_
  refine o_y (y_move rfl) rfl ?_
  refine o_y (y_move rfl) rfl ?_
  refine o_y (y_build rfl) rfl ?_
  refine o_y (y_nilCheck rfl) rfl ?_
  refine o_y (y_fieldAddr0 rfl) rfl ?_
  refine o_store rfl rfl rfl frz0 ?_
  refine o_nil ?_
  refine f_seq ?_
  refine c_seq ?_
  refine c_ent (M := [Blk p (pobjV rb (SP.one (i : Int)) fv cv mv old lp lf lc), Blk rb (robj d s n), DRep d Di, SumR s]) (Ent.refl _) ?_
  refine c_ent (M := [Blk p (.cells ⟨[.pointer (some ⟨rb, 0, none⟩), .int .i64 (i : Int), .int .i64 0, .int .i64 0, .int .i64 2, fv, cv, mv, .int .i64 old, .int .i64 lp, lf, lc]⟩ 59 (0, 0)), Blk rb (robj d s n), DRep d Di, SumR s]) (Ent.refl _) ?_
  refine pl_start [11] Tryz.mixed ?_; intro hd
  refine pl_lock (A := Blk _ _) Rem.here rfl ?_ hd; intro hb0
  refine pl_lock (A := Blk _ _) Rem.here rfl ?_ hd; intro hb1
  refine pl_take (i := 0) rfl (by kernel_rfl) (y_move rfl) ?_ hd; clear hd; intro hd
  refine pl_take (i := 1) rfl (by kernel_rfl) (y_nilCheck rfl) ?_ hd; clear hd; intro hd
  refine pl_take (i := 2) rfl (by kernel_rfl) (y_fieldAddr0 rfl) ?_ hd; clear hd; intro hd
  refine pl_take (i := 3) rfl (by kernel_rfl) (y_load rfl rfl rfl) ?_ hd; clear hd; intro hd
  refine pl_take (i := 4) rfl (by kernel_rfl) (y_nilCheck rfl) ?_ hd; clear hd; intro hd
  refine pl_take (i := 5) rfl (by kernel_rfl) (y_fieldAddr0 rfl) ?_ hd; clear hd; intro hd
  refine pl_take (i := 6) rfl (by kernel_rfl) (y_load rfl rfl rfl) ?_ hd; clear hd; intro hd
  refine pl_take (i := 7) rfl (by kernel_rfl) (y_move rfl) ?_ hd; clear hd; intro hd
  refine pl_take (i := 8) rfl (by kernel_rfl) (y_nilCheck rfl) ?_ hd; clear hd; intro hd
  refine pl_take (i := 9) rfl (by kernel_rfl) (y_fieldAddr0 rfl) ?_ hd; clear hd; intro hd
  refine pl_take (i := 10) rfl (by kernel_rfl) (y_loadN rfl rfl rfl) ?_ hd; clear hd; intro hd
  refine pl_sole (i := 11) (by kernel_rfl) rfl ?_ hd; clear hd; intro hd
  refine o_call rfl hsp (by repeat (first | with_reducible exact Takes.nil | (apply Takes.cons; focus (repeat (first | with_reducible exact Rem.here | apply Rem.there))))) rfl ?_
  rintro _ _ (⟨hno, _, _⟩ | ⟨_, b, rfl, rfl⟩)
  · exact absurd hok hno
  rw [hmod]
  simp only [List.append_eq, List.cons_append, List.nil_append, List.append_nil, tup]
  refine pl_back (by repeat (first | with_reducible exact Owes.nil | with_reducible refine Owes.same ?_ | with_reducible refine Owes.any ?_ | refine Owes.waived 11 (by kernel_rfl) ?_)) ?_ hd; clear hd; intro hd
  refine pl_take (i := 12) rfl (by kernel_rfl) (y_move rfl) ?_ hd; clear hd; intro hd
  refine pl_take (i := 13) rfl (by kernel_rfl) (y_extract rfl rfl) ?_ hd; clear hd; intro hd
  refine pl_take (i := 14) rfl (by kernel_rfl) (y_extract rfl rfl) ?_ hd; clear hd; intro hd
  refine pl_take (i := 15) rfl (by kernel_rfl) (y_extract rfl rfl) ?_ hd; clear hd; intro hd
  refine pl_take (i := 16) rfl (by kernel_rfl) (y_assign rfl) ?_ hd; clear hd; intro hd
  refine pl_take (i := 17) rfl (by kernel_rfl) (y_assign rfl) ?_ hd; clear hd; intro hd
  refine pl_take (i := 18) rfl (by kernel_rfl) (y_assign rfl) ?_ hd; clear hd; intro hd
  refine pl_done (by kernel_rfl) ?_ hd
  refine f_unlock (A := Blk _ _) ?_
  refine f_unlock (A := Blk _ _) ?_
  refine f_seq ?_
  refine c_seq ?_
  refine c_region ?_
  refine o_y (y_move rfl) rfl ?_
  refine o_y (y_nilCheck rfl) rfl ?_
  refine o_y (y_fieldAddr0 rfl) rfl ?_
  refine o_y (y_load rfl rfl rfl) rfl ?_
  refine o_y (y_nilCheck rfl) rfl ?_
  refine o_y (y_fieldAddr0 rfl) rfl ?_
  refine o_y (y_load rfl rfl rfl) rfl ?_
  refine o_y (y_move rfl) rfl ?_
  refine o_y (y_move rfl) rfl ?_
  refine o_call rfl (write_d d Di (i : Int) b 0 256 256 (bs.map byteV) 5 (0, 0) true bs (by have := getN_front (bs.map byteV) []; simpa [hlen] using this) (by omega) (by omega) (by omega) (by omega)) (by repeat (first | with_reducible exact Takes.nil | (apply Takes.cons; focus (repeat (first | with_reducible exact Rem.here | apply Rem.there))))) rfl ?_
  rintro _ _ ⟨D', c, rfl, rfl, hw⟩
  rw [if_neg (fun h => h hhas), if_neg (fun h => h hlen), if_neg (by rw [hDi.dead]; decide), ← hnext] at hw
  obtain ⟨rfl, hD'⟩ := hw
  subst hD'
  simp only [List.append_eq, List.cons_append, List.nil_append, List.append_nil, tup]
  refine o_y (y_assign rfl) rfl ?_
  refine o_nil ?_
  refine f_seq ?_
  refine c_seq ?_
  refine c_region ?_
  refine o_y (y_move rfl) rfl ?_
  refine o_y (y_neq_f rfl rfl (by omega)) rfl ?_
  refine o_nil ?_
  refine f_seq ?_
  refine c_false rfl ?_
  refine c_skip ?_
  refine f_block ?_
  refine f_seq ?_
  refine c_region ?_
  refine o_y (y_arith64 rfl rfl rfl (by omega)) rfl ?_
  refine o_y (y_move rfl) rfl ?_
  refine o_nil ?_
  refine f_next ?_ (by repeat (first | exact trivial | refine ⟨rfl, ?_⟩)) (ih (i + 1) hlt (by omega))
  rw [if_neg (by omega), show ((i + 1 : Nat) : Int) - 1 = (i : Int) by omega]
  exact (Ent.trans (M := [Blk p (.cells ⟨[.pointer (some ⟨rb, 0, none⟩), .int .i64 (i : Int), .int .i64 0, .int .i64 0, .int .i64 2, fv, cv, mv, .int .i64 old, .int .i64 lp, lf, lc]⟩ 59 (0, 0)), Blk rb (robj d s n), DRep d (D.mk1 (i + 1)), SumR s]) (by repeat (first | with_reducible exact Ent.nil | (apply Ent.one; focus (repeat (first | with_reducible exact Rem.here | apply Rem.there))))) (Ent.refl _))

/-- slices.Index over a row that is owned. -/
theorem index_f {a : Option Addr} {cap : Nat} (l : List Int) (no : Int) (hn : l.length ≤ 1000000) (hno : no ∉ l) : Fn Tryz.prog 153 [.slice a l.length cap, .int .i64 no] [Sl 3 1 a l.length cap (l.flatMap intC)]
    (fun v L => v = .int .i64 (-1) ∧ L = [Sl 3 1 a l.length cap (l.flatMap intC)]) := by
  refine fn_start Tryz.func153 rfl rfl rfl fun F => ?_
  refine c_seq ?_
  refine c_region ?_
  refine o_y (y_assign rfl) rfl ?_
  refine o_nil ?_
  refine f_seq ?_
  refine c_seq ?_
  refine c_seq ?_
  refine c_region ?_
  refine o_y (y_move rfl) rfl ?_
  refine o_y (y_len_slice rfl) rfl ?_
  refine o_y (y_move rfl) rfl ?_
  refine o_nil ?_
  refine f_seq ?_
  refine c_block ?_
  refine c_loop_inv (X := Nat) (fun i => i ≤ l.length) (fun i => l.length - i) (fun _ => [Sl 3 1 a l.length cap (l.flatMap intC)])
    (fun i => [(0, .slice a l.length cap), (1, .int .i64 no), (7, .int .i64 (l.length : Int)), (8, .int .i64 (i : Int))]) 0 (Nat.zero_le _) (by repeat (first | with_reducible exact Ent.nil | (apply Ent.one; focus (repeat (first | with_reducible exact Rem.here | apply Rem.there))))) (by repeat (first | exact trivial | refine ⟨rfl, ?_⟩)) ?_
  intro i hi ih
  by_cases hlt : i < l.length
  case neg =>
    clear ih
    refine c_seq ?_
    refine c_region ?_
    refine o_y (y_lss_f rfl rfl (by omega)) rfl ?_
    refine o_nil ?_
    refine f_seq ?_
    refine c_seq ?_
    refine c_false rfl ?_
    refine c_exit ?_
    refine f_seq_exit ?_
    refine f_seq_exit ?_
    refine f_block_here ?_
    refine f_seq ?_
    refine c_seq ?_
    refine c_region ?_
    refine o_y (y_assign rfl) rfl ?_
    refine o_nil ?_
    refine f_seq ?_
    refine c_ret ?_
    exact f_ent (by repeat (first | with_reducible exact Ent.nil | (apply Ent.one; focus (repeat (first | with_reducible exact Rem.here | apply Rem.there))))) (f_ret rfl ⟨rfl, rfl⟩)
  case pos =>
  obtain ⟨x, hx⟩ : ∃ c, l[i]? = some c := ⟨_, List.getElem?_eq_getElem hlt⟩
  have hne : no ≠ x := fun h => hno (h ▸ List.mem_of_getElem? hx)
  refine c_openSl Rem.here ?_ ?_
  · intro g1 g2 g3 g4; omega
  intro b rs g1 g2 g3 g4
  have hld : (l.flatMap intC ++ rs)[0 + i * 1]? = some (.int .i64 x) := by
    have h1 : getN (l.flatMap intC) 0 (l.length * 1) = some (l.flatMap intC) := by
      have := getN_front (l.flatMap intC) []
      rw [List.append_nil] at this
      rw [← g1]; exact this
    have h2 := int_get h1 hx
    rw [List.getElem?_append_left (by rw [g1]; omega)]
    exact h2
  subst g2
  refine c_seq ?_
  refine c_region ?_
  refine o_y (y_lss_t rfl rfl (by omega)) rfl ?_
  refine o_nil ?_
  refine f_seq ?_
  refine c_seq ?_
  refine c_true rfl ?_
  refine c_skip ?_
  refine f_seq ?_
  refine c_seq ?_
  refine c_block ?_
  refine c_seq ?_
  refine c_region ?_
  refine o_y (y_move rfl) rfl ?_
  refine o_y (y_assign rfl) rfl ?_
  refine o_nil ?_
  refine f_seq ?_
  refine c_seq ?_
  refine c_region ?_
  refine o_y (y_move rfl) rfl ?_
  refine o_y (y_move rfl) rfl ?_
  refine o_y (y_move rfl) rfl ?_
  refine o_y (y_indexAddr i rfl rfl rfl hlt) rfl ?_
  refine o_y (y_load rfl rfl hld) rfl ?_
  refine o_y (y_eql_f rfl rfl (by omega)) rfl ?_
  refine o_nil ?_
  refine f_seq ?_
  refine c_false rfl ?_
  refine c_skip ?_
  refine f_block ?_
  refine f_seq ?_
  refine c_region ?_
  refine o_y (y_arith64 rfl rfl rfl (by omega)) rfl ?_
  refine o_y (y_move rfl) rfl ?_
  refine o_nil ?_
  refine f_next ?_ (by repeat (first | exact trivial | refine ⟨rfl, ?_⟩)) (ih (i + 1) hlt (by omega))
  exact Ent.put (P := [Blk b (.cells ⟨l.flatMap intC ++ rs⟩ 3 (0, 0))]) (by repeat (first | with_reducible exact Takes.nil | (apply Takes.cons; focus (repeat (first | with_reducible exact Rem.here | apply Rem.there))))) (Sl.shut g1 g3 g4) (by repeat (first | with_reducible exact Ent.nil | (apply Ent.one; focus (repeat (first | with_reducible exact Rem.here | apply Rem.there)))))
theorem contains_f {a : Option Addr} {cap : Nat} (l : List Int) (no : Int) (hn : l.length ≤ 1000000) (hno : no ∉ l) : Fn Tryz.prog 113 [.slice a l.length cap, .int .i64 no] [Sl 3 1 a l.length cap (l.flatMap intC)]
    (fun v L => v = .bool false ∧ L = [Sl 3 1 a l.length cap (l.flatMap intC)]) := by
  refine fn_start Tryz.func113 rfl rfl rfl fun F => ?_
  refine c_seq ?_
  refine c_region ?_
  refine o_y (y_assign rfl) rfl ?_
  refine o_nil ?_
  refine f_seq ?_
  refine c_seq ?_
  refine c_region ?_
  refine o_y (y_move rfl) rfl ?_
  refine o_y (y_move rfl) rfl ?_
  refine o_call rfl (index_f l no hn hno) (by repeat (first | with_reducible exact Takes.nil | (apply Takes.cons; focus (repeat (first | with_reducible exact Rem.here | apply Rem.there))))) rfl ?_
  rintro _ _ ⟨rfl, rfl⟩
  simp only [List.append_eq, List.cons_append, List.nil_append, List.append_nil, tup]
  refine o_y (y_geq_f rfl rfl (by omega)) rfl ?_
  refine o_y (y_assign rfl) rfl ?_
  refine o_nil ?_
  refine f_seq ?_
  refine c_ret ?_
  exact f_ret rfl ⟨rfl, rfl⟩
end Go.Lun

/- A region's drawn order: operations that look at one block alone. -/
namespace Go.Lun

section
variable {P : Program} {n : Nat} {ds : List Deferred} {F : Fr} {L : List Asrt} {env : Env} {Q : Post} {ops : Array Oper} {eff : Nat → Bool} {T : Owed} {f : Nat} {listed : Array Bool}

theorem pl_at {i : Nat} {d : Tmp} {op : Op} {ty : TypeId} {pos : String} {af : Array Edge} {v : Value} {b : Nat} {o : Obj} (hb : FFind F b o) (hi : ops[i]? = some ⟨some d, op, ty, pos, af, none⟩) (ht : takeB n ops eff listed i = true) [hQ : Calm Q]
    (hy : ∀ F', FFind F' b o → Yld P n ds F' [] env ⟨some d, op, ty, pos, af, none⟩ v)
    (h : Down ops (listed.setIfInBounds i true) → PlJ P n ds F L ((d, v) :: env) ops eff ((i, fun w => w.heap[b]? = some o) :: T) f (listed.setIfInBounds i true) Q)
    (hd : Down ops listed) : PlJ P n ds F L env ops eff T (f + 1) listed Q := by
  simp only [takeB, hi, Bool.and_eq_true, Bool.not_eq_true'] at ht
  obtain ⟨⟨⟨⟨h1, h2⟩, h3⟩, h4⟩, h5, _⟩ := ht
  have hr : i ∈ Region.ready .any ops listed := by simpa using h4
  have hd' := hd.set hr
  refine ⟨hd, fun w a s k hO => ?_⟩
  have hw : w.heap[b]? = some o := by
    obtain ⟨_, _, _, _, _, hf, _, _⟩ := s
    obtain ⟨p, hp⟩ := hb.out
    exact hf b p o hp
  refine wpT_first (v := v) (S := fun w => w.heap[b]? = some o) hi h1 (Region.noSelect_spec h2) (fun c b w' hq => hQ.out c _ _ w' hq (put_defers' _ _ _)) f listed a w (Region.free_spec hi h3) hd hr ?_ hw hO ?_
  · refine .inl ⟨rfl, fun w' hw' => (hy ⟨w'.os, w'.output, 0, Bk false b o, none⟩ ⟨false, by simp [Bk]⟩).out w' a ⟨rfl, rfl, Nat.zero_le _, fun _ => none, ?_, ?_, ?_, trivial⟩ k⟩
    · intro x p o1 q o2 _ h; cases h
    · intro x p o1 hx
      by_cases e : x = b
      · subst e; simp [Bk] at hx; rw [← hx.2]; exact hw'
      · simp [Bk, e] at hx
    · intro x p o1 h; cases h
  · refine (h hd').2 w _ s (k.put (d := some d) h5 v) ?_
    intro x hx
    rcases List.mem_cons.1 hx with rfl | hx
    · exact .inr hw
    · exact hO.set i x hx
theorem Owes.at {F : Fr} {T : Owed} {listed : Array Bool} {i b : Nat} {o : Obj} [hb : FFind F b o] (h : Owes ops eff F T listed) : Owes ops eff F ((i, fun w => w.heap[b]? = some o) :: T) listed := fun w hw x hx => by
  rcases List.mem_cons.1 hx with rfl | hx
  · obtain ⟨p, hp⟩ := hb.out
    exact .inr (hw.2.2 b p o hp)
  · exact h w hw x hx
end
end Go.Lun

/- The pager: load. -/
namespace Go.Lun
open Go.Proofs

/-- A chain of pages that tells free ones. -/
structure LoadOk (D : DS) (x : SP) (chain : List Int) (css : List (List Bytes)) (l : List FR) : Prop where
  at_ : ∀ i no, chain[i]? = some no → ∃ e cs, css[i]? = some cs ∧ D.pg x.pages no = (0, some ⟨3, no, e, chain.getD (i + 1) 0, cs⟩)
  start : x.free = chain.getD 0 0
  nz : ∀ no ∈ chain, no ≠ 0
  nodup : chain.Nodup
  cells : css.flatten = l.map cell8
  clen : css.length = chain.length
  sf : SF l
  lt : ∀ f ∈ l, f.p < x.pages
  len : chain.length ≤ 100000
  nl : l.length ≤ 100000

variable {p d : Nat}

theorem strs_one (l : List Bytes) : ∀ u ∈ l.flatMap strC, u.oneCell' = true := fun u hu => by
  obtain ⟨c, _, hc⟩ := List.mem_flatMap.1 hu
  simp only [strC, List.mem_singleton] at hc
  subst hc; simp [str, Value.oneCell']

set_option maxHeartbeats 12800000 in
theorem load_f (rb s : Nat) (D : DS) (n0 : Int) (x : SP) (mv lf lc : Value) (old lp : Int) (chain : List Int) (css : List (List Bytes)) (l : List FR) (h : LoadOk D x chain css l) (hp : x.pages ≤ D.pages) :
    Fn Tryz.prog 71 [.pointer (some ⟨p, 0, none⟩)] [Blk p (pobjV rb x (.slice none 0 0) (.slice none 0 0) mv old lp lf lc), Blk rb (robj d s n0), DRep d D, SumR s]
    (fun v L => ∃ fa fc ca cc, Wf fa l.length fc ∧ Wf ca chain.length cc ∧ v = .int .i64 0 ∧ L = [Blk p (pobjV rb x (.slice fa l.length fc) (.slice ca chain.length cc) mv old lp lf lc), Blk rb (robj d s x.pages), DRep d D, SumR s, RowA false freeC 2 fa l, RowA false intC 1 ca chain]) := by
  refine fn_start Tryz.func71 rfl rfl rfl fun F => ?_
  have hcl := h.len
  have hnl := h.nl
  have hcln := h.clen
  refine c_seq ?_
  refine c_region ?_
  refine o_y (y_assign rfl) rfl ?_
  refine o_nil ?_
  refine f_seq ?_
  refine c_seq ?_
  refine pl_start [11] Tryz.mixed ?_; intro hd
  refine pl_lock (A := Blk _ _) Rem.here rfl ?_ hd; intro hb0
  refine pl_take (i := 0) rfl (by kernel_rfl) (y_move rfl) ?_ hd; clear hd; intro hd
  refine pl_take (i := 1) rfl (by kernel_rfl) (y_nilCheck rfl) ?_ hd; clear hd; intro hd
  refine pl_take (i := 2) rfl (by kernel_rfl) (y_fieldAddr0 rfl) ?_ hd; clear hd; intro hd
  refine pl_take (i := 3) rfl (by kernel_rfl) (y_load rfl rfl rfl) ?_ hd; clear hd; intro hd
  refine pl_take (i := 4) rfl (by kernel_rfl) (y_move rfl) ?_ hd; clear hd; intro hd
  refine pl_take (i := 5) rfl (by kernel_rfl) (y_nilCheck rfl) ?_ hd; clear hd; intro hd
  refine pl_take (i := 6) rfl (by kernel_rfl) (y_fieldAddr0 rfl) ?_ hd; clear hd; intro hd
  refine pl_take (i := 7) rfl (by kernel_rfl) (y_fieldAddr rfl) ?_ hd; clear hd; intro hd
  refine pl_take (i := 8) rfl (by kernel_rfl) (y_load rfl rfl rfl) ?_ hd; clear hd; intro hd
  refine pl_take (i := 9) rfl (by kernel_rfl) (y_nilCheck rfl) ?_ hd; clear hd; intro hd
  refine pl_take (i := 10) rfl (by kernel_rfl) (y_fieldAddr0 rfl) ?_ hd; clear hd; intro hd
  refine pl_sole (i := 11) (by kernel_rfl) rfl ?_ hd; clear hd; intro hd
  refine o_store rfl rfl rfl frz0 ?_
  refine pl_back (by repeat (first | with_reducible exact Owes.nil | with_reducible refine Owes.same ?_ | with_reducible refine Owes.any ?_ | refine Owes.waived 11 (by kernel_rfl) ?_)) ?_ hd; clear hd; intro hd
  refine pl_done (by kernel_rfl) ?_ hd
  refine f_unlock (A := Blk _ _) ?_
  refine f_seq ?_
  refine c_seq ?_
  refine c_region ?_
  refine o_y (y_assign rfl) rfl ?_
  refine o_nil ?_
  refine f_seq ?_
  refine c_seq ?_
  refine c_seq ?_
  refine c_region ?_
  refine o_y (y_move rfl) rfl ?_
  refine o_y (y_nilCheck rfl) rfl ?_
  refine o_y (y_fieldAddr0 rfl) rfl ?_
  refine o_y (y_fieldAddr rfl) rfl ?_
  refine o_y (y_load rfl rfl rfl) rfl ?_
  refine o_y (y_assign rfl) rfl ?_
  refine o_nil ?_
  refine f_seq ?_
  refine c_block ?_
  rw [h.start]
  have htot : ∀ i, ((css.take i).flatten).length ≤ l.length := fun i => by
    have h1 : (css.flatten).length = l.length := by rw [h.cells, List.length_map]
    rw [← h1, ← List.take_append_drop i css, List.flatten_append, List.length_append, List.take_append_drop]
    omega
  refine c_loop_inv (X := Nat × (Option Addr × Nat) × (Option Addr × Nat)) (fun y => y.1 ≤ chain.length) (fun y => chain.length - y.1)
    (fun y => [Blk p (pobjV rb x (.slice none 0 0) (.slice y.2.1.1 (chain.take y.1).length y.2.1.2) mv old lp lf lc), Blk rb (robj d s x.pages), DRep d D, SumR s, Sl 3 1 y.2.1.1 (chain.take y.1).length y.2.1.2 ((chain.take y.1).flatMap intC), Sl 9 1 y.2.2.1 ((css.take y.1).flatten).length y.2.2.2 (((css.take y.1).flatten).flatMap strC)])
    (fun y => [(0, .pointer (some ⟨p, 0, none⟩)), (3, .slice y.2.2.1 ((css.take y.1).flatten).length y.2.2.2), (4, .int .i64 (chain.getD y.1 0))])
    (0, (none, 0), (none, 0)) (Nat.zero_le _) (by simp only [List.take_zero, List.flatten_nil, List.length_nil, List.flatMap_nil]; exact (Ent.one (by repeat (first | with_reducible exact Rem.here | apply Rem.there)) (Ent.one (by repeat (first | with_reducible exact Rem.here | apply Rem.there)) (Ent.one (by repeat (first | with_reducible exact Rem.here | apply Rem.there)) (Ent.one (by repeat (first | with_reducible exact Rem.here | apply Rem.there)) (Ent.put (P := []) Takes.nil Sl.shut_nil (Ent.put (P := []) Takes.nil Sl.shut_nil Ent.nil))))))) (by simp only [List.take_zero, List.flatten_nil, List.length_nil]; repeat (first | exact trivial | refine ⟨rfl, ?_⟩)) ?_
  rintro ⟨i, ⟨ca, cc⟩, ⟨sa, sc⟩⟩ hi ih
  dsimp only at hi ih ⊢
  have htl : (chain.take i).length = i := by rw [List.length_take]; omega
  have hti := htot i
  by_cases hlt : i < chain.length
  case pos =>
    obtain ⟨no, hno⟩ : ∃ c, chain[i]? = some c := ⟨_, List.getElem?_eq_getElem hlt⟩
    have hgd : chain.getD i 0 = no := by rw [List.getD_eq_getElem?_getD, hno]; rfl
    have hnz := h.nz no (List.mem_of_getElem? hno)
    obtain ⟨e, cs, hcs, hpg⟩ := h.at_ i no hno
    have hnot : no ∉ chain.take i := fun hm => by
      have h1 := h.nodup
      rw [← List.take_append_drop i chain, drop_cons' hno] at h1
      exact (List.nodup_append.1 h1).2.2 no hm no (by simp) rfl
    have hs1 : (chain.take (i + 1)) = chain.take i ++ [no] := take_snoc' hno
    have hs2 : (css.take (i + 1)).flatten = (css.take i).flatten ++ cs := by rw [take_snoc' hcs]; simp
    have htj := htot (i + 1)
    rw [hs2, List.length_append] at htj
    rw [hgd]
    generalize hlk : chain.getD (i + 1) 0 = link at *
    refine c_seq ?_
    refine c_seq ?_
    refine c_region ?_
    refine o_y (y_move rfl) rfl ?_
    refine o_y (y_neq_t rfl rfl (by omega)) rfl ?_
    refine o_nil ?_
    refine f_seq ?_
    refine c_true rfl ?_
    refine c_skip ?_
    refine f_seq ?_
    refine c_block ?_
    refine c_seq ?_
    refine c_region ?_
    refine o_y (y_move rfl) rfl ?_
    refine o_y (y_nilCheck rfl) rfl ?_
    refine o_y (y_fieldAddr0 rfl) rfl ?_
    refine o_y (y_load rfl rfl rfl) rfl ?_
    refine o_y (y_move rfl) rfl ?_
    refine o_call rfl (rread_f rb d s D x.pages no hp) (by repeat (first | with_reducible exact Takes.nil | (apply Takes.cons; focus (repeat (first | with_reducible exact Rem.here | apply Rem.there))))) rfl ?_
    rw [hpg]
    rintro _ _ (⟨hn, _⟩ | ⟨q, a, cap, hq, herr, hw, rfl, rfl⟩)
    · cases hn
    injection hq with _ hq
    injection hq with hq
    subst hq
    simp only [List.append_eq, List.cons_append, List.nil_append, List.append_nil, tup]
    refine o_y (y_move rfl) rfl ?_
    refine o_y (y_extract rfl rfl) rfl ?_
    refine o_y (y_extract rfl rfl) rfl ?_
    refine o_alloc rfl (fun nb => ?_)
    refine o_store rfl rfl rfl frz0 ?_
    refine o_y (y_assign rfl) rfl ?_
    refine o_nil ?_
    refine f_seq ?_
    refine c_seq ?_
    refine c_seq ?_
    refine c_region ?_
    refine o_y (y_move rfl) rfl ?_
    refine o_y (y_neq_f rfl rfl (by omega)) rfl ?_
    refine o_y (y_move rfl) rfl ?_
    refine o_want rfl ?_
    refine o_y (y_fieldAddr0 rfl) rfl ?_
    refine o_want rfl ?_
    refine o_y (y_load rfl rfl rfl) rfl ?_
    refine o_want rfl ?_
    refine o_y (y_cmp rfl rfl rfl) rfl ?_
    refine o_y (y_pick_f rfl rfl) rfl ?_
    refine o_y (y_move rfl) rfl ?_
    refine o_want rfl ?_
    refine o_y (y_move rfl) rfl ?_
    refine o_want rfl ?_
    refine o_y (y_nilCheck rfl) rfl ?_
    refine o_want rfl ?_
    refine o_y (y_fieldAddr0 rfl) rfl ?_
    refine o_want rfl ?_
    refine o_y (y_load rfl rfl rfl) rfl ?_
    refine o_want rfl ?_
    refine o_y (y_move rfl) rfl ?_
    refine o_want rfl ?_
    refine o_call rfl (contains_f (chain.take i) no (by omega) hnot) (by repeat (first | with_reducible exact Takes.nil | (apply Takes.cons; focus (repeat (first | with_reducible exact Rem.here | apply Rem.there))))) rfl ?_
    rintro _ _ ⟨rfl, rfl⟩
    simp only [List.append_eq, List.cons_append, List.nil_append, List.append_nil, tup]
    refine o_y (y_pick_f rfl rfl) rfl ?_
    refine o_nil ?_
    refine f_seq ?_
    refine c_false rfl ?_
    refine c_skip ?_
    refine f_seq ?_
    refine c_ent (M := [Blk nb (.cells ⟨[.int .i64 3, .int .i64 no, .int .i64 e, .int .i64 link, .slice a cs.length cap]⟩ 65 (0, 0)), Blk p (pobjV rb x (.slice none 0 0) (.slice ca (chain.take i).length cc) mv old lp lf lc), Blk rb (robj d s x.pages), DRep d D, SumR s, Sl 3 1 ca (chain.take i).length cc ((chain.take i).flatMap intC), RowA false strC 1 a cs, Sl 9 1 sa ((css.take i).flatten).length sc (((css.take i).flatten).flatMap strC)]) (by repeat (first | with_reducible exact Ent.nil | (apply Ent.one; focus (repeat (first | with_reducible exact Rem.here | apply Rem.there))))) ?_
    refine pl_start [6, 7, 11, 16] Tryz.mixed ?_; intro hd
    refine pl_lock (A := Blk _ _) Rem.here rfl ?_ hd; intro hb0
    refine pl_lock (A := Blk _ _) Rem.here rfl ?_ hd; intro hb1
    refine pl_take (i := 0) rfl (by kernel_rfl) (y_move rfl) ?_ hd; clear hd; intro hd
    refine pl_take (i := 1) rfl (by kernel_rfl) (y_move rfl) ?_ hd; clear hd; intro hd
    refine pl_take (i := 2) rfl (by kernel_rfl) (y_nilCheck rfl) ?_ hd; clear hd; intro hd
    refine pl_take (i := 3) rfl (by kernel_rfl) (y_fieldAddr0 rfl) ?_ hd; clear hd; intro hd
    refine pl_take (i := 4) rfl (by kernel_rfl) (y_load rfl rfl rfl) ?_ hd; clear hd; intro hd
    refine pl_take (i := 5) rfl (by kernel_rfl) (y_move rfl) ?_ hd; clear hd; intro hd
    refine pl_take (i := 8) rfl (by kernel_rfl) (y_move rfl) ?_ hd; clear hd; intro hd
    refine pl_take (i := 9) rfl (by kernel_rfl) (y_fieldAddr0 rfl) ?_ hd; clear hd; intro hd
    refine pl_take (i := 10) rfl (by kernel_rfl) (y_load rfl rfl rfl) ?_ hd; clear hd; intro hd
    refine pl_pure (i := 12) rfl (by kernel_rfl) (fun _ => y_fieldAddr0 rfl) ?_ hd; clear hd; intro hd
    refine pl_at (i := 13) (b := nb) inferInstance rfl (by kernel_rfl) (fun F' _ => y_load rfl rfl rfl) ?_ hd; clear hd; intro hd
    refine pl_sole (i := 6) (by kernel_rfl) rfl ?_ hd; clear hd; intro hd
    refine o_buildSlice rfl rfl rfl rfl rfl (fun nb => ?_)
    refine pl_back (by repeat (first | with_reducible exact Owes.nil | with_reducible refine Owes.same ?_ | with_reducible refine Owes.any ?_ | refine Owes.at ?_ | refine Owes.waived 6 (by kernel_rfl) ?_)) ?_ hd; clear hd; intro hd
    refine pl_sole (i := 7) (by kernel_rfl) rfl ?_ hd; clear hd; intro hd
    refine o_append (k := 1) (ys := [.int .i64 no]) rfl rfl (Src.slice rfl) (by apply Rem.there; apply Rem.there; apply Rem.there; apply Rem.there; exact Rem.here) (by simp [Value.oneCell']) (by omega) rfl (by omega) rfl (fun ca2 cc2 => ?_)
    refine pl_back (by repeat (first | with_reducible exact Owes.nil | with_reducible refine Owes.same ?_ | with_reducible refine Owes.any ?_ | refine Owes.at ?_ | refine Owes.waived 7 (by kernel_rfl) ?_ | refine Owes.waived 6 (by kernel_rfl) ?_)) ?_ hd; clear hd; intro hd
    refine pl_sole (i := 11) (by kernel_rfl) rfl ?_ hd; clear hd; intro hd
    refine o_append rfl rfl (Src.row (f := strC) (xs := cs) (a := a) (cap := cap) (q := false) (fun _ => rfl) (by repeat (first | with_reducible exact Rem.here | apply Rem.there))) (by apply Rem.there; apply Rem.there; apply Rem.there; apply Rem.there; apply Rem.there; apply Rem.there; exact Rem.here) (strs_one cs) (by omega) rfl (by omega) rfl (fun sa2 sc2 => ?_)
    refine pl_back (by repeat (first | with_reducible exact Owes.nil | with_reducible refine Owes.same ?_ | with_reducible refine Owes.any ?_ | refine Owes.at ?_ | refine Owes.waived 11 (by kernel_rfl) ?_ | refine Owes.waived 7 (by kernel_rfl) ?_ | refine Owes.waived 6 (by kernel_rfl) ?_)) ?_ hd; clear hd; intro hd
    refine pl_take (i := 14) rfl (by kernel_rfl) (y_nilCheck rfl) ?_ hd; clear hd; intro hd
    refine pl_take (i := 15) rfl (by kernel_rfl) (y_fieldAddr0 rfl) ?_ hd; clear hd; intro hd
    refine pl_sole (i := 16) (by kernel_rfl) rfl ?_ hd; clear hd; intro hd
    refine o_unlock (A := Blk _ _) ?_
    refine o_store rfl rfl rfl frz0 ?_
    refine pl_back (by repeat (first | with_reducible exact Owes.nil | with_reducible refine Owes.same ?_ | with_reducible refine Owes.any ?_ | refine Owes.at ?_ | refine Owes.waived 16 (by kernel_rfl) ?_ | refine Owes.waived 11 (by kernel_rfl) ?_ | refine Owes.waived 7 (by kernel_rfl) ?_ | refine Owes.waived 6 (by kernel_rfl) ?_)) ?_ hd; clear hd; intro hd
    refine pl_take (i := 17) rfl (by kernel_rfl) (y_assign rfl) ?_ hd; clear hd; intro hd
    refine pl_take (i := 18) rfl (by kernel_rfl) (y_assign rfl) ?_ hd; clear hd; intro hd
    refine pl_done (by kernel_rfl) ?_ hd
    refine f_unlock (A := Blk _ _) ?_
    refine f_block ?_
    refine f_next ?_ ?_ (ih (i + 1, (ca2, cc2), (sa2, sc2)) hlt (by dsimp only; omega))
    · dsimp only
      rw [hs1, hs2, List.length_append, List.length_append, List.flatMap_append, List.flatMap_append]
      exact (Ent.trans (M := [Blk p (pobjV rb x (.slice none 0 0) (.slice ca2 ((chain.take i).length + 1) cc2) mv old lp lf lc), Blk rb (robj d s x.pages), DRep d D, SumR s, Sl 3 1 ca2 ((chain.take i).length + 1) cc2 ((chain.take i).flatMap intC ++ [.int .i64 no]), Sl 9 1 sa2 (((css.take i).flatten).length + cs.length) sc2 (((css.take i).flatten).flatMap strC ++ cs.flatMap strC)]) (by repeat (first | with_reducible exact Ent.nil | (apply Ent.one; focus (repeat (first | with_reducible exact Rem.here | apply Rem.there))))) (Ent.refl _))
    · dsimp only
      rw [hs2, List.length_append, hlk]
      repeat (first | exact trivial | refine ⟨rfl, ?_⟩)
  case neg =>
  clear ih
  have hii : i = chain.length := by omega
  have hgd : chain.getD i 0 = 0 := by rw [List.getD_eq_getElem?_getD, List.getElem?_eq_none (by omega)]; rfl
  rw [hgd]
  rw [List.take_of_length_le (l := chain) (by omega), List.take_of_length_le (l := css) (by omega), h.cells]
  refine c_seq ?_
  refine c_seq ?_
  refine c_region ?_
  refine o_y (y_move rfl) rfl ?_
  refine o_y (y_neq_f rfl rfl (by omega)) rfl ?_
  refine o_nil ?_
  refine f_seq ?_
  refine c_false rfl ?_
  refine c_exit ?_
  refine f_seq_exit ?_
  refine f_seq_exit ?_
  refine f_block_here ?_
  refine f_seq ?_
  refine c_seq ?_
  refine c_region ?_
  refine o_y (y_move rfl) rfl ?_
  refine o_openWf (a := ca) (len := chain.length) (cap := cc) (by repeat (first | with_reducible exact Rem.here | apply Rem.there)) (fun hwc => ?_)
  refine o_shareSl (a := ca) (cap := cc) intC chain (by repeat (first | with_reducible exact Rem.here | apply Rem.there)) rfl rfl ?_
  refine o_openWf (a := sa) (len := (l.map cell8).length) (cap := sc) (by repeat (first | with_reducible exact Rem.here | apply Rem.there)) (fun hws => ?_)
  refine o_shareSl (a := sa) (cap := sc) strC (l.map cell8) (by repeat (first | with_reducible exact Rem.here | apply Rem.there)) rfl rfl ?_
  have hml : (l.map cell8).length = l.length := List.length_map ..
  refine o_call rfl (chunkS_f (a := sa) (len := (l.map cell8).length) (cap := sc)) (by repeat (first | with_reducible exact Takes.nil | (apply Takes.cons; focus (repeat (first | with_reducible exact Rem.here | apply Rem.there))))) rfl ?_
  rintro _ _ ⟨sb, kb, rfl, rfl⟩
  simp only [List.append_eq, List.cons_append, List.nil_append, List.append_nil, tup]
  skip
  refine o_call rfl (collect_f (l := l.map cell8) (by omega) hws) (by repeat (first | with_reducible exact Takes.nil | (apply Takes.cons; focus (repeat (first | with_reducible exact Rem.here | apply Rem.there))))) rfl ?_
  rintro _ _ ⟨y, hy, rfl, rfl⟩
  simp only [List.append_eq, List.cons_append, List.nil_append, List.append_nil, tup]
  skip
  refine o_call rfl (fof_f y l hy (OkF.of h.sf) (by omega)) (by repeat (first | with_reducible exact Takes.nil | (apply Takes.cons; focus (repeat (first | with_reducible exact Rem.here | apply Rem.there))))) rfl ?_
  rintro _ _ ⟨fa, fc, hwf, rfl, rfl⟩
  simp only [List.append_eq, List.cons_append, List.nil_append, List.append_nil, tup]
  refine o_y (y_move rfl) rfl ?_
  refine o_y (y_extract rfl rfl) rfl ?_
  refine o_y (y_extract rfl rfl) rfl ?_
  refine o_y (y_assign rfl) rfl ?_
  refine o_y (y_assign rfl) rfl ?_
  refine o_nil ?_
  refine f_seq ?_
  refine c_seq ?_
  refine c_seq ?_
  refine c_cut (X := Unit) (fun _ => [Blk p (pobjV rb x (.slice none 0 0) (.slice ca chain.length cc) mv old lp lf lc), Blk rb (robj d s x.pages), RowA false freeC 2 fa l, RowA false intC 1 ca chain, DRep d D, SumR s])
    (fun _ => [(0, .pointer (some ⟨p, 0, none⟩)), (7, .slice fa l.length fc), (97, .bool false)]) ?_ ?_
  · by_cases hl0 : l.length = 0
    · refine c_ent (M := [Blk p (pobjV rb x (.slice none 0 0) (.slice ca chain.length cc) mv old lp lf lc), Blk rb (robj d s x.pages), RowA false freeC 2 fa l, RowA false intC 1 ca chain, DRep d D, SumR s]) (by repeat (first | with_reducible exact Ent.nil | (apply Ent.one; focus (repeat (first | with_reducible exact Rem.here | apply Rem.there))))) ?_
      refine pl_start [] Tryz.mixed ?_; intro hd
      refine pl_lock (A := Blk _ _) Rem.here rfl ?_ hd; intro hb0
      refine pl_lock (A := Blk _ _) Rem.here rfl ?_ hd; intro hb1
      refine pl_take (i := 0) rfl (by kernel_rfl) (y_move rfl) ?_ hd; clear hd; intro hd
      refine pl_take (i := 1) rfl (by kernel_rfl) (y_neq_f rfl rfl (by omega)) ?_ hd; clear hd; intro hd
      refine pl_take (i := 2) rfl (by kernel_rfl) (y_move rfl) ?_ hd; clear hd; intro hd
      refine pl_want (i := 3) rfl (by kernel_rfl) rfl (y_move rfl) ?_ hd; clear hd; intro hd
      refine pl_want (i := 4) rfl (by kernel_rfl) rfl (y_len_slice rfl) ?_ hd; clear hd; intro hd
      refine pl_want (i := 5) rfl (by kernel_rfl) rfl (y_gtr_f rfl rfl (by omega)) ?_ hd; clear hd; intro hd
      refine pl_want (i := 6) rfl (by kernel_rfl) rfl (y_move rfl) ?_ hd; clear hd; intro hd
      refine pl_skip (i := 7) rfl (by kernel_rfl) rfl ?_ hd; clear hd; intro hd
      refine pl_skip (i := 8) rfl (by kernel_rfl) rfl ?_ hd; clear hd; intro hd
      refine pl_skip (i := 9) rfl (by kernel_rfl) rfl ?_ hd; clear hd; intro hd
      refine pl_skip (i := 10) rfl (by kernel_rfl) rfl ?_ hd; clear hd; intro hd
      refine pl_skip (i := 11) rfl (by kernel_rfl) rfl ?_ hd; clear hd; intro hd
      refine pl_skip (i := 12) rfl (by kernel_rfl) rfl ?_ hd; clear hd; intro hd
      refine pl_skip (i := 13) rfl (by kernel_rfl) rfl ?_ hd; clear hd; intro hd
      refine pl_skip (i := 14) rfl (by kernel_rfl) rfl ?_ hd; clear hd; intro hd
      refine pl_skip (i := 15) rfl (by kernel_rfl) rfl ?_ hd; clear hd; intro hd
      refine pl_skip (i := 16) rfl (by kernel_rfl) rfl ?_ hd; clear hd; intro hd
      refine pl_skip (i := 17) rfl (by kernel_rfl) rfl ?_ hd; clear hd; intro hd
      refine pl_skip (i := 18) rfl (by kernel_rfl) rfl ?_ hd; clear hd; intro hd
      refine pl_skip (i := 19) rfl (by kernel_rfl) rfl ?_ hd; clear hd; intro hd
      refine pl_skip (i := 20) rfl (by kernel_rfl) rfl ?_ hd; clear hd; intro hd
      refine pl_skip (i := 21) rfl (by kernel_rfl) rfl ?_ hd; clear hd; intro hd
      refine pl_want (i := 22) rfl (by kernel_rfl) rfl (y_pick_f rfl rfl) ?_ hd; clear hd; intro hd
      refine pl_take (i := 23) rfl (by kernel_rfl) (y_pick_f rfl rfl) ?_ hd; clear hd; intro hd
      refine pl_done (by kernel_rfl) ?_ hd
      refine f_unlock (A := Blk _ _) ?_
      refine f_unlock (A := Blk _ _) ?_
      exact f_cut () (by repeat (first | with_reducible exact Ent.nil | (apply Ent.one; focus (repeat (first | with_reducible exact Rem.here | apply Rem.there))))) (by repeat (first | exact trivial | refine ⟨rfl, ?_⟩))
    · obtain ⟨f, hf⟩ : ∃ f, l[l.length - 1]? = some f := ⟨_, List.getElem?_eq_getElem (by omega)⟩
      have hlt2 := h.lt f (List.mem_of_getElem? hf)
      have hne : l ≠ [] := by intro h; rw [h] at hl0; exact hl0 rfl
      refine c_open (A := RowA false freeC 2 fa l) (h := RowA.opens (f := freeC) hne) (by repeat (first | with_reducible exact Rem.here | apply Rem.there)) (fun y2 hy2 => ?_)
      obtain ⟨kb2, ko, cs, T2, fz⟩ := y2
      obtain ⟨e1, e2⟩ := hy2
      dsimp only at e1 e2
      subst e1
      have hgt := free_get e2 hf
      have hg0 := (takeN_get hgt).2 0 (by decide)
      rw [List.getElem?_drop, Nat.add_zero] at hg0
      simp only [List.append_eq, List.cons_append, List.nil_append, List.append_nil, tup]
      refine c_ent (M := [Blk p (pobjV rb x (.slice none 0 0) (.slice ca chain.length cc) mv old lp lf lc), Blk rb (robj d s x.pages), Bkp false kb2 (.cells ⟨cs⟩ T2 fz), RowA false intC 1 ca chain, DRep d D, SumR s]) (by repeat (first | with_reducible exact Ent.nil | (apply Ent.one; focus (repeat (first | with_reducible exact Rem.here | apply Rem.there))))) ?_
      refine pl_start [] Tryz.mixed ?_; intro hd
      refine pl_lock (A := Bkp _ _ _) Rem.here rfl ?_ hd; intro hb0
      refine pl_lock (A := Bkp _ _ _) Rem.here rfl ?_ hd; intro hb1
      refine pl_lock (A := Bkp _ _ _) Rem.here rfl ?_ hd; intro hb2
      refine pl_take (i := 0) rfl (by kernel_rfl) (y_move rfl) ?_ hd; clear hd; intro hd
      refine pl_take (i := 1) rfl (by kernel_rfl) (y_neq_f rfl rfl (by omega)) ?_ hd; clear hd; intro hd
      refine pl_take (i := 2) rfl (by kernel_rfl) (y_move rfl) ?_ hd; clear hd; intro hd
      refine pl_want (i := 3) rfl (by kernel_rfl) rfl (y_move rfl) ?_ hd; clear hd; intro hd
      refine pl_want (i := 4) rfl (by kernel_rfl) rfl (y_len_slice rfl) ?_ hd; clear hd; intro hd
      refine pl_want (i := 5) rfl (by kernel_rfl) rfl (y_gtr_t rfl rfl (by omega)) ?_ hd; clear hd; intro hd
      refine pl_want (i := 6) rfl (by kernel_rfl) rfl (y_move rfl) ?_ hd; clear hd; intro hd
      refine pl_want (i := 7) rfl (by kernel_rfl) rfl (y_move rfl) ?_ hd; clear hd; intro hd
      refine pl_want (i := 8) rfl (by kernel_rfl) rfl (y_move rfl) ?_ hd; clear hd; intro hd
      refine pl_want (i := 9) rfl (by kernel_rfl) rfl (y_len_slice rfl) ?_ hd; clear hd; intro hd
      refine pl_want (i := 10) rfl (by kernel_rfl) rfl (y_arith64 rfl rfl rfl (by omega)) ?_ hd; clear hd; intro hd
      refine pl_want (i := 11) rfl (by kernel_rfl) rfl (y_indexAddr (l.length - 1) rfl rfl (by omega) (by omega)) ?_ hd; clear hd; intro hd
      refine pl_want (i := 12) rfl (by kernel_rfl) rfl (y_fieldAddr rfl) ?_ hd; clear hd; intro hd
      refine pl_want (i := 13) rfl (by kernel_rfl) rfl (y_load rfl rfl hg0) ?_ hd; clear hd; intro hd
      refine pl_want (i := 14) rfl (by kernel_rfl) rfl (y_move rfl) ?_ hd; clear hd; intro hd
      refine pl_want (i := 15) rfl (by kernel_rfl) rfl (y_nilCheck rfl) ?_ hd; clear hd; intro hd
      refine pl_want (i := 16) rfl (by kernel_rfl) rfl (y_fieldAddr0 rfl) ?_ hd; clear hd; intro hd
      refine pl_want (i := 17) rfl (by kernel_rfl) rfl (y_load rfl rfl rfl) ?_ hd; clear hd; intro hd
      refine pl_want (i := 18) rfl (by kernel_rfl) rfl (y_nilCheck rfl) ?_ hd; clear hd; intro hd
      refine pl_want (i := 19) rfl (by kernel_rfl) rfl (y_fieldAddr0 rfl) ?_ hd; clear hd; intro hd
      refine pl_want (i := 20) rfl (by kernel_rfl) rfl (y_load rfl rfl rfl) ?_ hd; clear hd; intro hd
      refine pl_want (i := 21) rfl (by kernel_rfl) rfl (y_geq_f rfl rfl (by omega)) ?_ hd; clear hd; intro hd
      refine pl_want (i := 22) rfl (by kernel_rfl) rfl (y_pick_t rfl rfl) ?_ hd; clear hd; intro hd
      refine pl_take (i := 23) rfl (by kernel_rfl) (y_pick_f rfl rfl) ?_ hd; clear hd; intro hd
      refine pl_done (by kernel_rfl) ?_ hd
      refine f_unlock (A := Bkp _ _ _) ?_
      refine f_unlock (A := Bkp _ _ _) ?_
      refine f_unlock (A := Bkp _ _ _) ?_
      refine f_cut () ?_ (by repeat (first | exact trivial | refine ⟨rfl, ?_⟩))
      exact Ent.one (by repeat (first | with_reducible exact Rem.here | apply Rem.there)) (Ent.one (by repeat (first | with_reducible exact Rem.here | apply Rem.there)) (Ent.put (P := [Bkp false kb2 (.cells ⟨cs⟩ T2 fz)]) (by repeat (first | with_reducible exact Takes.nil | (apply Takes.cons; focus (repeat (first | with_reducible exact Rem.here | apply Rem.there))))) (RowA.shut rfl e2) (by repeat (first | with_reducible exact Ent.nil | (apply Ent.one; focus (repeat (first | with_reducible exact Rem.here | apply Rem.there)))))))
  intro _
  refine c_false rfl ?_
  refine c_skip ?_
  refine f_seq ?_
  refine c_seq ?_
  refine c_region ?_
  refine o_y (y_move rfl) rfl ?_
  refine o_y (y_move rfl) rfl ?_
  refine o_y (y_nilCheck rfl) rfl ?_
  refine o_y (y_fieldAddr0 rfl) rfl ?_
  refine o_store rfl rfl rfl frz0 ?_
  refine o_nil ?_
  refine f_seq ?_
  refine c_seq ?_
  refine c_region ?_
  refine o_y (y_assign rfl) rfl ?_
  refine o_nil ?_
  refine f_seq ?_
  refine c_ret ?_
  exact f_ent (by repeat (first | with_reducible exact Ent.nil | (apply Ent.one; focus (repeat (first | with_reducible exact Rem.here | apply Rem.there))))) (f_ret rfl ⟨fa, fc, ca, cc, hwf, hwc, rfl, rfl⟩)
end Go.Lun

/- The pager: Open. -/
namespace Go.Lun
open Go.Proofs

variable {p d : Nat}

set_option maxHeartbeats 6400000 in
theorem keep_f (rb s : Nat) (x : SP) (pages : Int) (D : DS) (fa ca : Option Addr) (fc cc : Nat) (l : List FR) (ch : List Int) (mv lf lc : Value) (old lp : Int) (hn : l.length ≤ 1000000) (hc : ch.length ≤ 1000000) (h1 : Wf fa l.length fc) (h2 : Wf ca ch.length cc)
    [CellsV mv [mv]] [CellsV lf [lf]] [CellsV lc [lc]] :
    Fn Tryz.prog 72 [.pointer (some ⟨p, 0, none⟩)] [Blk p (pobjV rb x (.slice fa l.length fc) (.slice ca ch.length cc) mv old lp lf lc), Blk rb (robj d s pages), DRep d D, SumR s, RowA false freeC 2 fa l, RowA false intC 1 ca ch]
    (fun v L => v = .tuple ⟨[]⟩ ∧ L = [PRep p d { D := D, x := x, pages := pages, free := l, chain := ch, fresh := fun _ => none, oldest := x.e, lpages := pages, lfree := l, lchain := ch }]) := by
  refine fn_start Tryz.func72 rfl rfl rfl fun F => ?_
  refine c_seq ?_
  refine c_region ?_
  refine o_y (y_move rfl) rfl ?_
  refine o_makeMap rfl (fun mb => ?_)
  refine o_y (y_nilCheck rfl) rfl ?_
  refine o_y (y_fieldAddr0 rfl) rfl ?_
  refine o_store rfl rfl rfl frz0 ?_
  refine o_nil ?_
  refine f_seq ?_
  refine c_seq ?_
  refine c_ent (M := [Blk p (pobjV rb x (.slice fa l.length fc) (.slice ca ch.length cc) (.map (some mb)) old lp lf lc), Blk rb (robj d s pages), DRep d D, SumR s, RowA false freeC 2 fa l, Blk mb (.map #[] 0), RowA false intC 1 ca ch]) (by repeat (first | with_reducible exact Ent.nil | (apply Ent.one; focus (repeat (first | with_reducible exact Rem.here | apply Rem.there))))) ?_
  refine pl_start [12, 17, 21] Tryz.mixed ?_; intro hd
  refine pl_lock (A := Blk _ _) Rem.here rfl ?_ hd; intro hb0
  refine pl_lock (A := Blk _ _) Rem.here rfl ?_ hd; intro hb1
  refine pl_take (i := 0) rfl (by kernel_rfl) (y_move rfl) ?_ hd; clear hd; intro hd
  refine pl_take (i := 1) rfl (by kernel_rfl) (y_move rfl) ?_ hd; clear hd; intro hd
  refine pl_take (i := 2) rfl (by kernel_rfl) (y_nilCheck rfl) ?_ hd; clear hd; intro hd
  refine pl_take (i := 3) rfl (by kernel_rfl) (y_fieldAddr0 rfl) ?_ hd; clear hd; intro hd
  refine pl_take (i := 4) rfl (by kernel_rfl) (y_load rfl rfl rfl) ?_ hd; clear hd; intro hd
  refine pl_take (i := 5) rfl (by kernel_rfl) (y_nilCheck rfl) ?_ hd; clear hd; intro hd
  refine pl_take (i := 6) rfl (by kernel_rfl) (y_fieldAddr0 rfl) ?_ hd; clear hd; intro hd
  refine pl_take (i := 7) rfl (by kernel_rfl) (y_load rfl rfl rfl) ?_ hd; clear hd; intro hd
  refine pl_take (i := 8) rfl (by kernel_rfl) (y_move rfl) ?_ hd; clear hd; intro hd
  refine pl_take (i := 9) rfl (by kernel_rfl) (y_nilCheck rfl) ?_ hd; clear hd; intro hd
  refine pl_take (i := 10) rfl (by kernel_rfl) (y_fieldAddr0 rfl) ?_ hd; clear hd; intro hd
  refine pl_take (i := 11) rfl (by kernel_rfl) (y_load rfl rfl rfl) ?_ hd; clear hd; intro hd
  refine pl_take (i := 13) rfl (by kernel_rfl) (y_move rfl) ?_ hd; clear hd; intro hd
  refine pl_take (i := 14) rfl (by kernel_rfl) (y_nilCheck rfl) ?_ hd; clear hd; intro hd
  refine pl_take (i := 15) rfl (by kernel_rfl) (y_fieldAddr0 rfl) ?_ hd; clear hd; intro hd
  refine pl_take (i := 16) rfl (by kernel_rfl) (y_load rfl rfl rfl) ?_ hd; clear hd; intro hd
  refine pl_sole (i := 12) (by kernel_rfl) rfl ?_ hd; clear hd; intro hd
  refine o_call rfl (clonef_f hn h1) (by repeat (first | with_reducible exact Takes.nil | (apply Takes.cons; focus (repeat (first | with_reducible exact Rem.here | apply Rem.there))))) rfl ?_
  rintro _ _ ⟨a1, c1, hw1, rfl, rfl⟩
  simp only [List.append_eq, List.cons_append, List.nil_append, List.append_nil, tup]
  refine pl_back (by repeat (first | with_reducible exact Owes.nil | with_reducible refine Owes.same ?_ | with_reducible refine Owes.any ?_ | refine Owes.waived 12 (by kernel_rfl) ?_)) ?_ hd; clear hd; intro hd
  refine pl_sole (i := 17) (by kernel_rfl) rfl ?_ hd; clear hd; intro hd
  refine o_call rfl (clonei_f hc h2) (by repeat (first | with_reducible exact Takes.nil | (apply Takes.cons; focus (repeat (first | with_reducible exact Rem.here | apply Rem.there))))) rfl ?_
  rintro _ _ ⟨a2, c2, hw2, rfl, rfl⟩
  simp only [List.append_eq, List.cons_append, List.nil_append, List.append_nil, tup]
  refine pl_back (by repeat (first | with_reducible exact Owes.nil | with_reducible refine Owes.same ?_ | with_reducible refine Owes.any ?_ | refine Owes.waived 17 (by kernel_rfl) ?_ | refine Owes.waived 12 (by kernel_rfl) ?_)) ?_ hd; clear hd; intro hd
  refine pl_take (i := 18) rfl (by kernel_rfl) (y_build rfl) ?_ hd; clear hd; intro hd
  refine pl_take (i := 19) rfl (by kernel_rfl) (y_nilCheck rfl) ?_ hd; clear hd; intro hd
  refine pl_take (i := 20) rfl (by kernel_rfl) (y_fieldAddr0 rfl) ?_ hd; clear hd; intro hd
  refine pl_sole (i := 21) (by kernel_rfl) rfl ?_ hd; clear hd; intro hd
  refine o_unlock (A := Blk _ _) ?_
  refine o_unlock (A := Blk _ _) ?_
  refine o_store rfl rfl rfl frz0 ?_
  refine pl_back (by repeat (first | with_reducible exact Owes.nil | with_reducible refine Owes.same ?_ | with_reducible refine Owes.any ?_ | refine Owes.waived 21 (by kernel_rfl) ?_ | refine Owes.waived 17 (by kernel_rfl) ?_ | refine Owes.waived 12 (by kernel_rfl) ?_)) ?_ hd; clear hd; intro hd
  refine pl_done (by kernel_rfl) ?_ hd
  refine f_seq ?_
  refine c_region ?_
  refine o_y (y_move rfl) rfl ?_
  refine o_y (y_move rfl) rfl ?_
  refine o_y (y_nilCheck rfl) rfl ?_
  refine o_y (y_fieldAddr0 rfl) rfl ?_
  refine o_y (y_fieldAddr rfl) rfl ?_
  refine o_y (y_load rfl rfl rfl) rfl ?_
  refine o_y (y_nilCheck rfl) rfl ?_
  refine o_y (y_fieldAddr0 rfl) rfl ?_
  refine o_store rfl rfl rfl frz0 ?_
  refine o_nil ?_
  refine f_ent ?_ (f_end rfl ⟨rfl, rfl⟩)
  rw [show (.map #[] 0 : Obj) = .map (ents []) 0 from rfl]
  refine (Ent.put (by repeat (first | with_reducible exact Takes.nil | (apply Takes.cons; focus (repeat (first | with_reducible exact Rem.here | apply Rem.there))))) (PCo.mk { D := D, x := x, pages := pages, free := l, chain := ch, fresh := fun _ => none, oldest := x.e, lpages := pages, lfree := l, lchain := ch } (by exact ⟨rfl, rfl, rfl, rfl, rfl, rfl, rfl⟩) h1 (es := []) (ck := 0) IMok.nil) (Ent.refl _)).trans ?_
  exact Ent.put (by repeat (first | with_reducible exact Takes.nil | (apply Takes.cons; focus (repeat (first | with_reducible exact Rem.here | apply Rem.there))))) (PRep.mk { D := D, x := x, pages := pages, free := l, chain := ch, fresh := fun _ => none, oldest := x.e, lpages := pages, lfree := l, lchain := ch } (by exact ⟨rfl, rfl, rfl, rfl, rfl, rfl, rfl⟩) h2 hw1 hw2) (by repeat (first | with_reducible exact Ent.nil | (apply Ent.one; focus (repeat (first | with_reducible exact Rem.here | apply Rem.there)))))

/-- A pager as it was told last. -/
def PS.opened (D : DS) (x : SP) (l : List FR) (ch : List Int) : PS := { D := D, x := x, pages := x.pages, free := l, chain := ch, fresh := fun _ => none, oldest := x.e, lpages := x.pages, lfree := l, lchain := ch }
theorem load_none (D : DS) (x : SP) (h : x.free = 0) : LoadOk D x [] [] [] := ⟨fun i no h => (by cases h), by rw [h]; rfl, fun _ h => (by cases h), .nil, rfl, rfl, SF.nil, fun _ h => (by cases h), by decide, by decide⟩

set_option maxHeartbeats 12800000 in
theorem open_new (D : DS) (k : Nat) (hD : DOk D k) (hk : k ≤ 400000) (hp : D.pages = 0) (hm : 2 ≤ D.most) :
    Fn Tryz.prog 23 [.pointer (some ⟨d, 0, none⟩)] [DRep d D]
    (fun v L => ∃ p, v = .tuple ⟨[.pointer (some ⟨p, 0, none⟩), .int .i64 0]⟩ ∧ L = [PRep p d (PS.opened D.made (SP.one 1) [] [])]) := by
  refine fn_start Tryz.func23 rfl rfl rfl fun F => ?_
  refine c_seq ?_
  refine c_region ?_
  refine o_y (y_assign rfl) rfl ?_
  refine o_y (y_assign rfl) rfl ?_
  refine o_nil ?_
  refine f_seq ?_
  refine c_seq ?_
  refine c_seq ?_
  refine c_region ?_
  refine o_y (y_move rfl) rfl ?_
  refine o_call rfl (dead_d d D) (by repeat (first | with_reducible exact Takes.nil | (apply Takes.cons; focus (repeat (first | with_reducible exact Rem.here | apply Rem.there))))) rfl ?_
  rintro _ _ ⟨rfl, rfl⟩
  rw [hD.dead]
  simp only [List.append_eq, List.cons_append, List.nil_append, List.append_nil, tup]
  refine o_nil ?_
  refine f_seq ?_
  refine c_false rfl ?_
  refine c_skip ?_
  refine f_seq ?_
  refine c_seq ?_
  refine c_region ?_
  refine o_y (y_move rfl) rfl ?_
  refine o_call rfl sum_new (by repeat (first | with_reducible exact Takes.nil | (apply Takes.cons; focus (repeat (first | with_reducible exact Rem.here | apply Rem.there))))) rfl ?_
  rintro _ _ ⟨s, rfl, rfl⟩
  simp only [List.append_eq, List.cons_append, List.nil_append, List.append_nil, tup]
  refine o_y (y_build rfl) rfl ?_
  refine o_box rfl rfl (fun rb => ?_)
  refine o_y (y_build rfl) rfl ?_
  refine o_box rfl rfl (fun p => ?_)
  refine o_y (y_assign rfl) rfl ?_
  refine o_nil ?_
  refine f_seq ?_
  refine c_seq ?_
  refine c_region ?_
  refine o_y (y_move rfl) rfl ?_
  have hno : ∀ j, ¬ D.has j := fun j h => by have := h.1; have := h.2; omega
  refine o_call rfl (read_d d D 0) (by repeat (first | with_reducible exact Takes.nil | (apply Takes.cons; focus (repeat (first | with_reducible exact Rem.here | apply Rem.there))))) rfl ?_
  rintro _ _ (⟨_, rfl, rfl⟩ | ⟨hh, _⟩)
  rotate_left
  · exact absurd hh (hno 0)
  simp only [List.append_eq, List.cons_append, List.nil_append, List.append_nil, tup]
  refine o_y (y_move rfl) rfl ?_
  refine o_y (y_extract rfl rfl) rfl ?_
  refine o_y (y_extract rfl rfl) rfl ?_
  refine o_y (y_assign rfl) rfl ?_
  refine o_y (y_assign rfl) rfl ?_
  refine o_nil ?_
  refine f_seq ?_
  refine c_seq ?_
  refine c_region ?_
  refine o_y (y_move rfl) rfl ?_
  refine o_call rfl (read_d d D 1) (by repeat (first | with_reducible exact Takes.nil | (apply Takes.cons; focus (repeat (first | with_reducible exact Rem.here | apply Rem.there))))) rfl ?_
  rintro _ _ (⟨_, rfl, rfl⟩ | ⟨hh, _⟩)
  rotate_left
  · exact absurd hh (hno 1)
  simp only [List.append_eq, List.cons_append, List.nil_append, List.append_nil, tup]
  refine o_y (y_move rfl) rfl ?_
  refine o_y (y_extract rfl rfl) rfl ?_
  refine o_y (y_extract rfl rfl) rfl ?_
  refine o_y (y_assign rfl) rfl ?_
  refine o_y (y_assign rfl) rfl ?_
  refine o_nil ?_
  refine f_seq ?_
  refine c_seq ?_
  refine c_region ?_
  refine o_y (y_move rfl) rfl ?_
  refine o_y (y_nilCheck rfl) rfl ?_
  refine o_y (y_fieldAddr0 rfl) rfl ?_
  refine o_y (y_load rfl rfl rfl) rfl ?_
  refine o_y (y_nilCheck rfl) rfl ?_
  refine o_y (y_fieldAddr0 rfl) rfl ?_
  refine o_y (y_load rfl rfl rfl) rfl ?_
  refine o_y (y_move rfl) rfl ?_
  refine o_y (y_move rfl) rfl ?_
  refine o_ent (M := [SumR s, pgA none, pgA none, DRep d D, Blk p (pobjV rb SP.zero (.slice none 0 0) (.slice none 0 0) (.map none) 0 0 (.slice none 0 0) (.slice none 0 0)), Blk rb (robj d s 0)]) ?_ ?_
  · refine (Ent.trans (M := [SumR s, pgA none, pgA none, DRep d D, Blk p (.cells ⟨[.pointer (some ⟨rb, 0, none⟩), .int .i64 0, .int .i64 0, .int .i64 0, .int .i64 0, .slice none 0 0, .slice none 0 0, .map none, .int .i64 0, .int .i64 0, .slice none 0 0, .slice none 0 0]⟩ 59 (0, 0)), Blk rb (robj d s 0)]) ?_ (Ent.refl _))
    refine Ent.one (by repeat (first | with_reducible exact Rem.here | apply Rem.there)) (Ent.put (P := []) Takes.nil (fun _ _ => trivial) (Ent.put (P := []) Takes.nil (fun _ _ => trivial) (by repeat (first | with_reducible exact Ent.nil | (apply Ent.one; focus (repeat (first | with_reducible exact Rem.here | apply Rem.there)))))))
  have hpk : SP.pick none none = (70, SP.zero) := by decide
  refine o_call rfl (pick_f s none none trivial trivial) (by repeat (first | with_reducible exact Takes.nil | (apply Takes.cons; focus (repeat (first | with_reducible exact Rem.here | apply Rem.there))))) rfl ?_
  rintro _ _ ⟨rfl, rfl⟩
  rw [hpk]
  simp only [List.append_eq, List.cons_append, List.nil_append, List.append_nil, tup]
  have hz : SP.zero.vals = [.int .i64 0, .int .i64 0, .int .i64 0, .int .i64 0] := rfl
  rw [hz]
  refine o_y (y_move rfl) rfl ?_
  refine o_y (y_extract rfl rfl) rfl ?_
  refine o_y (y_extract rfl rfl) rfl ?_
  refine o_alloc rfl (fun nb => ?_)
  refine o_store rfl rfl rfl frz0 ?_
  refine o_y (y_assign rfl) rfl ?_
  refine o_nil ?_
  refine f_seq ?_
  refine c_seq ?_
  refine c_block ?_
  refine c_seq ?_
  refine c_seq ?_
  refine c_region ?_
  refine o_y (y_move rfl) rfl ?_
  refine o_call rfl (pages_d d D) (by repeat (first | with_reducible exact Takes.nil | (apply Takes.cons; focus (repeat (first | with_reducible exact Rem.here | apply Rem.there))))) rfl ?_
  rintro _ _ ⟨rfl, rfl⟩
  rw [hp]
  simp only [List.append_eq, List.cons_append, List.nil_append, List.append_nil, tup]
  refine o_y (y_lss_t rfl rfl (by omega)) rfl ?_
  refine o_y (y_assign rfl) rfl ?_
  refine o_nil ?_
  refine f_seq ?_
  refine c_true rfl ?_
  refine c_skip ?_
  refine f_seq ?_
  refine c_true rfl ?_
  refine c_seq ?_
  refine c_region ?_
  refine o_y (y_move rfl) rfl ?_
  refine o_call rfl (make_f (p := p) (d := d) rb s D 0 k (.slice none 0 0) (.slice none 0 0) (.map none) (.slice none 0 0) (.slice none 0 0) 0 0 SP.zero rfl hD (by omega) hm) (by repeat (first | with_reducible exact Takes.nil | (apply Takes.cons; focus (repeat (first | with_reducible exact Rem.here | apply Rem.there))))) rfl ?_
  rintro _ _ ⟨rfl, rfl⟩
  have hmp : D.made.pages = 2 := by show max D.pages 2 = 2; omega
  generalize D.made = M at *
  simp only [List.append_eq, List.cons_append, List.nil_append, List.append_nil, tup]
  refine o_y (y_assign rfl) rfl ?_
  refine o_nil ?_
  refine f_seq ?_
  refine c_seq ?_
  refine c_region ?_
  refine o_y (y_move rfl) rfl ?_
  refine o_y (y_neq_f rfl rfl (by omega)) rfl ?_
  refine o_nil ?_
  refine f_seq ?_
  refine c_false rfl ?_
  refine c_skip ?_
  refine f_block ?_
  refine f_seq ?_
  refine c_seq ?_
  refine c_seq ?_
  refine c_region ?_
  refine o_y (y_move rfl) rfl ?_
  refine o_call rfl (load_f (p := p) (d := d) rb s M 0 (SP.one 1) (.map none) (.slice none 0 0) (.slice none 0 0) 0 0 [] [] [] (load_none M (SP.one 1) rfl) (by rw [hmp]; decide)) (by repeat (first | with_reducible exact Takes.nil | (apply Takes.cons; focus (repeat (first | with_reducible exact Rem.here | apply Rem.there))))) rfl ?_
  rintro _ _ ⟨fa, fc, ca, cc, hwf, hwc, rfl, rfl⟩
  simp only [List.append_eq, List.cons_append, List.nil_append, List.append_nil, tup]
  refine o_y (y_assign rfl) rfl ?_
  refine o_nil ?_
  refine f_seq ?_
  refine c_seq ?_
  refine c_region ?_
  refine o_y (y_move rfl) rfl ?_
  refine o_y (y_neq_f rfl rfl (by omega)) rfl ?_
  refine o_nil ?_
  refine f_seq ?_
  refine c_false rfl ?_
  refine c_skip ?_
  refine f_seq ?_
  refine c_seq ?_
  refine c_region ?_
  refine o_y (y_move rfl) rfl ?_
  refine o_call rfl (keep_f (p := p) (d := d) rb s (SP.one 1) (SP.one 1).pages M fa ca fc cc [] [] (.map none) (.slice none 0 0) (.slice none 0 0) 0 0 (by decide) (by decide) hwf hwc) (by repeat (first | with_reducible exact Takes.nil | (apply Takes.cons; focus (repeat (first | with_reducible exact Rem.here | apply Rem.there))))) rfl ?_
  rintro _ _ ⟨rfl, rfl⟩
  simp only [List.append_eq, List.cons_append, List.nil_append, List.append_nil, tup]
  refine o_nil ?_
  refine f_seq ?_
  refine c_seq ?_
  refine c_region ?_
  refine o_y (y_move rfl) rfl ?_
  refine o_y (y_assign rfl) rfl ?_
  refine o_y (y_assign rfl) rfl ?_
  refine o_nil ?_
  refine f_seq ?_
  refine c_ret ?_
  exact f_ent (M := [PRep p d { D := M, x := SP.one 1, pages := (SP.one 1).pages, free := [], chain := [], fresh := fun _ => none, oldest := (SP.one 1).e, lpages := (SP.one 1).pages, lfree := [], lchain := [] }]) (by repeat (first | with_reducible exact Ent.nil | (apply Ent.one; focus (repeat (first | with_reducible exact Rem.here | apply Rem.there))))) (f_ret rfl ⟨p, rfl, rfl⟩)

end Go.Lun

/- A page's bytes tell the page. -/
namespace Go.Lun
open Go.Proofs

theorem splb_get : ∀ (vs l : Bytes) (k i : Nat), k + vs.length ≤ l.length → (splb l k vs)[i]? = if k ≤ i ∧ i < k + vs.length then vs[i - k]? else l[i]?
  | [], l, k, i, _ => by rw [if_neg (by simp only [List.length_nil]; omega)]; rfl
  | v :: vs, l, k, i, h => by
    simp only [List.length_cons] at h ⊢
    rw [splb, splb_get vs (l.set k v) (k + 1) i (by rw [List.length_set]; omega)]
    by_cases h1 : k + 1 ≤ i ∧ i < k + 1 + vs.length
    · rw [if_pos h1, if_pos (by omega)]
      rw [show i - k = (i - (k + 1)) + 1 by omega, List.getElem?_cons_succ]
    · rw [if_neg h1]
      by_cases h2 : i = k
      · subst h2
        rw [if_pos (by omega), List.getElem?_set_self (by omega), Nat.sub_self]; rfl
      · rw [if_neg (by omega), List.getElem?_set_ne (by omega)]
theorem byte_splb (vs l : Bytes) (k i : Nat) (h : k + vs.length ≤ l.length) : byteAt (splb l k vs) i = if k ≤ i ∧ i < k + vs.length then byteAt vs (i - k) else byteAt l i := by
  unfold byteAt
  rw [List.getD_eq_getElem?_getD, splb_get vs l k i h]
  split <;> rw [List.getD_eq_getElem?_getD]
theorem byte_out {vs l : Bytes} {k i : Nat} (h : k + vs.length ≤ l.length) (hi : i < k ∨ k + vs.length ≤ i) : byteAt (splb l k vs) i = byteAt l i := by
  rw [byte_splb vs l k i h, if_neg (by omega)]
theorem byte_in {vs l : Bytes} {k i : Nat} (h : k + vs.length ≤ l.length) (hi : k ≤ i ∧ i < k + vs.length) : byteAt (splb l k vs) i = byteAt vs (i - k) := by
  rw [byte_splb vs l k i h, if_pos hi]
theorem byte_one (u : Nat) : byteAt [byteN u] 0 = u % 256 := byteN_val u
theorem bytes_ext {l m : Bytes} (h : l.length = m.length) (hb : ∀ i, i < l.length → byteAt l i = byteAt m i) : l = m := by
  apply List.ext_getElem? 
  intro i
  rcases Nat.lt_or_ge i l.length with hi | hi
  · obtain ⟨c, h1, h2⟩ := byteAt_get hi
    obtain ⟨e, h3, h4⟩ := byteAt_get (l := m) (i := i) (by omega)
    have := hb i hi
    rw [h1, h3]
    congr 1
    exact UInt8.toNat_inj.1 (by omega)
  · rw [List.getElem?_eq_none hi, List.getElem?_eq_none (by omega)]
theorem byte_drop (l : Bytes) (k i : Nat) : byteAt (l.drop k) i = byteAt l (k + i) := by
  unfold byteAt; rw [List.getD_eq_getElem?_getD, List.getElem?_drop, List.getD_eq_getElem?_getD]
theorem byte_take (l : Bytes) (k i : Nat) (h : i < k) : byteAt (l.take k) i = byteAt l i := by
  unfold byteAt; rw [List.getD_eq_getElem?_getD, List.getElem?_take_of_lt h, List.getD_eq_getElem?_getD]

/-- Four bytes that are told by their values. -/
theorem num4_bytes {l : Bytes} {k : Nat} (h : k + 4 ≤ l.length) : num4 (l.drop k) = ((byteAt l k * 256 + byteAt l (k + 1)) * 256 + byteAt l (k + 2)) * 256 + byteAt l (k + 3) := by
  obtain ⟨a, h1, e1⟩ := byteAt_get (l := l) (i := k) (by omega)
  obtain ⟨b, h2, e2⟩ := byteAt_get (l := l) (i := k + 1) (by omega)
  obtain ⟨c, h3, e3⟩ := byteAt_get (l := l) (i := k + 2) (by omega)
  obtain ⟨d, h4, e4⟩ := byteAt_get (l := l) (i := k + 3) (by omega)
  rw [drop_cons' h1, drop_cons' h2, drop_cons' h3, drop_cons' h4, num4_cons, e1, e2, e3, e4]
theorem four_bytes (u : Nat) : byteAt (four u) 0 = u / 2 ^ 24 % 256 ∧ byteAt (four u) 1 = u / 2 ^ 16 % 256 ∧ byteAt (four u) 2 = u / 2 ^ 8 % 256 ∧ byteAt (four u) 3 = u / 2 ^ 0 % 256 :=
  ⟨byteN_val _, byteN_val _, byteN_val _, byteN_val _⟩
theorem num4_splb {l : Bytes} {k u : Nat} (h : k + 4 ≤ l.length) (hu : u < 4294967296) : num4 ((splb l k (four u)).drop k) = u := by
  have hl : (splb l k (four u)).length = l.length := splb_len ..
  rw [num4_bytes (by omega)]
  obtain ⟨f0, f1, f2, f3⟩ := four_bytes u
  have hf : (four u).length = 4 := rfl
  rw [byte_in (by omega) (by omega), byte_in (by omega) (by omega), byte_in (by omega) (by omega), byte_in (by omega) (by omega)]
  rw [show k - k = 0 by omega, show k + 1 - k = 1 by omega, show k + 2 - k = 2 by omega, show k + 3 - k = 3 by omega, f0, f1, f2, f3]
  omega
theorem num4_out {vs l : Bytes} {k i : Nat} (h : k + vs.length ≤ l.length) (h4 : i + 4 ≤ l.length) (hi : i + 4 ≤ k ∨ k + vs.length ≤ i) : num4 ((splb l k vs).drop i) = num4 (l.drop i) := by
  have hl : (splb l k vs).length = l.length := splb_len ..
  rw [num4_bytes (by omega), num4_bytes h4, byte_out h (by omega), byte_out h (by omega), byte_out h (by omega), byte_out h (by omega)]

/-- Where the k-th cell begins. -/
def PG.off (p : PG) (k : Nat) : Nat := 252 + 2 * k - room (p.cells.take k)
theorem off_facts {p : PG} (hr : room p.cells ≤ 236) {k : Nat} {c : Bytes} (h : p.cells[k]? = some c) : (p.laid k).2.1 = p.off k ∧ p.off (k + 1) + c.length = p.off k ∧ 16 + 2 * p.cells.length ≤ p.off (k + 1) ∧ p.off k ≤ 252 ∧ k < p.cells.length := by
  have hlt : k < p.cells.length := (List.getElem?_eq_some_iff.1 h).1
  obtain ⟨f1, f2, f3⟩ := laid_facts hr k (by omega)
  obtain ⟨g1, g2, g3⟩ := laid_facts hr (k + 1) (by omega)
  have h1 := room_snoc h
  have h2 := room_le p.cells (k + 1)
  have h3 := room_two (p.cells.take k)
  rw [List.length_take] at h3
  -- what the later cells take
  have h4 : room (p.cells.take (k + 1)) + 2 * (p.cells.length - (k + 1)) ≤ room p.cells := by
    have e : p.cells = p.cells.take (k + 1) ++ p.cells.drop (k + 1) := (List.take_append_drop _ _).symm
    have h5 := room_two (p.cells.drop (k + 1))
    rw [List.length_drop] at h5
    have h6 : room p.cells = room (p.cells.take (k + 1)) + room (p.cells.drop (k + 1)) := by
      conv => lhs; rw [e]
      unfold room; rw [List.map_append, List.sum_append]
    omega
  unfold PG.off
  omega
/-- What holds once k cells are laid. -/
structure Laid (p : PG) (k : Nat) (b : Bytes) : Prop where
  len : b.length = 256
  head : ∀ i, i < 14 → byteAt b i = byteAt p.head i
  pos : ∀ j, j < k → byteAt b (14 + 2 * j) = p.off (j + 1)
  long : ∀ j c, j < k → p.cells[j]? = some c → byteAt b (15 + 2 * j) = c.length
  body : ∀ j c, j < k → p.cells[j]? = some c → ∀ t, t < c.length → byteAt b (p.off (j + 1) + t) = byteAt c t
theorem off_mono {p : PG} (hr : room p.cells ≤ 236) : ∀ {k j : Nat}, j ≤ k → k ≤ p.cells.length → p.off k ≤ p.off j
  | 0, j, h, _ => by have : j = 0 := by omega
                     subst this; exact Nat.le_refl _
  | k + 1, j, h, hk => by
    have h1 := (off_facts hr (List.getElem?_eq_getElem (show k < p.cells.length by omega))).2.1
    rcases Nat.lt_or_ge j (k + 1) with h2 | h2
    · have := off_mono hr (k := k) (j := j) (by omega) (by omega); omega
    · have : j = k + 1 := by omega
      subst this; exact Nat.le_refl _
theorem laid_ok {p : PG} (hr : room p.cells ≤ 236) (hl : ∀ c ∈ p.cells, c.length ≤ 235) : ∀ k, k ≤ p.cells.length → Laid p k (p.laid k).2.2
  | 0, _ => ⟨head_len p, fun _ _ => rfl, fun _ h => by omega, fun _ _ h => by omega, fun _ _ h => by omega⟩
  | k + 1, hk => by
    have ih := laid_ok hr hl k (by omega)
    have hc : p.cells[k]? = some p.cells[k] := List.getElem?_eq_getElem (by omega)
    have hcl := hl p.cells[k] (List.getElem_mem _)
    generalize p.cells[k] = c at hc hcl
    obtain ⟨o1, o2, o3, o4, o5⟩ := off_facts hr hc
    obtain ⟨f1, f2, f3⟩ := laid_facts hr k (by omega)
    have hsn := laid_snoc hc
    have hlc : layCell (p.laid k) c = (k + 1, p.off (k + 1), splb (splb (splb (p.laid k).2.2 (14 + 2 * k) [byteN (p.off (k + 1))]) (15 + 2 * k) [byteN c.length]) (p.off (k + 1)) c) := by
      unfold layCell; rw [f1, o1, show p.off k - c.length = p.off (k + 1) by omega]
    rw [hsn, hlc]
    dsimp only
    have hlen := ih.len
    generalize (p.laid k).2.2 = b at ih hlen
    have l1 : (splb b (14 + 2 * k) [byteN (p.off (k + 1))]).length = 256 := by rw [splb_len]; exact hlen
    have l2 : (splb (splb b (14 + 2 * k) [byteN (p.off (k + 1))]) (15 + 2 * k) [byteN c.length]).length = 256 := by rw [splb_len]; exact l1
    have key : ∀ i, ¬ (i = 14 + 2 * k) → ¬ (i = 15 + 2 * k) → ¬ (p.off (k + 1) ≤ i ∧ i < p.off k) → byteAt (splb (splb (splb b (14 + 2 * k) [byteN (p.off (k + 1))]) (15 + 2 * k) [byteN c.length]) (p.off (k + 1)) c) i = byteAt b i := fun i h1 h2 h3 => by
      rw [byte_out (by omega) (by omega), byte_out (by simp only [List.length_cons, List.length_nil]; omega) (by simp only [List.length_cons, List.length_nil]; omega), byte_out (by simp only [List.length_cons, List.length_nil]; omega) (by simp only [List.length_cons, List.length_nil]; omega)]
    refine ⟨by rw [splb_len]; exact l2, fun i hi => ?_, fun j hj => ?_, fun j c' hj hc' => ?_, fun j c' hj hc' t ht => ?_⟩
    · rw [key i (by omega) (by omega) (by omega)]; exact ih.head i hi
    · by_cases e : j = k
      · subst e
        rw [byte_out (by omega) (by omega), byte_out (by simp only [List.length_cons, List.length_nil]; omega) (by omega), byte_in (by simp only [List.length_cons, List.length_nil]; omega) (by simp only [List.length_cons, List.length_nil]; omega), Nat.sub_self, byte_one]
        omega
      · rw [key _ (by omega) (by omega) (by omega)]; exact ih.pos j (by omega)
    · by_cases e : j = k
      · subst e
        rw [hc] at hc'; injection hc' with hc'; subst hc'
        rw [byte_out (by omega) (by omega), byte_in (by simp only [List.length_cons, List.length_nil]; omega) (by simp only [List.length_cons, List.length_nil]; omega), Nat.sub_self, byte_one]
        omega
      · rw [key _ (by omega) (by omega) (by omega)]; exact ih.long j c' (by omega) hc'
    · by_cases e : j = k
      · subst e
        rw [hc] at hc'; injection hc' with hc'; subst hc'
        rw [byte_in (by omega) (by omega), Nat.add_sub_cancel_left]
      · have h5 := off_mono hr (k := k) (j := j + 1) (by omega) (by omega)
        rw [key _ (by omega) (by omega) (by omega)]; exact ih.body j c' (by omega) hc' t ht

theorem parseC_ok {p : PG} {b : Bytes} (hb : Laid p p.cells.length b) (hr : room p.cells ≤ 236) : ∀ k, k ≤ p.cells.length → parseC b k = some (p.cells.take k)
  | 0, _ => by simp [parseC]
  | k + 1, hk => by
    have ih := parseC_ok hb hr k (by omega)
    have hc : p.cells[k]? = some p.cells[k] := List.getElem?_eq_getElem (by omega)
    generalize p.cells[k] = c at hc
    obtain ⟨o1, o2, o3, o4, o5⟩ := off_facts hr hc
    have h1 := hb.pos k (by omega)
    have h2 := hb.long k c (by omega) hc
    have hlen := hb.len
    simp only [parseC, ih, h1, h2]
    rw [if_pos (by omega), take_snoc' hc]
    congr 2
    simp only [List.cons.injEq, and_true]
    refine bytes_ext (by rw [List.length_take, List.length_drop]; omega) fun i hi => ?_
    rw [List.length_take, List.length_drop] at hi
    rw [byte_take _ _ _ (by omega), byte_drop]
    exact hb.body k c (by omega) hc i (by omega)

theorem err_zero {p : PG} (h : p.err = 0) : room p.cells ≤ 236 ∧ (∀ c ∈ p.cells, c.length ≤ 235) ∧ p.ok := by
  unfold PG.err at h
  split at h
  · rename_i hf
    split at h
    · rename_i hok
      unfold fitsP at hf
      simp only [Bool.and_eq_true, decide_eq_true_eq, List.all_eq_true] at hf
      exact ⟨hf.1, hf.2, hok⟩
    · exact absurd h (by decide)
  · exact absurd h (by decide)
set_option maxHeartbeats 1600000 in
theorem parse_bytes {p : PG} (h : p.err = 0) : PG.parse p.bytes = some p ∧ pgetE p.bytes = 0 := by
  obtain ⟨hr, hl, hok⟩ := err_zero h
  have hL := laid_ok hr hl p.cells.length (Nat.le_refl _)
  have hbody : (p.laid p.cells.length).2.2 = p.body := rfl
  rw [hbody] at hL
  have hlen := hL.len
  have h2 := room_two p.cells
  have hcrc := crcOf_lt (p.body.take 252)
  have hf : (four (crcOf (p.body.take 252))).length = 4 := rfl
  have hout : ∀ i, i < 252 → byteAt p.bytes i = byteAt p.body i := fun i hi => by
    unfold PG.bytes; rw [byte_out (by omega) (by omega)]
  have hbl := bytes_len p
  have hL2 : Laid p p.cells.length p.bytes := by
    refine ⟨hbl, fun i hi => ?_, fun j hj => ?_, fun j c hj hc => ?_, fun j c hj hc t ht => ?_⟩
    · rw [hout i (by omega)]; exact hL.head i hi
    · rw [hout _ (by omega)]; exact hL.pos j hj
    · rw [hout _ (by omega)]; exact hL.long j c hj hc
    · obtain ⟨o1, o2, o3, o4, o5⟩ := off_facts hr hc
      rw [hout _ (by omega)]; exact hL.body j c hj hc t ht
  have hpc := parseC_ok hL2 hr p.cells.length (Nat.le_refl _)
  rw [List.take_length] at hpc
  -- the head
  have zl : zeros.length = 256 := zeros_len
  have e1 : ∀ (l : Bytes) (k : Nat) (v : UInt8), (splb l k [v]).length = l.length := fun l k v => splb_len ..
  have e4 : ∀ (l : Bytes) (k u : Nat), (splb l k (four u)).length = l.length := fun l k u => splb_len ..
  have f4 : ∀ u, (four u).length = 4 := fun u => rfl
  have f1 : ∀ v : UInt8, ([v] : Bytes).length = 1 := fun v => rfl
  obtain ⟨k1, k2, n1, n2, m1, m2, q1, q2⟩ := hok
  have hb0 : byteAt p.head 0 = p.kind.toNat % 256 := by
    unfold PG.head
    rw [byte_out (by rw [e4, e4, e1, e1, f4, zl]; omega) (by omega), byte_out (by rw [e4, e1, e1, f4, zl]; omega) (by omega), byte_out (by rw [e1, e1, f4, zl]; omega) (by omega), byte_out (by rw [e1, f1, zl]; omega) (by omega), byte_in (by rw [f1, zl]; omega) (by rw [f1]; omega)]
    exact byte_one _
  have hb1 : byteAt p.head 1 = p.cells.length % 256 := by
    unfold PG.head
    rw [byte_out (by rw [e4, e4, e1, e1, f4, zl]; omega) (by omega), byte_out (by rw [e4, e1, e1, f4, zl]; omega) (by omega), byte_out (by rw [e1, e1, f4, zl]; omega) (by omega), byte_in (by rw [e1, f1, zl]; omega) (by rw [f1]; omega)]
    exact byte_one _
  have hh : p.head.length = 256 := head_len p
  have hn : num4 (p.head.drop 2) = p.no.toNat := by
    unfold PG.head
    rw [num4_out (by rw [e4, e4, e1, e1, f4, zl]; omega) (by rw [e4, e4, e1, e1, zl]; omega) (by omega), num4_out (by rw [e4, e1, e1, f4, zl]; omega) (by rw [e4, e1, e1, zl]; omega) (by omega), num4_splb (by rw [e1, e1, zl]; omega) (by omega)]
  have he : num4 (p.head.drop 6) = p.epoch.toNat := by
    unfold PG.head
    rw [num4_out (by rw [e4, e4, e1, e1, f4, zl]; omega) (by rw [e4, e4, e1, e1, zl]; omega) (by omega), num4_splb (by rw [e4, e1, e1, zl]; omega) (by omega)]
  have hk : num4 (p.head.drop 10) = p.link.toNat := by
    unfold PG.head
    rw [num4_splb (by rw [e4, e4, e1, e1, zl]; omega) (by omega)]
  have hnum : ∀ i, i + 4 ≤ 14 → num4 (p.bytes.drop i) = num4 (p.head.drop i) := fun i hi => by
    rw [num4_bytes (by omega), num4_bytes (by omega), hL2.head i (by omega), hL2.head (i + 1) (by omega), hL2.head (i + 2) (by omega), hL2.head (i + 3) (by omega)]
  have c1 : ((p.kind.toNat % 256 : Nat) : Int) = p.kind := by clear hL hL2 hpc hbody; omega
  have c2 : ((p.no.toNat : Nat) : Int) = p.no := by clear hL hL2 hpc hbody; omega
  have c3 : ((p.epoch.toNat : Nat) : Int) = p.epoch := by clear hL hL2 hpc hbody; omega
  have c4 : ((p.link.toNat : Nat) : Int) = p.link := by clear hL hL2 hpc hbody; omega
  have hparse : PG.parse p.bytes = some p := by
    unfold PG.parse
    rw [hL2.head 1 (by omega), hb1, show p.cells.length % 256 = p.cells.length by omega, if_pos (by omega), hpc, hL2.head 0 (by omega), hb0, hnum 2 (by omega), hnum 6 (by omega), hnum 10 (by omega), hn, he, hk]
    rw [Option.map_some, c1, c2, c3, c4]
  refine ⟨hparse, ?_⟩
  have hsum : crcOf (p.bytes.take 252) = num4 (p.bytes.drop 252) := by
    have h3 : p.bytes.take 252 = p.body.take 252 := by
      refine bytes_ext (by rw [List.length_take, List.length_take, hbl, hlen]) fun i hi => ?_
      rw [List.length_take] at hi
      rw [byte_take _ _ _ (by omega), byte_take _ _ _ (by omega), hout i (by omega)]
    have h4 : num4 (p.bytes.drop 252) = crcOf (p.body.take 252) := num4_splb (by omega) hcrc
    rw [h3, h4]
  unfold pgetE
  rw [if_pos hsum, hparse]
  dsimp only
  rw [if_pos ⟨h, rfl⟩]
end Go.Lun

/- The statements of layer 8: a fresh pager, an act, what is the same. -/
namespace Go.Lun
open Go.Proofs

structure AP where
  kind : Int
  of_ : Int
  link : Int
  no : Int
  root : Int
  epoch : Int
  ca : Option Addr
  cc : Nat
  cells : List Bytes
def AP.cellsV (x : AP) : List Value := [.int .i64 x.kind, .int .i64 x.of_, .int .i64 x.link, .int .i64 x.no, .int .i64 x.root, .int .i64 x.epoch, .slice x.ca x.cells.length x.cc]
abbrev AP.val (x : AP) : Value := .agg ⟨x.cellsV⟩
abbrev KP (x : AP) : Asrt := RowA false strC 1 x.ca x.cells
def AP.few (x : AP) : Bool := decide (x.cells.length ≤ 130) && x.cells.all fun c => decide (c.length ≤ 300)
theorem AP.small {x : AP} (h : x.few = true) : Small x.cells := by
  unfold AP.few at h
  simp only [Bool.and_eq_true, decide_eq_true_eq, List.all_eq_true] at h
  exact ⟨by omega, fun c hc => by have := h.2 c hc; omega⟩

theorem dnew_ok (most : Int) : DOk (DS.new most) 0 := ⟨rfl, (by decide : -((0 : Nat) : Int) ≤ 0), (by decide : (0 : Int) ≤ 0), Nat.le_refl 0⟩
def PS.begin (most : Int) : PS := PS.opened (DS.new most).made (SP.one 1) [] []
set_option maxHeartbeats 1600000 in
theorem fresh8_f (most : Int) (h : 2 ≤ most ∧ most ≤ 4096) : Fn Tryz.prog 17 [.int .i64 most] []
    (fun v L => ∃ p d, v = .tuple ⟨[.pointer (some ⟨p, 0, none⟩), .pointer (some ⟨d, 0, none⟩)]⟩ ∧ L = [PRep p d (PS.begin most)]) := by
  refine fn_start Tryz.func17 rfl rfl rfl fun F => ?_
  refine c_seq ?_
  refine c_region ?_
  refine o_y (y_assign rfl) rfl ?_
  refine o_y (y_assign rfl) rfl ?_
  refine o_nil ?_
  refine f_seq ?_
  refine c_seq ?_
  refine c_region ?_
  refine o_y (y_move rfl) rfl ?_
  refine o_call rfl (new_d most) (by repeat (first | with_reducible exact Takes.nil | (apply Takes.cons; focus (repeat (first | with_reducible exact Rem.here | apply Rem.there))))) rfl ?_
  rintro _ _ (⟨hno, _, _⟩ | ⟨_, d, rfl, rfl⟩)
  · exact absurd ⟨by omega, by omega⟩ hno
  have hok := dnew_ok most
  have hop := open_new (d := d) (DS.new most) 0 hok (by decide) rfl h.1
  unfold PS.begin
  generalize (DS.new most).made = M at *
  simp only [List.append_eq, List.cons_append, List.nil_append, List.append_nil, tup]
  refine o_y (y_move rfl) rfl ?_
  refine o_y (y_extract rfl rfl) rfl ?_
  refine o_y (y_extract rfl rfl) rfl ?_
  refine o_y (y_assign rfl) rfl ?_
  refine o_y (y_assign rfl) rfl ?_
  refine o_nil ?_
  refine f_seq ?_
  refine c_seq ?_
  refine c_seq ?_
  refine c_region ?_
  refine o_y (y_move rfl) rfl ?_
  refine o_y (y_neq_f rfl rfl (by omega)) rfl ?_
  refine o_y (y_move rfl) rfl ?_
  refine o_want rfl ?_
  refine o_y (y_move rfl) rfl ?_
  refine o_want rfl ?_
  refine o_y (y_eql_nil rfl rfl) rfl ?_
  refine o_y (y_pick_f rfl rfl) rfl ?_
  refine o_nil ?_
  refine f_seq ?_
  refine c_false rfl ?_
  refine c_skip ?_
  refine f_seq ?_
  refine c_seq ?_
  refine c_region ?_
  refine o_y (y_move rfl) rfl ?_
  refine o_call rfl hop (by repeat (first | with_reducible exact Takes.nil | (apply Takes.cons; focus (repeat (first | with_reducible exact Rem.here | apply Rem.there))))) rfl ?_
  rintro _ _ ⟨p, rfl, rfl⟩
  simp only [List.append_eq, List.cons_append, List.nil_append, List.append_nil, tup]
  refine o_y (y_move rfl) rfl ?_
  refine o_y (y_extract rfl rfl) rfl ?_
  refine o_y (y_extract rfl rfl) rfl ?_
  refine o_y (y_assign rfl) rfl ?_
  refine o_y (y_assign rfl) rfl ?_
  refine o_nil ?_
  refine f_seq ?_
  refine c_seq ?_
  refine c_seq ?_
  refine c_region ?_
  refine o_y (y_move rfl) rfl ?_
  refine o_y (y_neq_f rfl rfl (by omega)) rfl ?_
  refine o_nil ?_
  refine f_seq ?_
  refine c_false rfl ?_
  refine c_skip ?_
  refine f_seq ?_
  refine c_seq ?_
  refine c_region ?_
  refine o_y (y_move rfl) rfl ?_
  refine o_y (y_move rfl) rfl ?_
  refine o_y (y_assign rfl) rfl ?_
  refine o_y (y_assign rfl) rfl ?_
  refine o_nil ?_
  refine f_seq ?_
  refine c_ret ?_
  exact f_ent (by repeat (first | with_reducible exact Ent.nil | (apply Ent.one; focus (repeat (first | with_reducible exact Rem.here | apply Rem.there))))) (f_ret rfl ⟨p, d, rfl, rfl⟩)

set_option maxHeartbeats 1600000 in
theorem few8_f (x : AP) : Fn Tryz.prog 20 [x.val] [KP x] (fun v L => v = .bool x.few ∧ L = [KP x]) := by
  refine fn_start Tryz.func20 rfl rfl rfl fun F => ?_
  obtain ⟨kind, of_, link, no, root, epoch, ca, cc, cells⟩ := x
  simp only [AP.val, AP.cellsV, AP.few, KP]
  refine c_seq ?_
  refine c_region ?_
  refine o_box rfl rfl (fun xb => ?_)
  refine o_y (y_assign rfl) rfl ?_
  refine o_nil ?_
  refine f_seq ?_
  by_cases h : cells.length ≤ 130
  case neg =>
    rw [decide_eq_false h]
    refine c_seq ?_
    refine c_seq ?_
    refine c_region ?_
    refine o_y (y_fieldAddr0 rfl) rfl ?_
    refine o_y (y_load rfl rfl rfl) rfl ?_
    refine o_y (y_len_slice rfl) rfl ?_
    refine o_y (y_gtr_t rfl rfl (by omega)) rfl ?_
    refine o_nil ?_
    refine f_seq ?_
    refine c_true rfl ?_
    refine c_seq ?_
    refine c_region ?_
    refine o_y (y_assign rfl) rfl ?_
    refine o_nil ?_
    refine f_seq ?_
    refine c_ret ?_
    refine f_seq_ret ?_
    exact f_ent (by repeat (first | with_reducible exact Ent.nil | (apply Ent.one; focus (repeat (first | with_reducible exact Rem.here | apply Rem.there))))) (f_ret rfl ⟨rfl, rfl⟩)
  rw [decide_eq_true h, Bool.true_and]
  refine c_seq ?_
  refine c_seq ?_
  refine c_region ?_
  refine o_y (y_fieldAddr0 rfl) rfl ?_
  refine o_y (y_load rfl rfl rfl) rfl ?_
  refine o_y (y_len_slice rfl) rfl ?_
  refine o_y (y_gtr_f rfl rfl (by omega)) rfl ?_
  refine o_nil ?_
  refine f_seq ?_
  refine c_false rfl ?_
  refine c_skip ?_
  refine f_seq ?_
  refine c_seq ?_
  refine c_seq ?_
  refine c_region ?_
  refine o_y (y_assign rfl) rfl ?_
  refine o_nil ?_
  refine f_seq ?_
  refine c_block ?_
  refine c_loop_inv (X := Nat) (fun i => i ≤ cells.length ∧ (cells.take i).all (fun c => decide (c.length ≤ 300)) = true) (fun i => cells.length - i)
    (fun i => [Blk xb (.cells ⟨[.int .i64 kind, .int .i64 of_, .int .i64 link, .int .i64 no, .int .i64 root, .int .i64 epoch, .slice ca cells.length cc]⟩ 39 (0, 0)), RowA false strC 1 ca cells])
    (fun i => [(1, .pointer (some ⟨xb, 0, none⟩)), (3, .int .i64 (i : Int))]) 0 ⟨Nat.zero_le _, rfl⟩ (by repeat (first | with_reducible exact Ent.nil | (apply Ent.one; focus (repeat (first | with_reducible exact Rem.here | apply Rem.there))))) (by repeat (first | exact trivial | refine ⟨rfl, ?_⟩)) ?_
  rintro i ⟨hi, ha⟩ ih
  by_cases hlt : i < cells.length
  case neg =>
    clear ih
    rw [List.take_of_length_le (by omega)] at ha
    rw [ha]
    refine c_seq ?_
    refine c_seq ?_
    refine c_region ?_
    refine o_y (y_move rfl) rfl ?_
    refine o_y (y_fieldAddr0 rfl) rfl ?_
    refine o_y (y_load rfl rfl rfl) rfl ?_
    refine o_y (y_len_slice rfl) rfl ?_
    refine o_y (y_lss_f rfl rfl (by omega)) rfl ?_
    refine o_nil ?_
    refine f_seq ?_
    refine c_false rfl ?_
    refine c_exit ?_
    refine f_seq_exit ?_
    refine f_seq_exit ?_
    refine f_block_here ?_
    refine f_seq ?_
    refine c_seq ?_
    refine c_region ?_
    refine o_y (y_assign rfl) rfl ?_
    refine o_nil ?_
    refine f_seq ?_
    refine c_ret ?_
    exact f_ent (by repeat (first | with_reducible exact Ent.nil | (apply Ent.one; focus (repeat (first | with_reducible exact Rem.here | apply Rem.there))))) (f_ret rfl ⟨rfl, rfl⟩)
  case pos =>
  obtain ⟨c, hc⟩ : ∃ c, cells[i]? = some c := ⟨_, List.getElem?_eq_getElem hlt⟩
  have hne : cells ≠ [] := by intro h; rw [h] at hlt; exact absurd hlt (by simp)
  refine c_open (h := RowA.opens (f := strC) hne) (by repeat (first | with_reducible exact Rem.here | apply Rem.there)) (fun y hy2 => ?_)
  obtain ⟨kb, ko, cs, T, fz⟩ := y
  obtain ⟨e1, e2⟩ := hy2
  dsimp only at e1 e2
  subst e1
  have hgt := str_get e2 hc
  simp only [List.append_eq, List.cons_append, List.nil_append, List.append_nil, tup]
  refine c_seq ?_
  refine c_seq ?_
  refine c_region ?_
  refine o_y (y_move rfl) rfl ?_
  refine o_y (y_fieldAddr0 rfl) rfl ?_
  refine o_y (y_load rfl rfl rfl) rfl ?_
  refine o_y (y_len_slice rfl) rfl ?_
  refine o_y (y_lss_t rfl rfl (by omega)) rfl ?_
  refine o_nil ?_
  refine f_seq ?_
  refine c_true rfl ?_
  refine c_skip ?_
  refine f_seq ?_
  refine c_seq ?_
  refine c_block ?_
  refine c_seq ?_
  refine c_region ?_
  refine o_y (y_fieldAddr0 rfl) rfl ?_
  refine o_y (y_load rfl rfl rfl) rfl ?_
  refine o_y (y_move rfl) rfl ?_
  refine o_y (y_indexAddr i rfl rfl rfl hlt) rfl ?_
  refine o_y (y_load rfl rfl hgt) rfl ?_
  by_cases hc3 : c.length ≤ 300
  case neg =>
    clear ih
    have hall : cells.all (fun c => decide (c.length ≤ 300)) = false := by
      rw [List.all_eq_false]
      exact ⟨c, List.mem_of_getElem? hc, by simpa using hc3⟩
    rw [hall]
    refine o_y (y_len_str rfl) rfl ?_
    refine o_y (y_gtr_t rfl rfl (by omega)) rfl ?_
    refine o_nil ?_
    refine f_seq ?_
    refine c_true rfl ?_
    refine c_seq ?_
    refine c_region ?_
    refine o_y (y_assign rfl) rfl ?_
    refine o_nil ?_
    refine f_seq ?_
    refine c_ret ?_
    refine f_block_ret ?_
    refine f_seq_ret ?_
    refine f_seq_ret ?_
    refine f_block_ret ?_
    refine f_seq_ret ?_
    exact f_ent (Ent.put (P := [Bkp false kb (.cells ⟨cs⟩ T fz)]) (by repeat (first | with_reducible exact Takes.nil | (apply Takes.cons; focus (repeat (first | with_reducible exact Rem.here | apply Rem.there))))) (RowA.shut rfl e2) (by repeat (first | with_reducible exact Ent.nil | (apply Ent.one; focus (repeat (first | with_reducible exact Rem.here | apply Rem.there)))))) (f_ret rfl ⟨rfl, rfl⟩)
  refine o_y (y_len_str rfl) rfl ?_
  refine o_y (y_gtr_f rfl rfl (by omega)) rfl ?_
  refine o_nil ?_
  refine f_seq ?_
  refine c_false rfl ?_
  refine c_skip ?_
  refine f_block ?_
  refine f_seq ?_
  refine c_region ?_
  refine o_y (y_move rfl) rfl ?_
  refine o_y (y_arith64 rfl rfl rfl (by omega)) rfl ?_
  refine o_y (y_assign rfl) rfl ?_
  refine o_nil ?_
  refine f_next ?_ (by repeat (first | exact trivial | refine ⟨rfl, ?_⟩)) (ih (i + 1) ⟨hlt, ?_⟩ (by omega))
  · exact Ent.one (by repeat (first | with_reducible exact Rem.here | apply Rem.there)) (Ent.put (P := [Bkp false kb (.cells ⟨cs⟩ T fz)]) (by repeat (first | with_reducible exact Takes.nil | (apply Takes.cons; focus (repeat (first | with_reducible exact Rem.here | apply Rem.there))))) (RowA.shut rfl e2) (by repeat (first | with_reducible exact Ent.nil | (apply Ent.one; focus (repeat (first | with_reducible exact Rem.here | apply Rem.there))))))
  · rw [take_snoc' hc, List.all_append, ha]
    simpa using hc3

def PS.act (S : PS) (x : AP) : PS × Int × Int :=
  if x.kind = 0 then S.new x.of_ x.link x.cells
  else if x.kind = 1 then S.change x.no x.of_ x.link x.cells
  else if x.kind = 2 then ((S.drop x.no).1, 0, (S.drop x.no).2)
  else if x.kind = 3 then ((S.commit x.root).1, 0, (S.commit x.root).2)
  else if x.kind = 4 then (S.abort, 0, 0)
  else if x.kind = 5 then (S.old x.epoch, 0, 0)
  else (S, 0, 0)

/-- What holds of a pager behind so many acts. -/
structure AFit (S : PS) (n : Nat) : Prop where
  pf : PFit S (203 * n)
  cf : CFit S
  lf : LFit S
  e : S.x.e ≤ n + 1
  old : S.oldest ≤ S.x.e
theorem new_up (S : PS) (kind link : Int) (cells : List Bytes) : S.pages ≤ (S.new kind link cells).1.pages ∧ S.D.pages ≤ (S.new kind link cells).1.D.pages ∧ (S.new kind link cells).1.D.most = S.D.most ∧ (S.new kind link cells).1.oldest = S.oldest := by
  obtain ⟨u1, u2, u3⟩ := take_up S
  have u4 : S.take.1.oldest = S.oldest := by
    unfold PS.take
    split
    · rfl
    · split <;> rfl
  have key : ∀ no, S.pages ≤ (S.take.1.write no kind link cells).1.pages ∧ S.D.pages ≤ (S.take.1.write no kind link cells).1.D.pages ∧ (S.take.1.write no kind link cells).1.D.most = S.D.most ∧ (S.take.1.write no kind link cells).1.oldest = S.oldest := fun no => by
    obtain ⟨w1, w2, w3⟩ := write_up S.take.1 no kind link cells
    refine ⟨by omega, by omega, w3.trans u3, ?_⟩
    unfold PS.write
    split <;> exact u4
  unfold PS.new
  split
  · exact ⟨Int.le_refl _, Int.le_refl _, rfl, rfl⟩
  · split
    · exact ⟨u1, u2, u3, u4⟩
    · split <;> exact key _
theorem drop_up (S : PS) (no : Int) : (S.drop no).1.pages = S.pages ∧ (S.drop no).1.D = S.D ∧ (S.drop no).1.oldest = S.oldest := by
  unfold PS.drop
  split
  · split <;> exact ⟨rfl, rfl, rfl⟩
  · exact ⟨rfl, rfl, rfl⟩
theorem change_up (S : PS) (no kind link : Int) (cells : List Bytes) : S.pages ≤ (S.change no kind link cells).1.pages ∧ S.D.pages ≤ (S.change no kind link cells).1.D.pages ∧ (S.change no kind link cells).1.D.most = S.D.most ∧ (S.change no kind link cells).1.oldest = S.oldest := by
  obtain ⟨w1, w2, w3⟩ := write_up S no kind link cells
  have w4 : (S.write no kind link cells).1.oldest = S.oldest := by unfold PS.write; split <;> rfl
  obtain ⟨n1, n2, n3, n4⟩ := new_up S kind link cells
  obtain ⟨d1, d2, d3⟩ := drop_up (S.new kind link cells).1 no
  unfold PS.change
  split
  · split
    · split <;> exact ⟨by dsimp only; omega, by dsimp only; omega, w3, w4⟩
    · split
      · exact ⟨n1, n2, n3, n4⟩
      · exact ⟨by dsimp only; omega, by dsimp only; rw [d2]; exact n2, by dsimp only; rw [d2]; exact n3, d3.trans n4⟩
  · exact ⟨Int.le_refl _, Int.le_refl _, rfl, rfl⟩
theorem CFit.up {S T : PS} (h : CFit S) (hc : T.chain = S.chain) (hp : S.pages ≤ T.pages) : CFit T := ⟨by rw [hc]; intro no hno; have := h.ok no hno; omega, by rw [hc]; exact h.len⟩

theorem relay_old (S : PS) : S.relay.1.oldest = S.oldest := by
  have key : ∀ (n : Nat) (S : PS), S.free.length - S.chain.length * 23 = n → S.lay.1.oldest = S.oldest := fun n => by
    induction n using Nat.strongRecOn with
    | _ n ih =>
      intro S hn
      have u4 : S.take.1.oldest = S.oldest := by
        unfold PS.take
        split
        · rfl
        · split <;> rfl
      rw [PS.lay]
      split
      · rename_i hm
        split
        · exact u4
        · have h3 := take_len S
          have hll : S.link.chain.length = S.chain.length + 1 := by show (S.take.1.chain ++ [S.take.2.1]).length = _; rw [h3.2, List.length_append]; rfl
          have hlf : S.link.free.length ≤ S.free.length := h3.1
          rw [ih (S.link.free.length - S.link.chain.length * 23) (by omega) S.link rfl]
          exact u4
      · rfl
  have k2 : ∀ (T : PS) i, (T.wr i).oldest = T.oldest := fun T i => by
    induction i with
    | zero => rfl
    | succ i ih =>
      show (PS.write _ _ _ _ _).1.oldest = _
      unfold PS.write; split <;> exact ih
  unfold PS.relay
  split
  · exact key _ S.freed rfl
  · exact (k2 _ _).trans (key _ S.freed rfl)

theorem AFit.act {S : PS} {n : Nat} (h : AFit S n) (hn : n ≤ 900000) (x : AP) : AFit (S.act x).1 (n + 1) := by
  obtain ⟨pf, cf, lf, he, ho⟩ := h
  have hm : 203 * (n + 1) = 203 * n + 203 := by omega
  unfold PS.act
  split
  · obtain ⟨u1, u2, u3, u4⟩ := new_up S x.of_ x.link x.cells
    have hs := same_new S x.of_ x.link x.cells
    exact ⟨(pf.new _ _ _).up (by omega), cf.up hs.chain u1, lf.up hs.l u2, by rw [hs.x]; omega, by rw [hs.x, u4]; exact ho⟩
  · split
    · obtain ⟨u1, u2, u3, u4⟩ := change_up S x.no x.of_ x.link x.cells
      have hs := same_change S x.no x.of_ x.link x.cells
      exact ⟨(pf.change _ _ _ _).up (by omega), cf.up hs.chain u1, lf.up hs.l u2, by rw [hs.x]; omega, by rw [hs.x, u4]; exact ho⟩
    · split
      · obtain ⟨u1, u2, u3⟩ := drop_up S x.no
        have hs := same_drop S x.no
        exact ⟨(pf.drop _).up (by omega), cf.up hs.chain (by dsimp only; omega), lf.up hs.l (by dsimp only; rw [u2]; exact Int.le_refl _), by dsimp only; rw [hs.x]; omega, by dsimp only; rw [hs.x, u3]; exact ho⟩
      · split
        · obtain ⟨c1, c2, c3⟩ := commit_fit pf cf lf x.root (by omega)
          obtain ⟨r1, r2, r3, r4, r5, r6⟩ := relay_fit pf cf
          have hro := relay_old S
          refine ⟨c1.up (by omega), c2, c3, ?_, ?_⟩
          · unfold PS.commit
            split
            · dsimp only; omega
            · split
              · show S.relay.1.x.e ≤ _; rw [r6.x]; omega
              · show S.relay.1.x.e + 1 ≤ _; rw [r6.x]; omega
          · unfold PS.commit
            split
            · exact ho
            · split
              · show S.relay.1.oldest ≤ S.relay.1.x.e; rw [r6.x, hro]; exact ho
              · exact Int.le_refl _
        · split
          · obtain ⟨a1, a2, a3⟩ := pf.abort lf
            exact ⟨a1.up (by omega), a2, a3, by show S.x.e ≤ _; omega, ho⟩
          · split
            · exact ⟨(show PFit (S.old x.epoch) (203 * n) from ⟨pf.disk, pf.most, pf.pg, pf.sf, pf.lt, pf.e⟩).up (by omega), ⟨cf.ok, cf.len⟩, ⟨lf.sf, lf.lt, lf.ok, lf.len, lf.pg⟩, by show S.x.e ≤ _; omega, by show min x.epoch S.x.e ≤ S.x.e; omega⟩
            · exact ⟨pf.up (by omega), cf, lf, by dsimp only; omega, ho⟩

theorem fresh_fit (most : Int) (h : 2 ≤ most ∧ most ≤ 4096) : AFit (PS.begin most) 5 := by
  have h1 : DOk ((DS.new most).mk1 2) (0 + 2) := (mk1_fit (D := DS.new most) (k := 0) (dnew_ok most) 2).1
  have h2 : (PS.begin most).D.pages = 2 := rfl
  have hf : (PS.begin most).D.fuse = -3 := rfl
  have hd : DOk (PS.begin most).D (203 * 5) := ⟨rfl, by rw [hf]; decide, by rw [hf]; decide, Nat.zero_le _⟩
  exact ⟨⟨hd, h, ⟨(by decide : (2 : Int) ≤ 2), by rw [h2]; exact (by decide : (2 : Int) ≤ 2), by rw [h2]; exact h.1⟩, SF.nil, fun _ h => (by cases h), ⟨(by decide : (0 : Int) ≤ 1), (by decide : (1 : Int) ≤ 1000000)⟩⟩, ⟨fun _ h => (by cases h), Nat.zero_le _⟩,
    ⟨SF.nil, fun _ h => (by cases h), fun _ h => (by cases h), Nat.zero_le _, ⟨(by decide : (2 : Int) ≤ 2), by rw [h2]; exact (by decide : (2 : Int) ≤ 2)⟩⟩, (by decide : (1 : Int) ≤ ((5 : Nat) : Int) + 1), Int.le_refl _⟩
end Go.Lun

/- Structs of whole numbers compared. -/
namespace Go.Lun

theorem run_part_int {P : Program} {w : World} {t : TypeId} {z : Value} {by_ : Nat} {cs : List Value} {k : Nat} {a : Int} [Ty P t (.int .i64) z 1 by_] (h : cs[k]? = some (.int .i64 a)) : (part t ⟨cs⟩ k).run P w = .ok (.int .i64 a) w := by
  unfold part
  simp only [Sem.run_bind, run_isAgg, aggD, Result.andThen_ok, Bool.false_eq_true, if_false, List.getElem?_toArray, h, Sem.run_pure]

/-- Fields that are whole numbers, one behind another. -/
def IntFs (P : Program) : List Field → Nat → Prop
  | [], _ => True
  | f :: fs, k => (f.name ≠ "_" ∧ f.offset = k ∧ ∃ z b, Ty P f.type (.int .i64) z 1 b) ∧ IntFs P fs (k + 1)
theorem run_eqFields {P : Program} {w : World} (d : Nat) (xs ys : List Value) : ∀ (fs : List Field) (k : Nat) (az bs : List Int), IntFs P fs k → az.length = fs.length → bs.length = fs.length →
    (∀ i a, az[i]? = some a → xs[k + i]? = some (.int .i64 a)) → (∀ i b, bs[i]? = some b → ys[k + i]? = some (.int .i64 b)) → (Op.eqFields (d + 1) ⟨xs⟩ ⟨ys⟩ fs).run P w = .ok (decide (az = bs)) w
  | [], k, [], [], _, _, _, _, _ => by simp [Op.eqFields]
  | f :: fs, k, a :: az, b :: bs, hf, h1, h2, hx, hy => by
    obtain ⟨⟨n1, n2, z, by_, hT⟩, hfs⟩ := hf
    have ih := run_eqFields (w := w) d xs ys fs (k + 1) az bs hfs (by simpa using h1) (by simpa using h2) (fun i c hc => by have := hx (i + 1) c (by simpa using hc); rw [show k + 1 + i = k + (i + 1) by omega]; exact this) (fun i c hc => by have := hy (i + 1) c (by simpa using hc); rw [show k + 1 + i = k + (i + 1) by omega]; exact this)
    have ha := hx 0 a rfl
    have hb := hy 0 b rfl
    rw [Nat.add_zero] at ha hb
    have e1 := run_part_int (P := P) (w := w) (t := f.type) ha
    have e2 := run_part_int (P := P) (w := w) (t := f.type) hb
    rw [Op.eqFields, if_pos n1, n2]
    simp only [Sem.run_bind, e1, e2, Result.andThen_ok, run_equalIn_int w d f.type .i64 .i64 a b hT.und]
    by_cases hab : a = b
    · subst hab
      simp only [beq_self_eq_true, Bool.not_true, Bool.false_eq_true, if_false, ih]
      simp
    · have : (a == b) = false := by simpa using hab
      simp only [this, Bool.not_false, if_true, Sem.run_pure]
      rw [decide_eq_false (fun h => hab (List.cons.inj h).1)]

section
variable {P : Program} {n : Nat} {ds : List Deferred} {F : Fr} {L : List Asrt} {env : Env} {Q : Post} {ops : Array Oper} {rest : List Oper}
variable {dt : Option Tmp} {ty : TypeId} {pos : String} {af : Array Edge} {g : Option (Nat × Bool)}

/-- A struct type of whole numbers. -/
class IntS (P : Program) (t : TypeId) (k : outParam Nat) : Prop where
  und : P.underlying t = some (.struct (P.fieldsOf t))
  guard : P.eqGuardType P.depth t = false
  held : P.stoodInHeld t = false
  fields : IntFs P (P.fieldsOf t).toList 0 ∧ (P.fieldsOf t).toList.length = k
theorem IntS.of {P : Program} {t : TypeId} {k : Nat} {fs : List Field} (h1 : P.underlying t = some (.struct (P.fieldsOf t))) (h2 : P.eqGuardType P.depth t = false) (h3 : P.stoodInHeld t = false) (h4 : P.fieldsOf t = ⟨fs⟩) (h5 : IntFs P fs 0) (h6 : fs.length = k) : IntS P t k :=
  ⟨h1, h2, h3, by rw [h4]; exact ⟨h5, h6⟩⟩
theorem ints_get (az : List Int) (i : Nat) (a : Int) (h : az[i]? = some a) : (az.map fun a => Value.int .i64 a)[0 + i]? = some (.int .i64 a) := by rw [Nat.zero_add, List.getElem?_map, h]; rfl
theorem run_eq_ints {w : World} {t : TypeId} {k : Nat} [hI : IntS P t k] (az bs : List Int) (h1 : az.length = k) (h2 : bs.length = k) : (Op.equalIn 10000 t (.agg ⟨az.map fun a => .int .i64 a⟩) (.agg ⟨bs.map fun b => .int .i64 b⟩)).run P w = .ok (decide (az = bs)) w := by
  rw [show (10000 : Nat) = 9999 + 1 from rfl, run_equalIn_struct w 9999 t _ _ hI.und hI.held]
  exact run_eqFields 9998 _ _ _ 0 az bs hI.fields.1 (h1.trans hI.fields.2.symm) (h2.trans hI.fields.2.symm) (ints_get az) (ints_get bs)
theorem y_eql_ints {xt yt : TypeId} {x y : Operand} {k : Nat} [hI : IntS P xt k] {vs us : List Value} (az bs : List Int) (hx : ev env x = some (.agg ⟨vs⟩)) (hy : ev env y = some (.agg ⟨us⟩)) (hv : vs = az.map fun a => .int .i64 a) (hu : us = bs.map fun a => .int .i64 a) (h1 : Nat.beq az.length k = true) (h2 : Nat.beq bs.length k = true) :
    Yld P n ds F L env ⟨dt, .binOp .eql xt x y yt, ty, pos, af, g⟩ (.bool (decide (az = bs))) := .mk fun w t s kk => by
  have e1 := kk.ev hx
  have e2 := kk.ev hy
  subst hv; subst hu
  simp only [execOp, e1, e2, Sem.run_bind, run_eqGuard_agg w .eql xt x y _ _ hI.guard, Result.andThen_ok, run_eql_struct, run_eq_ints az bs (Nat.eq_of_beq_eq_true h1) (Nat.eq_of_beq_eq_true h2), Sem.run_pure]
end
end Go.Lun

/- The statements of layer 8: what an act does; lists that are the same. -/
namespace Go.Lun
open Go.Proofs

instance : IntS Tryz.prog 29 4 := IntS.of (fs := [{ name := "Epoch", type := 3, offset := 0, embedded := false, tag := "", pkgPath := "", byteOffset := 0 }, { name := "Root", type := 3, offset := 1, embedded := false, tag := "", pkgPath := "", byteOffset := 8 }, { name := "Free", type := 3, offset := 2, embedded := false, tag := "", pkgPath := "", byteOffset := 16 }, { name := "Pages", type := 3, offset := 3, embedded := false, tag := "", pkgPath := "", byteOffset := 24 }]) (by kernel_rfl) (by kernel_rfl) (by kernel_rfl) (by kernel_rfl) ⟨⟨by decide, rfl, _, _, inferInstance⟩, ⟨by decide, rfl, _, _, inferInstance⟩, ⟨by decide, rfl, _, _, inferInstance⟩, ⟨by decide, rfl, _, _, inferInstance⟩, trivial⟩ rfl
instance : IntS Tryz.prog 62 2 := IntS.of (fs := [{ name := "Page", type := 3, offset := 0, embedded := false, tag := "", pkgPath := "", byteOffset := 0 }, { name := "Epoch", type := 3, offset := 1, embedded := false, tag := "", pkgPath := "", byteOffset := 8 }]) (by kernel_rfl) (by kernel_rfl) (by kernel_rfl) (by kernel_rfl) ⟨⟨by decide, rfl, _, _, inferInstance⟩, ⟨by decide, rfl, _, _, inferInstance⟩, trivial⟩ rfl
def SP.nrs (x : SP) : List Int := [x.e, x.root, x.free, x.pages]
variable {p d : Nat}

set_option maxHeartbeats 6400000 in
theorem do8_f (S : PS) (n : Nat) (x : AP) (hx : x.few = true) (h : AFit S n) (hn : n ≤ 1500) :
    Fn Tryz.prog 22 [.pointer (some ⟨p, 0, none⟩), x.val] [PRep p d S, KP x]
    (fun v L => v = .tuple ⟨[.int .i64 (S.act x).2.1, .int .i64 (S.act x).2.2]⟩ ∧ L = [PRep p d (S.act x).1, KP x]) := by
  have hs := AP.small hx
  have hc0 : x.cells.length ≤ 130 := by
    unfold AP.few at hx
    simp only [Bool.and_eq_true, decide_eq_true_eq] at hx
    exact hx.1
  obtain ⟨pf, cf, lf, he, ho⟩ := h
  have hfl := lf.flen pf
  have hcl := lf.len
  refine fn_start Tryz.func22 rfl rfl rfl fun F => ?_
  obtain ⟨kind, of_, link, no, root, epoch, ca, cc, cells⟩ := x
  dsimp only at hs hc0
  simp only [AP.val, AP.cellsV, KP, PS.act]
  clear hx
  refine c_seq ?_
  refine c_region ?_
  refine o_box rfl rfl (fun xb => ?_)
  refine o_y (y_assign rfl) rfl ?_
  refine o_y (y_assign rfl) rfl ?_
  refine o_nil ?_
  refine f_seq ?_
  by_cases k0 : kind = 0
  case pos =>
    simp only [if_pos k0]
    subst k0
    refine c_seq ?_
    refine c_seq ?_
    refine c_region ?_
    refine o_y (y_fieldAddr0 rfl) rfl ?_
    refine o_y (y_load rfl rfl rfl) rfl ?_
    refine o_nil ?_
    refine f_seq ?_
    refine c_block ?_
    refine c_seq ?_
    refine c_region ?_
    refine o_y (y_eql_t rfl rfl (by omega)) rfl ?_
    refine o_y (y_assign rfl) rfl ?_
    refine o_nil ?_
    refine f_seq ?_
    refine c_true rfl ?_
    refine c_seq ?_
    refine c_ent (M := [Blk xb (.cells ⟨[.int .i64 0, .int .i64 of_, .int .i64 link, .int .i64 no, .int .i64 root, .int .i64 epoch, .slice ca cells.length cc]⟩ 39 (0, 0)), RowA false strC 1 ca cells, PRep p d S]) (by repeat (first | with_reducible exact Ent.nil | (apply Ent.one; focus (repeat (first | with_reducible exact Rem.here | apply Rem.there))))) ?_
    refine pl_start [5, 8, 9] Tryz.mixed ?_; intro hd
    refine pl_lock (A := Blk _ _) Rem.here rfl ?_ hd; intro hb0
    refine pl_take (i := 0) rfl (by kernel_rfl) (y_move rfl) ?_ hd; clear hd; intro hd
    refine pl_take (i := 1) rfl (by kernel_rfl) (y_fieldAddr0 rfl) ?_ hd; clear hd; intro hd
    refine pl_take (i := 2) rfl (by kernel_rfl) (y_load rfl rfl rfl) ?_ hd; clear hd; intro hd
    refine pl_take (i := 3) rfl (by kernel_rfl) (y_fieldAddr0 rfl) ?_ hd; clear hd; intro hd
    refine pl_take (i := 4) rfl (by kernel_rfl) (y_load rfl rfl rfl) ?_ hd; clear hd; intro hd
    refine pl_take (i := 6) rfl (by kernel_rfl) (y_fieldAddr0 rfl) ?_ hd; clear hd; intro hd
    refine pl_take (i := 7) rfl (by kernel_rfl) (y_load rfl rfl rfl) ?_ hd; clear hd; intro hd
    refine pl_sole (i := 5) (by kernel_rfl) rfl ?_ hd; clear hd; intro hd
    refine o_buildSlice rfl rfl rfl rfl rfl (fun nb => ?_)
    refine pl_back (by repeat (first | with_reducible exact Owes.nil | with_reducible refine Owes.same ?_ | with_reducible refine Owes.any ?_ | refine Owes.waived 5 (by kernel_rfl) ?_)) ?_ hd; clear hd; intro hd
    refine pl_sole (i := 8) (by kernel_rfl) rfl ?_ hd; clear hd; intro hd
    refine o_ent (Ent.shut (A := Sl 9 1 (some ⟨nb, 0, none⟩) 0 0 []) (P := [Blk nb (.cells ⟨[]⟩ 9 (0, 0))]) (by repeat (first | with_reducible exact Takes.nil | (apply Takes.cons; focus (repeat (first | with_reducible exact Rem.here | apply Rem.there))))) (Sl.shut_zero' nb)) ?_
    refine o_append rfl rfl (Src.row (f := strC) (xs := cells) (a := ca) (cap := cc) (q := false) (fun _ => rfl) (by repeat (first | with_reducible exact Rem.here | apply Rem.there))) (by repeat (first | with_reducible exact Rem.here | apply Rem.there)) (strs_one cells) (by omega) rfl (by omega) rfl (fun a' cap' => ?_)
    simp only [Nat.zero_add, List.nil_append]
    refine pl_back (by repeat (first | with_reducible exact Owes.nil | with_reducible refine Owes.same ?_ | with_reducible refine Owes.any ?_ | refine Owes.waived 8 (by kernel_rfl) ?_ | refine Owes.waived 5 (by kernel_rfl) ?_)) ?_ hd; clear hd; intro hd
    refine pl_sole (i := 9) (by kernel_rfl) rfl ?_ hd; clear hd; intro hd
    refine o_shareSl (a := a') (cap := cap') strC cells (by repeat (first | with_reducible exact Rem.here | apply Rem.there)) rfl rfl ?_
    refine o_call rfl (new_p S false a' cap' (203 * n) of_ link cells hs pf (by omega)) (by repeat (first | with_reducible exact Takes.nil | (apply Takes.cons; focus (repeat (first | with_reducible exact Rem.here | apply Rem.there))))) rfl ?_
    rintro _ _ ⟨rfl, rfl⟩
    simp only [List.append_eq, List.cons_append, List.nil_append, List.append_nil, tup]
    refine pl_back (by repeat (first | with_reducible exact Owes.nil | with_reducible refine Owes.same ?_ | with_reducible refine Owes.any ?_ | refine Owes.waived 9 (by kernel_rfl) ?_ | refine Owes.waived 8 (by kernel_rfl) ?_ | refine Owes.waived 5 (by kernel_rfl) ?_)) ?_ hd; clear hd; intro hd
    refine pl_take (i := 10) rfl (by kernel_rfl) (y_extract rfl rfl) ?_ hd; clear hd; intro hd
    refine pl_take (i := 11) rfl (by kernel_rfl) (y_extract rfl rfl) ?_ hd; clear hd; intro hd
    refine pl_take (i := 12) rfl (by kernel_rfl) (y_assign rfl) ?_ hd; clear hd; intro hd
    refine pl_take (i := 13) rfl (by kernel_rfl) (y_assign rfl) ?_ hd; clear hd; intro hd
    refine pl_done (by kernel_rfl) ?_ hd
    refine f_unlock (A := Blk _ _) ?_
    refine f_seq ?_
    refine c_ret ?_
    refine f_block_ret ?_
    refine f_seq_ret ?_
    exact f_ent (by repeat (first | with_reducible exact Ent.nil | (apply Ent.one; focus (repeat (first | with_reducible exact Rem.here | apply Rem.there))))) (f_ret rfl ⟨rfl, rfl⟩)
  by_cases k1 : kind = 1
  case pos =>
    simp only [if_neg k0, if_pos k1]
    subst k1
    refine c_seq ?_
    refine c_seq ?_
    refine c_region ?_
    refine o_y (y_fieldAddr0 rfl) rfl ?_
    refine o_y (y_load rfl rfl rfl) rfl ?_
    refine o_nil ?_
    refine f_seq ?_
    refine c_block ?_
    refine c_seq ?_
    refine c_region ?_
    refine o_y (y_eql_f rfl rfl (by omega)) rfl ?_
    refine o_y (y_assign rfl) rfl ?_
    refine o_nil ?_
    refine f_seq ?_
    refine c_false rfl ?_
    refine c_seq ?_
    refine c_region ?_
    refine o_y (y_eql_t rfl rfl (by omega)) rfl ?_
    refine o_y (y_assign rfl) rfl ?_
    refine o_nil ?_
    refine f_seq ?_
    refine c_true rfl ?_
    refine c_seq ?_
    refine c_ent (M := [Blk xb (.cells ⟨[.int .i64 1, .int .i64 of_, .int .i64 link, .int .i64 no, .int .i64 root, .int .i64 epoch, .slice ca cells.length cc]⟩ 39 (0, 0)), RowA false strC 1 ca cells, PRep p d S]) (by repeat (first | with_reducible exact Ent.nil | (apply Ent.one; focus (repeat (first | with_reducible exact Rem.here | apply Rem.there))))) ?_
    refine pl_start [7, 10, 11] Tryz.mixed ?_; intro hd
    refine pl_lock (A := Blk _ _) Rem.here rfl ?_ hd; intro hb0
    refine pl_take (i := 0) rfl (by kernel_rfl) (y_move rfl) ?_ hd; clear hd; intro hd
    refine pl_take (i := 1) rfl (by kernel_rfl) (y_fieldAddr0 rfl) ?_ hd; clear hd; intro hd
    refine pl_take (i := 2) rfl (by kernel_rfl) (y_load rfl rfl rfl) ?_ hd; clear hd; intro hd
    refine pl_take (i := 3) rfl (by kernel_rfl) (y_fieldAddr0 rfl) ?_ hd; clear hd; intro hd
    refine pl_take (i := 4) rfl (by kernel_rfl) (y_load rfl rfl rfl) ?_ hd; clear hd; intro hd
    refine pl_take (i := 5) rfl (by kernel_rfl) (y_fieldAddr0 rfl) ?_ hd; clear hd; intro hd
    refine pl_take (i := 6) rfl (by kernel_rfl) (y_load rfl rfl rfl) ?_ hd; clear hd; intro hd
    refine pl_take (i := 8) rfl (by kernel_rfl) (y_fieldAddr0 rfl) ?_ hd; clear hd; intro hd
    refine pl_take (i := 9) rfl (by kernel_rfl) (y_load rfl rfl rfl) ?_ hd; clear hd; intro hd
    refine pl_sole (i := 7) (by kernel_rfl) rfl ?_ hd; clear hd; intro hd
    refine o_buildSlice rfl rfl rfl rfl rfl (fun nb => ?_)
    refine pl_back (by repeat (first | with_reducible exact Owes.nil | with_reducible refine Owes.same ?_ | with_reducible refine Owes.any ?_ | refine Owes.waived 7 (by kernel_rfl) ?_)) ?_ hd; clear hd; intro hd
    refine pl_sole (i := 10) (by kernel_rfl) rfl ?_ hd; clear hd; intro hd
    refine o_ent (Ent.shut (A := Sl 9 1 (some ⟨nb, 0, none⟩) 0 0 []) (P := [Blk nb (.cells ⟨[]⟩ 9 (0, 0))]) (by repeat (first | with_reducible exact Takes.nil | (apply Takes.cons; focus (repeat (first | with_reducible exact Rem.here | apply Rem.there))))) (Sl.shut_zero' nb)) ?_
    refine o_append rfl rfl (Src.row (f := strC) (xs := cells) (a := ca) (cap := cc) (q := false) (fun _ => rfl) (by repeat (first | with_reducible exact Rem.here | apply Rem.there))) (by repeat (first | with_reducible exact Rem.here | apply Rem.there)) (strs_one cells) (by omega) rfl (by omega) rfl (fun a' cap' => ?_)
    simp only [Nat.zero_add, List.nil_append]
    refine pl_back (by repeat (first | with_reducible exact Owes.nil | with_reducible refine Owes.same ?_ | with_reducible refine Owes.any ?_ | refine Owes.waived 10 (by kernel_rfl) ?_ | refine Owes.waived 7 (by kernel_rfl) ?_)) ?_ hd; clear hd; intro hd
    refine pl_sole (i := 11) (by kernel_rfl) rfl ?_ hd; clear hd; intro hd
    refine o_shareSl (a := a') (cap := cap') strC cells (by repeat (first | with_reducible exact Rem.here | apply Rem.there)) rfl rfl ?_
    refine o_call rfl (change_p S false a' cap' (203 * n) no of_ link cells hs pf (by omega)) (by repeat (first | with_reducible exact Takes.nil | (apply Takes.cons; focus (repeat (first | with_reducible exact Rem.here | apply Rem.there))))) rfl ?_
    rintro _ _ ⟨rfl, rfl⟩
    simp only [List.append_eq, List.cons_append, List.nil_append, List.append_nil, tup]
    refine pl_back (by repeat (first | with_reducible exact Owes.nil | with_reducible refine Owes.same ?_ | with_reducible refine Owes.any ?_ | refine Owes.waived 11 (by kernel_rfl) ?_ | refine Owes.waived 10 (by kernel_rfl) ?_ | refine Owes.waived 7 (by kernel_rfl) ?_)) ?_ hd; clear hd; intro hd
    refine pl_take (i := 12) rfl (by kernel_rfl) (y_extract rfl rfl) ?_ hd; clear hd; intro hd
    refine pl_take (i := 13) rfl (by kernel_rfl) (y_extract rfl rfl) ?_ hd; clear hd; intro hd
    refine pl_take (i := 14) rfl (by kernel_rfl) (y_assign rfl) ?_ hd; clear hd; intro hd
    refine pl_take (i := 15) rfl (by kernel_rfl) (y_assign rfl) ?_ hd; clear hd; intro hd
    refine pl_done (by kernel_rfl) ?_ hd
    refine f_unlock (A := Blk _ _) ?_
    refine f_seq ?_
    refine c_ret ?_
    refine f_block_ret ?_
    refine f_seq_ret ?_
    exact f_ent (by repeat (first | with_reducible exact Ent.nil | (apply Ent.one; focus (repeat (first | with_reducible exact Rem.here | apply Rem.there))))) (f_ret rfl ⟨rfl, rfl⟩)
  by_cases k2 : kind = 2
  case pos =>
    simp only [if_neg k0, if_neg k1, if_pos k2]
    refine c_seq ?_
    refine c_seq ?_
    refine c_region ?_
    refine o_y (y_fieldAddr0 rfl) rfl ?_
    refine o_y (y_load rfl rfl rfl) rfl ?_
    refine o_nil ?_
    refine f_seq ?_
    refine c_block ?_
    refine c_seq ?_
    refine c_region ?_
    refine o_y (y_eql_f rfl rfl (by omega)) rfl ?_
    refine o_y (y_assign rfl) rfl ?_
    refine o_nil ?_
    refine f_seq ?_
    refine c_false rfl ?_
    refine c_seq ?_
    refine c_region ?_
    refine o_y (y_eql_f rfl rfl (by omega)) rfl ?_
    refine o_y (y_assign rfl) rfl ?_
    refine o_nil ?_
    refine f_seq ?_
    refine c_false rfl ?_
    refine c_seq ?_
    refine c_region ?_
    refine o_y (y_eql_t rfl rfl (by omega)) rfl ?_
    refine o_y (y_assign rfl) rfl ?_
    refine o_nil ?_
    refine f_seq ?_
    refine c_true rfl ?_
    refine c_seq ?_
    refine c_region ?_
    refine o_y (y_move rfl) rfl ?_
    refine o_y (y_fieldAddr0 rfl) rfl ?_
    refine o_y (y_load rfl rfl rfl) rfl ?_
    refine o_call rfl (drop_p S (203 * n) no pf) (by repeat (first | with_reducible exact Takes.nil | (apply Takes.cons; focus (repeat (first | with_reducible exact Rem.here | apply Rem.there))))) rfl ?_
    rintro _ _ ⟨rfl, rfl⟩
    simp only [List.append_eq, List.cons_append, List.nil_append, List.append_nil, tup]
    refine o_y (y_assign rfl) rfl ?_
    refine o_y (y_assign rfl) rfl ?_
    refine o_nil ?_
    refine f_seq ?_
    refine c_ret ?_
    refine f_block_ret ?_
    refine f_seq_ret ?_
    exact f_ent (by repeat (first | with_reducible exact Ent.nil | (apply Ent.one; focus (repeat (first | with_reducible exact Rem.here | apply Rem.there))))) (f_ret rfl ⟨rfl, rfl⟩)
  by_cases k3 : kind = 3
  case pos =>
    simp only [if_neg k0, if_neg k1, if_neg k2, if_pos k3]
    refine c_seq ?_
    refine c_seq ?_
    refine c_region ?_
    refine o_y (y_fieldAddr0 rfl) rfl ?_
    refine o_y (y_load rfl rfl rfl) rfl ?_
    refine o_nil ?_
    refine f_seq ?_
    refine c_block ?_
    refine c_seq ?_
    refine c_region ?_
    refine o_y (y_eql_f rfl rfl (by omega)) rfl ?_
    refine o_y (y_assign rfl) rfl ?_
    refine o_nil ?_
    refine f_seq ?_
    refine c_false rfl ?_
    refine c_seq ?_
    refine c_region ?_
    refine o_y (y_eql_f rfl rfl (by omega)) rfl ?_
    refine o_y (y_assign rfl) rfl ?_
    refine o_nil ?_
    refine f_seq ?_
    refine c_false rfl ?_
    refine c_seq ?_
    refine c_region ?_
    refine o_y (y_eql_f rfl rfl (by omega)) rfl ?_
    refine o_y (y_assign rfl) rfl ?_
    refine o_nil ?_
    refine f_seq ?_
    refine c_false rfl ?_
    refine c_seq ?_
    refine c_region ?_
    refine o_y (y_eql_t rfl rfl (by omega)) rfl ?_
    refine o_y (y_assign rfl) rfl ?_
    refine o_nil ?_
    refine f_seq ?_
    refine c_true rfl ?_
    refine c_seq ?_
    refine c_region ?_
    refine o_y (y_move rfl) rfl ?_
    refine o_y (y_fieldAddr0 rfl) rfl ?_
    refine o_y (y_load rfl rfl rfl) rfl ?_
    refine o_call rfl (commit_p S (203 * n) root pf cf lf (by omega)) (by repeat (first | with_reducible exact Takes.nil | (apply Takes.cons; focus (repeat (first | with_reducible exact Rem.here | apply Rem.there))))) rfl ?_
    rintro _ _ ⟨rfl, rfl⟩
    simp only [List.append_eq, List.cons_append, List.nil_append, List.append_nil, tup]
    refine o_y (y_assign rfl) rfl ?_
    refine o_y (y_assign rfl) rfl ?_
    refine o_nil ?_
    refine f_seq ?_
    refine c_ret ?_
    refine f_block_ret ?_
    refine f_seq_ret ?_
    exact f_ent (by repeat (first | with_reducible exact Ent.nil | (apply Ent.one; focus (repeat (first | with_reducible exact Rem.here | apply Rem.there))))) (f_ret rfl ⟨rfl, rfl⟩)
  by_cases k4 : kind = 4
  case pos =>
    simp only [if_neg k0, if_neg k1, if_neg k2, if_neg k3, if_pos k4]
    refine c_seq ?_
    refine c_seq ?_
    refine c_region ?_
    refine o_y (y_fieldAddr0 rfl) rfl ?_
    refine o_y (y_load rfl rfl rfl) rfl ?_
    refine o_nil ?_
    refine f_seq ?_
    refine c_block ?_
    refine c_seq ?_
    refine c_region ?_
    refine o_y (y_eql_f rfl rfl (by omega)) rfl ?_
    refine o_y (y_assign rfl) rfl ?_
    refine o_nil ?_
    refine f_seq ?_
    refine c_false rfl ?_
    refine c_seq ?_
    refine c_region ?_
    refine o_y (y_eql_f rfl rfl (by omega)) rfl ?_
    refine o_y (y_assign rfl) rfl ?_
    refine o_nil ?_
    refine f_seq ?_
    refine c_false rfl ?_
    refine c_seq ?_
    refine c_region ?_
    refine o_y (y_eql_f rfl rfl (by omega)) rfl ?_
    refine o_y (y_assign rfl) rfl ?_
    refine o_nil ?_
    refine f_seq ?_
    refine c_false rfl ?_
    refine c_seq ?_
    refine c_region ?_
    refine o_y (y_eql_f rfl rfl (by omega)) rfl ?_
    refine o_y (y_assign rfl) rfl ?_
    refine o_nil ?_
    refine f_seq ?_
    refine c_false rfl ?_
    refine c_seq ?_
    refine c_region ?_
    refine o_y (y_eql_t rfl rfl (by omega)) rfl ?_
    refine o_y (y_assign rfl) rfl ?_
    refine o_nil ?_
    refine f_seq ?_
    refine c_true rfl ?_
    refine c_region ?_
    refine o_y (y_move rfl) rfl ?_
    refine o_call rfl (abort_p S (by omega) (by omega)) (by repeat (first | with_reducible exact Takes.nil | (apply Takes.cons; focus (repeat (first | with_reducible exact Rem.here | apply Rem.there))))) rfl ?_
    rintro _ _ ⟨rfl, rfl⟩
    simp only [List.append_eq, List.cons_append, List.nil_append, List.append_nil, tup]
    refine o_nil ?_
    refine f_block ?_
    refine f_seq ?_
    refine c_seq ?_
    refine c_region ?_
    refine o_y (y_assign rfl) rfl ?_
    refine o_y (y_assign rfl) rfl ?_
    refine o_nil ?_
    refine f_seq ?_
    refine c_ret ?_
    exact f_ent (by repeat (first | with_reducible exact Ent.nil | (apply Ent.one; focus (repeat (first | with_reducible exact Rem.here | apply Rem.there))))) (f_ret rfl ⟨rfl, rfl⟩)
  by_cases k5 : kind = 5
  case pos =>
    simp only [if_neg k0, if_neg k1, if_neg k2, if_neg k3, if_neg k4, if_pos k5]
    refine c_seq ?_
    refine c_seq ?_
    refine c_region ?_
    refine o_y (y_fieldAddr0 rfl) rfl ?_
    refine o_y (y_load rfl rfl rfl) rfl ?_
    refine o_nil ?_
    refine f_seq ?_
    refine c_block ?_
    refine c_seq ?_
    refine c_region ?_
    refine o_y (y_eql_f rfl rfl (by omega)) rfl ?_
    refine o_y (y_assign rfl) rfl ?_
    refine o_nil ?_
    refine f_seq ?_
    refine c_false rfl ?_
    refine c_seq ?_
    refine c_region ?_
    refine o_y (y_eql_f rfl rfl (by omega)) rfl ?_
    refine o_y (y_assign rfl) rfl ?_
    refine o_nil ?_
    refine f_seq ?_
    refine c_false rfl ?_
    refine c_seq ?_
    refine c_region ?_
    refine o_y (y_eql_f rfl rfl (by omega)) rfl ?_
    refine o_y (y_assign rfl) rfl ?_
    refine o_nil ?_
    refine f_seq ?_
    refine c_false rfl ?_
    refine c_seq ?_
    refine c_region ?_
    refine o_y (y_eql_f rfl rfl (by omega)) rfl ?_
    refine o_y (y_assign rfl) rfl ?_
    refine o_nil ?_
    refine f_seq ?_
    refine c_false rfl ?_
    refine c_seq ?_
    refine c_region ?_
    refine o_y (y_eql_f rfl rfl (by omega)) rfl ?_
    refine o_y (y_assign rfl) rfl ?_
    refine o_nil ?_
    refine f_seq ?_
    refine c_false rfl ?_
    refine c_seq ?_
    refine c_region ?_
    refine o_y (y_eql_t rfl rfl (by omega)) rfl ?_
    refine o_y (y_assign rfl) rfl ?_
    refine o_nil ?_
    refine f_seq ?_
    refine c_true rfl ?_
    refine c_region ?_
    refine o_y (y_move rfl) rfl ?_
    refine o_y (y_fieldAddr0 rfl) rfl ?_
    refine o_y (y_load rfl rfl rfl) rfl ?_
    refine o_call rfl (oldest_p S epoch) (by repeat (first | with_reducible exact Takes.nil | (apply Takes.cons; focus (repeat (first | with_reducible exact Rem.here | apply Rem.there))))) rfl ?_
    rintro _ _ ⟨rfl, rfl⟩
    simp only [List.append_eq, List.cons_append, List.nil_append, List.append_nil, tup]
    refine o_nil ?_
    refine f_block ?_
    refine f_seq ?_
    refine c_seq ?_
    refine c_region ?_
    refine o_y (y_assign rfl) rfl ?_
    refine o_y (y_assign rfl) rfl ?_
    refine o_nil ?_
    refine f_seq ?_
    refine c_ret ?_
    exact f_ent (by repeat (first | with_reducible exact Ent.nil | (apply Ent.one; focus (repeat (first | with_reducible exact Rem.here | apply Rem.there))))) (f_ret rfl ⟨rfl, rfl⟩)
  simp only [if_neg k0, if_neg k1, if_neg k2, if_neg k3, if_neg k4, if_neg k5]
  refine c_seq ?_
  refine c_seq ?_
  refine c_region ?_
  refine o_y (y_fieldAddr0 rfl) rfl ?_
  refine o_y (y_load rfl rfl rfl) rfl ?_
  refine o_nil ?_
  refine f_seq ?_
  refine c_block ?_
  refine c_seq ?_
  refine c_region ?_
  refine o_y (y_eql_f rfl rfl (by omega)) rfl ?_
  refine o_y (y_assign rfl) rfl ?_
  refine o_nil ?_
  refine f_seq ?_
  refine c_false rfl ?_
  refine c_seq ?_
  refine c_region ?_
  refine o_y (y_eql_f rfl rfl (by omega)) rfl ?_
  refine o_y (y_assign rfl) rfl ?_
  refine o_nil ?_
  refine f_seq ?_
  refine c_false rfl ?_
  refine c_seq ?_
  refine c_region ?_
  refine o_y (y_eql_f rfl rfl (by omega)) rfl ?_
  refine o_y (y_assign rfl) rfl ?_
  refine o_nil ?_
  refine f_seq ?_
  refine c_false rfl ?_
  refine c_seq ?_
  refine c_region ?_
  refine o_y (y_eql_f rfl rfl (by omega)) rfl ?_
  refine o_y (y_assign rfl) rfl ?_
  refine o_nil ?_
  refine f_seq ?_
  refine c_false rfl ?_
  refine c_seq ?_
  refine c_region ?_
  refine o_y (y_eql_f rfl rfl (by omega)) rfl ?_
  refine o_y (y_assign rfl) rfl ?_
  refine o_nil ?_
  refine f_seq ?_
  refine c_false rfl ?_
  refine c_seq ?_
  refine c_region ?_
  refine o_y (y_eql_f rfl rfl (by omega)) rfl ?_
  refine o_y (y_assign rfl) rfl ?_
  refine o_nil ?_
  refine f_seq ?_
  refine c_false rfl ?_
  refine c_skip ?_
  refine f_block ?_
  refine f_seq ?_
  refine c_seq ?_
  refine c_region ?_
  refine o_y (y_assign rfl) rfl ?_
  refine o_y (y_assign rfl) rfl ?_
  refine o_nil ?_
  refine f_seq ?_
  refine c_ret ?_
  exact f_ent (by repeat (first | with_reducible exact Ent.nil | (apply Ent.one; focus (repeat (first | with_reducible exact Rem.here | apply Rem.there))))) (f_ret rfl ⟨rfl, rfl⟩)

theorem pages_r (rb s : Nat) (n : Int) : Fn Tryz.prog 30 [.pointer (some ⟨rb, 0, none⟩)] [Blk rb (robj d s n)] (fun v L => v = .int .i64 n ∧ L = [Blk rb (robj d s n)]) := by
  refine fn_start Tryz.func30 rfl rfl rfl fun F => ?_
  refine c_seq ?_
  refine c_region ?_
  refine o_y (y_assign rfl) rfl ?_
  refine o_nil ?_
  refine f_seq ?_
  refine c_seq ?_
  refine c_region ?_
  refine o_y (y_move rfl) rfl ?_
  refine o_y (y_nilCheck rfl) rfl ?_
  refine o_y (y_fieldAddr0 rfl) rfl ?_
  refine o_y (y_load rfl rfl rfl) rfl ?_
  refine o_y (y_assign rfl) rfl ?_
  refine o_nil ?_
  refine f_seq ?_
  refine c_ret ?_
  exact f_ret rfl ⟨rfl, rfl⟩

end Go.Lun

/- The statements of layer 8: the chapter's example, reckoned. -/
namespace Go.Lun
open Go.Proofs

def A0 : PS := PS.begin 20
def A1 : PS := (A0.new 1 0 [[120]]).1
def A2 : PS := (A1.commit 2).1
def A3 : PS := (A2.change 2 1 0 [[121]]).1
def A4 : PS := (A3.commit 3).1
theorem aw1 : (A0.new 1 0 [[120]]).2 = (2, 0) := by kernel_rfl
theorem aw2 : (A1.commit 2).2 = 0 := by kernel_rfl
theorem aw2x : A2.x = ⟨2, 2, 0, 3⟩ := by kernel_rfl
theorem aw3 : (A2.change 2 1 0 [[121]]).2 = (3, 0) := by kernel_rfl
theorem aw4 : (A3.commit 3).2 = 0 := by kernel_rfl
theorem aw4x : A4.x = ⟨3, 3, 4, 5⟩ := by kernel_rfl
theorem aw4f : A4.free = [⟨2, 3⟩] := by kernel_rfl
theorem aw4c : A4.chain = [4] := by kernel_rfl
theorem aw4p : A4.pages = 5 := by kernel_rfl
theorem aw4r : A4.D.pg 5 3 = (0, some ⟨1, 3, 3, 0, [[121]]⟩) := by kernel_rfl
end Go.Lun

/- The statements of layer 8: awake. -/
namespace Go.Lun
open Go.Proofs

section
variable {P : Program} {n : Nat} {ds : List Deferred} {F : Fr} {L : List Asrt} {env : Env} {Q : Post} {ops : Array Oper} {rest : List Oper}
variable {dt : Option Tmp} {ty : TypeId} {pos : String} {af : Array Edge} {g : Option (Nat × Bool)}
theorem IntFs.at {P : Program} : ∀ {fs : List Field} {k i : Nat}, IntFs P fs k → i < fs.length → ∃ f, fs[i]? = some f ∧ f.offset = k + i ∧ ∃ z b, Ty P f.type (.int .i64) z 1 b
  | f :: fs, k, 0, h, _ => ⟨f, rfl, h.1.2.1, h.1.2.2⟩
  | f :: fs, k, i + 1, h, hi => by
    obtain ⟨g, h1, h2, h3⟩ := IntFs.at (i := i) h.2 (by simpa using hi)
    exact ⟨g, by simpa using h1, by omega, h3⟩
theorem y_fieldI {s : TypeId} {x : Operand} {i k : Nat} {v : Value} {vs : List Value} [hI : IntS P s k] (hx : ev env x = some (.agg ⟨vs⟩)) (hi : Nat.blt i k = true) (hv : vs[i]? = some v) : Yld P n ds F L env ⟨dt, .field s x i, ty, pos, af, g⟩ v := .mk fun w a _ kk => by
  have e1 := kk.ev hx
  have hi' : i < (P.fieldsOf s).toList.length := by rw [hI.fields.2]; simpa [Nat.blt_eq] using hi
  obtain ⟨f, h1, h2, z, b, hT⟩ := IntFs.at hI.fields.1 hi'
  have h1' : (P.fieldsOf s)[i]? = some f := by rw [← h1]; exact (Array.getElem?_toList ..).symm
  have hu : (underlying s).run P w = .ok (.struct (P.fieldsOf s)) w := by simp [underlying, hI.und]
  rw [Nat.zero_add] at h2
  simp only [execOp, e1, Instr.field, Sem.run_bind, hu, Result.andThen_ok, h1', asAgg, Sem.run_pure, part, run_isAgg, aggD, Bool.false_eq_true, if_false, List.getElem?_toArray, h2, hv]
end

variable {p d : Nat}

set_option maxHeartbeats 12800000 in
theorem awake8_f : Fn Tryz.prog 18 [] [] (fun v L => v = .bool true ∧ L = []) := by
  refine fn_start Tryz.func18 rfl rfl rfl fun F => ?_
  have f0 := fresh_fit 20 (by decide)
  have f1 : AFit A1 6 := by have := f0.act (by decide) ⟨0, 1, 0, 0, 0, 0, none, 0, [[120]]⟩; exact this
  have f2 : AFit A2 7 := by have := f1.act (by decide) ⟨3, 0, 0, 0, 2, 0, none, 0, []⟩; exact this
  have f3 : AFit A3 8 := by have := f2.act (by decide) ⟨1, 1, 0, 2, 0, 0, none, 0, [[121]]⟩; exact this
  have f4 : AFit A4 9 := by have := f3.act (by decide) ⟨3, 0, 0, 0, 3, 0, none, 0, []⟩; exact this
  have w1 := aw1; have w2 := aw2; have w2x := aw2x; have w3 := aw3; have w4 := aw4; have w4x := aw4x; have w4f := aw4f; have w4c := aw4c; have w4p := aw4p; have w4r := aw4r
  have s1 : Small [([120] : Bytes)] := ⟨by decide, by decide⟩
  have s2 : Small [([121] : Bytes)] := ⟨by decide, by decide⟩
  have hx0 : (PS.begin 20).x.e = 1 := rfl
  have e1 : (PS.begin 20).new 1 0 [[120]] = (A1, 2, 0) := Prod.ext rfl w1
  have e2 : A1.commit 2 = (A2, 0) := Prod.ext rfl w2
  have e3 : A2.change 2 1 0 [[121]] = (A3, 3, 0) := Prod.ext rfl w3
  have e4 : A3.commit 3 = (A4, 0) := Prod.ext rfl w4
  clear w1 w2 w3 w4
  generalize A1 = T1 at *
  generalize A2 = T2 at *
  generalize A3 = T3 at *
  generalize A4 = T4 at *
  refine c_seq ?_
  refine c_region ?_
  refine o_y (y_assign rfl) rfl ?_
  refine o_nil ?_
  refine f_seq ?_
  refine c_seq ?_
  refine c_region ?_
  refine o_call rfl (fresh8_f 20 (by decide)) (by repeat (first | with_reducible exact Takes.nil | (apply Takes.cons; focus (repeat (first | with_reducible exact Rem.here | apply Rem.there))))) rfl ?_
  generalize PS.begin 20 = T0 at *
  rintro _ _ ⟨p, d, rfl, rfl⟩
  simp only [List.append_eq, List.cons_append, List.nil_append, List.append_nil, tup]
  refine o_y (y_move rfl) rfl ?_
  refine o_y (y_extract rfl rfl) rfl ?_
  refine o_y (y_extract rfl rfl) rfl ?_
  refine o_y (y_assign rfl) rfl ?_
  refine o_y (y_assign rfl) rfl ?_
  refine o_nil ?_
  refine f_seq ?_
  refine c_seq ?_
  refine c_seq ?_
  refine c_region ?_
  refine o_y (y_move rfl) rfl ?_
  refine o_y (y_eql_nil rfl rfl) rfl ?_
  refine o_y (y_move rfl) rfl ?_
  refine o_want rfl ?_
  refine o_y (y_move rfl) rfl ?_
  refine o_want rfl ?_
  refine o_y (y_eql_nil rfl rfl) rfl ?_
  refine o_y (y_pick_f rfl rfl) rfl ?_
  refine o_y (y_move rfl) rfl ?_
  refine o_want rfl ?_
  refine o_y (y_move rfl) rfl ?_
  refine o_want rfl ?_
  refine o_call rfl (super_p T0) (by repeat (first | with_reducible exact Takes.nil | (apply Takes.cons; focus (repeat (first | with_reducible exact Rem.here | apply Rem.there))))) rfl ?_
  rintro _ _ ⟨rfl, rfl⟩
  simp only [SP.vals, hx0]
  simp only [List.append_eq, List.cons_append, List.nil_append, List.append_nil, tup]
  refine o_want rfl ?_
  refine o_y (y_fieldI rfl rfl rfl) rfl ?_
  refine o_want rfl ?_
  refine o_y (y_neq_f rfl rfl (by omega)) rfl ?_
  refine o_y (y_pick_f rfl rfl) rfl ?_
  refine o_nil ?_
  refine f_seq ?_
  refine c_false rfl ?_
  refine c_skip ?_
  refine f_seq ?_
  refine c_seq ?_
  refine c_region ?_
  refine o_y (y_move rfl) rfl ?_
  refine o_buildSlice rfl rfl rfl rfl rfl (fun nb => ?_)
  rename Nat => nb
  refine o_share (b := nb) (by repeat (first | with_reducible exact Rem.here | apply Rem.there)) ?_
  refine o_ent (M := [PRep p d T0, RowA false strC 1 (some ⟨nb, 0, none⟩) [[120]]]) (Ent.one (by repeat (first | with_reducible exact Rem.here | apply Rem.there)) (Ent.put (P := [Sh nb (.cells ⟨[str [120]]⟩ 9 (0, 0))]) (Takes.cons Rem.here Takes.nil) (RowA.shut rfl rfl) Ent.nil)) ?_
  refine o_call rfl (new_p T0 false (some ⟨nb, 0, none⟩) 1 (203 * 5) 1 0 [[120]] s1 f0.pf (by decide)) (by repeat (first | with_reducible exact Takes.nil | (apply Takes.cons; focus (repeat (first | with_reducible exact Rem.here | apply Rem.there))))) rfl ?_
  rw [e1]
  rintro _ _ ⟨rfl, rfl⟩
  simp only [List.append_eq, List.cons_append, List.nil_append, List.append_nil, tup]
  refine o_y (y_move rfl) rfl ?_
  refine o_y (y_extract rfl rfl) rfl ?_
  refine o_y (y_extract rfl rfl) rfl ?_
  refine o_y (y_assign rfl) rfl ?_
  refine o_y (y_assign rfl) rfl ?_
  refine o_nil ?_
  refine f_seq ?_
  refine c_seq ?_
  refine c_region ?_
  refine o_y (y_move rfl) rfl ?_
  refine o_y (y_move rfl) rfl ?_
  refine o_call rfl (commit_p T1 (203 * 6) 2 f1.pf f1.cf f1.lf (by decide)) (by repeat (first | with_reducible exact Takes.nil | (apply Takes.cons; focus (repeat (first | with_reducible exact Rem.here | apply Rem.there))))) rfl ?_
  rw [e2]
  rintro _ _ ⟨rfl, rfl⟩
  simp only [List.append_eq, List.cons_append, List.nil_append, List.append_nil, tup]
  refine o_y (y_assign rfl) rfl ?_
  refine o_nil ?_
  refine f_seq ?_
  refine c_seq ?_
  refine c_region ?_
  refine o_y (y_move rfl) rfl ?_
  refine o_call rfl (super_p T2) (by repeat (first | with_reducible exact Takes.nil | (apply Takes.cons; focus (repeat (first | with_reducible exact Rem.here | apply Rem.there))))) rfl ?_
  rw [w2x]
  rintro _ _ ⟨rfl, rfl⟩
  simp only [List.append_eq, List.cons_append, List.nil_append, List.append_nil, tup]
  refine o_alloc rfl (fun xb => ?_)
  refine o_store rfl rfl rfl frz0 ?_
  refine o_nil ?_
  refine f_seq ?_
  refine c_seq ?_
  refine c_region ?_
  refine o_y (y_move rfl) rfl ?_
  refine o_y (y_move rfl) rfl ?_
  refine o_buildSlice rfl rfl rfl rfl rfl (fun nb => ?_)
  rename Nat => nb2
  refine o_share (b := nb2) (by repeat (first | with_reducible exact Rem.here | apply Rem.there)) ?_
  refine o_ent (M := [PRep p d T2, RowA false strC 1 (some ⟨nb2, 0, none⟩) [[121]], Blk xb (.cells ⟨[.int .i64 2, .int .i64 2, .int .i64 0, .int .i64 3]⟩ 29 (0, 0))]) (Ent.one (by repeat (first | with_reducible exact Rem.here | apply Rem.there)) (Ent.put (P := [Sh nb2 (.cells ⟨[str [121]]⟩ 9 (0, 0))]) (Takes.cons Rem.here Takes.nil) (RowA.shut rfl rfl) (by repeat (first | with_reducible exact Ent.nil | (apply Ent.one; focus (repeat (first | with_reducible exact Rem.here | apply Rem.there))))))) ?_
  refine o_call rfl (change_p T2 false (some ⟨nb2, 0, none⟩) 1 (203 * 7) 2 1 0 [[121]] s2 f2.pf (by decide)) (by repeat (first | with_reducible exact Takes.nil | (apply Takes.cons; focus (repeat (first | with_reducible exact Rem.here | apply Rem.there))))) rfl ?_
  rw [e3]
  rintro _ _ ⟨rfl, rfl⟩
  simp only [List.append_eq, List.cons_append, List.nil_append, List.append_nil, tup]
  refine o_y (y_move rfl) rfl ?_
  refine o_y (y_extract rfl rfl) rfl ?_
  refine o_y (y_extract rfl rfl) rfl ?_
  refine o_y (y_assign rfl) rfl ?_
  refine o_y (y_assign rfl) rfl ?_
  refine o_nil ?_
  refine f_seq ?_
  refine c_seq ?_
  refine c_region ?_
  refine o_y (y_move rfl) rfl ?_
  refine o_y (y_move rfl) rfl ?_
  refine o_call rfl (commit_p T3 (203 * 8) 3 f3.pf f3.cf f3.lf (by decide)) (by repeat (first | with_reducible exact Takes.nil | (apply Takes.cons; focus (repeat (first | with_reducible exact Rem.here | apply Rem.there))))) rfl ?_
  rw [e4]
  rintro _ _ ⟨rfl, rfl⟩
  simp only [List.append_eq, List.cons_append, List.nil_append, List.append_nil, tup]
  refine o_y (y_assign rfl) rfl ?_
  refine o_nil ?_
  refine f_seq ?_
  refine c_seq ?_
  refine c_region ?_
  refine o_y (y_move rfl) rfl ?_
  refine o_call rfl (free_p T4 (by rw [w4f]; decide)) (by repeat (first | with_reducible exact Takes.nil | (apply Takes.cons; focus (repeat (first | with_reducible exact Rem.here | apply Rem.there))))) rfl ?_
  rw [w4f]
  rintro _ _ ⟨fa, fc, hwf, rfl, rfl⟩
  simp only [List.append_eq, List.cons_append, List.nil_append, List.append_nil, tup]
  refine o_y (y_assign rfl) rfl ?_
  refine o_nil ?_
  refine f_seq ?_
  refine c_seq ?_
  refine c_region ?_
  refine o_y (y_move rfl) rfl ?_
  refine o_y (y_nilCheck rfl) rfl ?_
  refine o_y (y_fieldAddr0 rfl) rfl ?_
  have hpg := f4.pf.pg
  refine o_open (A := PRep p d T4) (by repeat (first | with_reducible exact Rem.here | apply Rem.there)) (fun z hz => ?_)
  obtain ⟨h1, h2, h3⟩ := hz
  obtain ⟨ca, cc, lfa, lfc, la, lc⟩ := z
  dsimp only at h1 h2 h3
  try dsimp only [PZ.frs]
  simp only [List.append_eq, List.cons_append, List.nil_append, List.append_nil, tup]
  refine o_open (A := PCo p d _ _ _ T4) (by repeat (first | with_reducible exact Rem.here | apply Rem.there)) (fun y hy => ?_)
  obtain ⟨rb, s, ga, gc, m, es, ck⟩ := y
  obtain ⟨hwg, him⟩ := hy
  dsimp only at hwg him
  try dsimp only [PY.frs]
  simp only [List.append_eq, List.cons_append, List.nil_append, List.append_nil, tup]
  refine o_y (y_load rfl rfl rfl) rfl ?_
  refine o_y (y_move rfl) rfl ?_
  refine o_call rfl (rread_f rb d s T4.D T4.pages 3 hpg.2.1) (by repeat (first | with_reducible exact Takes.nil | (apply Takes.cons; focus (repeat (first | with_reducible exact Rem.here | apply Rem.there))))) rfl ?_
  rw [w4p, w4r]
  rintro _ _ (⟨hn, _⟩ | ⟨q, qa, qc, hq, herr, hw, rfl, rfl⟩)
  · cases hn
  injection hq with _ hq
  injection hq with hq
  subst hq
  simp only [List.append_eq, List.cons_append, List.nil_append, List.append_nil, tup]
  rw [← w4p]
  refine o_ent (M := [RowA false freeC 2 fa [⟨2, 3⟩], PRep p d T4, RowA false strC 1 qa [[121]], Blk xb (.cells ⟨[.int .i64 2, .int .i64 2, .int .i64 0, .int .i64 3]⟩ 29 (0, 0))]) ?_ ?_
  · refine Ent.one (by repeat (first | with_reducible exact Rem.here | apply Rem.there)) ?_
    refine (Ent.put (by repeat (first | with_reducible exact Takes.nil | (apply Takes.cons; focus (repeat (first | with_reducible exact Rem.here | apply Rem.there))))) (PCo.mk T4 (by exact ⟨rfl, rfl, rfl, rfl, rfl, rfl, rfl⟩) hwg him) (Ent.refl _)).trans ?_
    exact Ent.put (by repeat (first | with_reducible exact Takes.nil | (apply Takes.cons; focus (repeat (first | with_reducible exact Rem.here | apply Rem.there))))) (PRep.mk T4 (by exact ⟨rfl, rfl, rfl, rfl, rfl, rfl, rfl⟩) h1 h2 h3) (by repeat (first | with_reducible exact Ent.nil | (apply Ent.one; focus (repeat (first | with_reducible exact Rem.here | apply Rem.there)))))
  refine o_y (y_move rfl) rfl ?_
  refine o_y (y_extract rfl rfl) rfl ?_
  refine o_y (y_extract rfl rfl) rfl ?_
  refine o_alloc rfl (fun nb => ?_)
  refine o_store rfl rfl rfl frz0 ?_
  refine o_y (y_assign rfl) rfl ?_
  refine o_nil ?_
  refine f_seq ?_
  refine c_seq ?_
  refine c_region ?_
  refine o_y (y_move rfl) rfl ?_
  refine o_y (y_eql_t rfl rfl (by omega)) rfl ?_
  refine o_y (y_move rfl) rfl ?_
  refine o_want rfl ?_
  refine o_y (y_move rfl) rfl ?_
  refine o_want rfl ?_
  refine o_y (y_eql_t rfl rfl (by omega)) rfl ?_
  refine o_y (y_pick_t rfl rfl) rfl ?_
  refine o_y (y_move rfl) rfl ?_
  refine o_want rfl ?_
  refine o_y (y_move rfl) rfl ?_
  refine o_want rfl ?_
  refine o_y (y_eql_t rfl rfl (by omega)) rfl ?_
  refine o_y (y_pick_t rfl rfl) rfl ?_
  refine o_y (y_move rfl) rfl ?_
  refine o_want rfl ?_
  refine o_y (y_fieldAddr0 rfl) rfl ?_
  refine o_want rfl ?_
  refine o_y (y_load rfl rfl rfl) rfl ?_
  refine o_want rfl ?_
  refine o_y (y_eql_t rfl rfl (by omega)) rfl ?_
  refine o_y (y_pick_t rfl rfl) rfl ?_
  refine o_y (y_move rfl) rfl ?_
  refine o_want rfl ?_
  refine o_y (y_fieldAddr0 rfl) rfl ?_
  refine o_want rfl ?_
  refine o_y (y_load rfl rfl rfl) rfl ?_
  refine o_want rfl ?_
  refine o_y (y_eql_t rfl rfl (by omega)) rfl ?_
  refine o_y (y_pick_t rfl rfl) rfl ?_
  refine o_y (y_move rfl) rfl ?_
  refine o_want rfl ?_
  refine o_y (y_move rfl) rfl ?_
  refine o_want rfl ?_
  refine o_y (y_eql_t rfl rfl (by omega)) rfl ?_
  refine o_y (y_pick_t rfl rfl) rfl ?_
  refine o_y (y_move rfl) rfl ?_
  refine o_want rfl ?_
  refine o_y (y_move rfl) rfl ?_
  refine o_want rfl ?_
  refine o_y (y_eql_t rfl rfl (by omega)) rfl ?_
  refine o_y (y_pick_t rfl rfl) rfl ?_
  refine o_y (y_move rfl) rfl ?_
  refine o_want rfl ?_
  refine o_y (y_move rfl) rfl ?_
  refine o_want rfl ?_
  refine o_y (y_eql_t rfl rfl (by omega)) rfl ?_
  refine o_y (y_pick_t rfl rfl) rfl ?_
  refine o_y (y_move rfl) rfl ?_
  refine o_want rfl ?_
  refine o_y (y_move rfl) rfl ?_
  refine o_want rfl ?_
  refine o_call rfl (super_p T4) (by repeat (first | with_reducible exact Takes.nil | (apply Takes.cons; focus (repeat (first | with_reducible exact Rem.here | apply Rem.there))))) rfl ?_
  rw [w4x]
  rintro _ _ ⟨rfl, rfl⟩
  simp only [List.append_eq, List.cons_append, List.nil_append, List.append_nil, tup]
  refine o_want rfl ?_
  refine o_y (y_fieldI rfl rfl rfl) rfl ?_
  refine o_want rfl ?_
  refine o_y (y_cmp rfl rfl rfl) rfl ?_
  refine o_y (y_pick_t rfl rfl) rfl ?_
  refine o_y (y_move rfl) rfl ?_
  refine o_want rfl ?_
  refine o_y (y_move rfl) rfl ?_
  refine o_want rfl ?_
  refine o_y (y_len_slice rfl) rfl ?_
  refine o_want rfl ?_
  refine o_y (y_cmp rfl rfl rfl) rfl ?_
  refine o_y (y_pick_t rfl rfl) rfl ?_
  refine o_y (y_move rfl) rfl ?_
  refine o_want rfl ?_
  refine o_y (y_move rfl) rfl ?_
  refine o_want rfl ?_
  refine o_open (A := RowA false freeC 2 fa [⟨2, 3⟩]) (h := RowA.opens (f := freeC) (by simp)) (by repeat (first | with_reducible exact Rem.here | apply Rem.there)) (fun y2 hy2 => ?_)
  obtain ⟨kb, ko, cs, T, fz⟩ := y2
  obtain ⟨e5, e6⟩ := hy2
  dsimp only at e5 e6
  subst e5
  have hg1 := free_get (i := 0) e6 rfl
  simp only [List.append_eq, List.cons_append, List.nil_append, List.append_nil, tup]
  try refine o_want rfl ?_
  refine o_y (y_indexAddr 0 rfl rfl rfl (by decide)) rfl ?_
  refine o_want rfl ?_
  refine o_y (y_loadN rfl rfl hg1) rfl ?_
  refine o_want rfl ?_
  refine o_y (y_build rfl) rfl ?_
  refine o_want rfl ?_
  refine o_y (y_eql_ints [2, 3] [2, 3] rfl rfl rfl rfl rfl rfl) rfl ?_
  refine o_y (y_pick_t rfl rfl) rfl ?_
  refine o_y (y_move rfl) rfl ?_
  refine o_want rfl ?_
  refine o_y (y_move rfl) rfl ?_
  refine o_want rfl ?_
  refine o_y (y_eql_t rfl rfl (by omega)) rfl ?_
  refine o_y (y_pick_t rfl rfl) rfl ?_
  refine o_y (y_move rfl) rfl ?_
  refine o_want rfl ?_
  refine o_y (y_fieldAddr0 rfl) rfl ?_
  refine o_want rfl ?_
  refine o_y (y_load rfl rfl rfl) rfl ?_
  refine o_want rfl ?_
  refine o_y (y_len_slice rfl) rfl ?_
  refine o_want rfl ?_
  refine o_y (y_cmp rfl rfl rfl) rfl ?_
  refine o_y (y_pick_t rfl rfl) rfl ?_
  refine o_y (y_move rfl) rfl ?_
  refine o_want rfl ?_
  refine o_y (y_fieldAddr0 rfl) rfl ?_
  refine o_want rfl ?_
  refine o_y (y_load rfl rfl rfl) rfl ?_
  refine o_want rfl ?_
  refine o_open (A := RowA false strC 1 qa [[121]]) (h := RowA.opens (f := strC) (by simp)) (by repeat (first | with_reducible exact Rem.here | apply Rem.there)) (fun y2 hy2 => ?_)
  obtain ⟨kb2, ko2, cs2, T2, fz2⟩ := y2
  obtain ⟨e7, e8⟩ := hy2
  dsimp only at e7 e8
  subst e7
  have hg2 := str_get (i := 0) e8 rfl
  simp only [List.append_eq, List.cons_append, List.nil_append, List.append_nil, tup]
  try refine o_want rfl ?_
  refine o_y (y_indexAddr 0 rfl rfl rfl (by decide)) rfl ?_
  refine o_want rfl ?_
  refine o_y (y_load rfl rfl hg2) rfl ?_
  refine o_want rfl ?_
  refine o_y (y_eq_str (op := .eql) (l := [121]) (m := [121]) (c := true) rfl rfl rfl) rfl ?_
  refine o_y (y_pick_t rfl rfl) rfl ?_
  refine o_y (y_move rfl) rfl ?_
  refine o_want rfl ?_
  refine o_y (y_move rfl) rfl ?_
  refine o_want rfl ?_
  refine o_call rfl (chain_p T4 (by rw [w4c]; decide)) (by repeat (first | with_reducible exact Takes.nil | (apply Takes.cons; focus (repeat (first | with_reducible exact Rem.here | apply Rem.there))))) rfl ?_
  rw [w4c]
  rintro _ _ ⟨ca2, cc2, hwc, rfl, rfl⟩
  simp only [List.append_eq, List.cons_append, List.nil_append, List.append_nil, tup]
  refine o_want rfl ?_
  refine o_y (y_len_slice rfl) rfl ?_
  refine o_want rfl ?_
  refine o_y (y_cmp rfl rfl rfl) rfl ?_
  refine o_y (y_pick_t rfl rfl) rfl ?_
  refine o_y (y_move rfl) rfl ?_
  refine o_want rfl ?_
  refine o_y (y_move rfl) rfl ?_
  refine o_want rfl ?_
  refine o_y (y_nilCheck rfl) rfl ?_
  refine o_want rfl ?_
  refine o_y (y_fieldAddr0 rfl) rfl ?_
  refine o_want rfl ?_
  refine o_open (A := PRep p d T4) (by repeat (first | with_reducible exact Rem.here | apply Rem.there)) (fun z hz => ?_)
  obtain ⟨h1, h2, h3⟩ := hz
  obtain ⟨ca, cc, lfa, lfc, la, lc⟩ := z
  dsimp only at h1 h2 h3
  try dsimp only [PZ.frs]
  simp only [List.append_eq, List.cons_append, List.nil_append, List.append_nil, tup]
  refine o_open (A := PCo p d _ _ _ T4) (by repeat (first | with_reducible exact Rem.here | apply Rem.there)) (fun y hy => ?_)
  obtain ⟨rb, s, ga, gc, m, es, ck⟩ := y
  obtain ⟨hwg, him⟩ := hy
  dsimp only at hwg him
  try dsimp only [PY.frs]
  simp only [List.append_eq, List.cons_append, List.nil_append, List.append_nil, tup]
  refine o_y (y_load rfl rfl rfl) rfl ?_
  refine o_want rfl ?_
  refine o_call rfl (pages_r (d := d) rb s T4.pages) (by repeat (first | with_reducible exact Takes.nil | (apply Takes.cons; focus (repeat (first | with_reducible exact Rem.here | apply Rem.there))))) rfl ?_
  rw [w4p]
  rintro _ _ ⟨rfl, rfl⟩
  simp only [List.append_eq, List.cons_append, List.nil_append, List.append_nil, tup]
  refine o_want rfl ?_
  refine o_y (y_eql_t rfl rfl (by omega)) rfl ?_
  refine o_y (y_pick_t rfl rfl) rfl ?_
  refine o_y (y_assign rfl) rfl ?_
  refine o_nil ?_
  refine f_seq ?_
  refine c_ret ?_
  exact f_ent (by repeat (first | with_reducible exact Ent.nil | (apply Ent.one; focus (repeat (first | with_reducible exact Rem.here | apply Rem.there))))) (f_ret rfl ⟨rfl, rfl⟩)
end Go.Lun

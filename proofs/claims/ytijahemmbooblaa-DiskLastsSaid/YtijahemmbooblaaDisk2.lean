/- The disk: what it holds, and what its methods make of it. -/
import Derived.Test.YtijahemmbooblaaPm
namespace Go.Lun
open Go.Proofs

structure DS where
  most : Int
  pages : Int
  last : Int → Option Bytes
  now : Int → Option Bytes
  loose : List (Int × Bytes)
  fuse : Int
  burns : Bool

/-- A loose write: page, block, bytes. -/
structure WE where
  page : Int
  blk : Nat
  bs : Bytes
abbrev WE.asrt (w : WE) : Asrt := Blk w.blk (bobj w.bs)
def wcells (ws : List WE) : List Value := ws.flatMap fun w => [.int .i64 w.page, pageV w.blk]
def WE.abs (w : WE) : Int × Bytes := (w.page, w.bs)

structure WOk (ws : List WE) (l : List (Int × Bytes)) : Prop where
  abs : ws.map WE.abs = l
  len : ∀ w ∈ ws, w.bs.length = 256

structure DX where
  lm : Nat
  nm : Nat
  la : Option Addr
  lc : Nat
  ws : List WE

def DRep (d : Nat) (S : DS) : Asrt := fun r => ∃ x : DX, WOk x.ws S.loose ∧ sep [Blk d (dobj S.most S.pages x.lm (.slice x.la x.ws.length x.lc) x.nm S.fuse S.burns), PM x.lm S.last, PM x.nm S.now, Sl 68 2 x.la x.ws.length x.lc (wcells x.ws), Star (x.ws.map WE.asrt)] r

instance {d : Nat} {S : DS} : Opens (DRep d S) DX (fun x => WOk x.ws S.loose) (fun x => [Blk d (dobj S.most S.pages x.lm (.slice x.la x.ws.length x.lc) x.nm S.fuse S.burns), PM x.lm S.last, PM x.nm S.now, Sl 68 2 x.la x.ws.length x.lc (wcells x.ws), Star (x.ws.map WE.asrt)]) := ⟨fun _ h => h⟩

def DS.dead (S : DS) : Bool := S.burns && decide (S.fuse = 0)
def DS.has (S : DS) (p : Int) : Prop := 0 ≤ p ∧ p < S.pages
instance (S : DS) (p : Int) : Decidable (S.has p) := by unfold DS.has; infer_instance

theorem DRep.shut {d : Nat} {S : DS} (x : DX) (h : WOk x.ws S.loose) : ∀ r, sep [Blk d (dobj S.most S.pages x.lm (.slice x.la x.ws.length x.lc) x.nm S.fuse S.burns), PM x.lm S.last, PM x.nm S.now, Sl 68 2 x.la x.ws.length x.lc (wcells x.ws), Star (x.ws.map WE.asrt)] r → DRep d S r :=
  fun _ hr => ⟨x, h, hr⟩

theorem DRep.mk {d : Nat} {S : DS} {most pages fuse : Int} {lm nm ln lc : Nat} {la : Option Addr} {burns : Bool} {last now : Int → Option Bytes} {xs : List Value} (ws : List WE)
    (h : WOk ws S.loose) (hS : most = S.most ∧ pages = S.pages ∧ fuse = S.fuse ∧ burns = S.burns ∧ last = S.last ∧ now = S.now) (hl : ln = ws.length) (hx : xs = wcells ws) :
    ∀ r, sep [Blk d (dobj most pages lm (.slice la ln lc) nm fuse burns), PM lm last, PM nm now, Sl 68 2 la ln lc xs, Star (ws.map WE.asrt)] r → DRep d S r := by
  intro r hr
  obtain ⟨rfl, rfl, rfl, rfl, rfl, rfl⟩ := hS
  subst hl; subst hx
  exact ⟨⟨lm, nm, la, lc, ws⟩, h, hr⟩

theorem pages_d (d : Nat) (S : DS) : Fn Try.prog 21 [.pointer (some ⟨d, 0, none⟩)] [DRep d S] (fun v L => v = .int .i64 S.pages ∧ L = [DRep d S]) := by
  refine fn_open (A := DRep d S) Rem.here (fun x hx => ?_)
  simp only [List.append_eq, List.cons_append, List.nil_append, List.append_nil, tup]
  refine (pages_fn d S.most S.pages x.lm x.nm x.la x.ws.length x.lc S.fuse S.burns).frame (by repeat (first | with_reducible exact Takes.nil | (apply Takes.cons; focus (repeat (first | with_reducible exact Rem.here | apply Rem.there))))) ?_
  rintro _ _ ⟨rfl, rfl⟩
  refine ⟨_, _, ⟨rfl, rfl⟩, rfl, ?_⟩
  simp only [List.append_eq, List.cons_append, List.nil_append, List.append_nil, tup]
  exact Ent.shut (by repeat (first | with_reducible exact Takes.nil | (apply Takes.cons; focus (repeat (first | with_reducible exact Rem.here | apply Rem.there))))) (DRep.shut x hx)


theorem loose_d (d : Nat) (S : DS) : Fn Try.prog 20 [.pointer (some ⟨d, 0, none⟩)] [DRep d S] (fun v L => v = .int .i64 (S.loose.length : Int) ∧ L = [DRep d S]) := by
  refine fn_open (A := DRep d S) Rem.here (fun x hx => ?_)
  simp only [List.append_eq, List.cons_append, List.nil_append, List.append_nil, tup]
  refine (loose_fn d S.most S.pages x.lm x.nm x.la x.ws.length x.lc S.fuse S.burns).frame (by repeat (first | with_reducible exact Takes.nil | (apply Takes.cons; focus (repeat (first | with_reducible exact Rem.here | apply Rem.there))))) ?_
  rintro _ _ ⟨rfl, rfl⟩
  refine ⟨_, _, ⟨by rw [← hx.abs, List.length_map], rfl⟩, rfl, ?_⟩
  simp only [List.append_eq, List.cons_append, List.nil_append, List.append_nil, tup]
  exact Ent.shut (by repeat (first | with_reducible exact Takes.nil | (apply Takes.cons; focus (repeat (first | with_reducible exact Rem.here | apply Rem.there))))) (DRep.shut x hx)

theorem dead_d (d : Nat) (S : DS) : Fn Try.prog 19 [.pointer (some ⟨d, 0, none⟩)] [DRep d S] (fun v L => v = .bool S.dead ∧ L = [DRep d S]) := by
  refine fn_open (A := DRep d S) Rem.here (fun x hx => ?_)
  simp only [List.append_eq, List.cons_append, List.nil_append, List.append_nil, tup]
  refine (dead_fn d S.most S.pages x.lm x.nm x.la x.ws.length x.lc S.fuse S.burns).frame (by repeat (first | with_reducible exact Takes.nil | (apply Takes.cons; focus (repeat (first | with_reducible exact Rem.here | apply Rem.there))))) ?_
  rintro _ _ ⟨rfl, rfl⟩
  refine ⟨_, _, ⟨rfl, rfl⟩, rfl, ?_⟩
  simp only [List.append_eq, List.cons_append, List.nil_append, List.append_nil, tup]
  exact Ent.shut (by repeat (first | with_reducible exact Takes.nil | (apply Takes.cons; focus (repeat (first | with_reducible exact Rem.here | apply Rem.there))))) (DRep.shut x hx)

/-- An entailment at the function's end. -/
theorem grow_d (d : Nat) (S : DS) (n : Int) : Fn Try.prog 12 [.pointer (some ⟨d, 0, none⟩), .int .i64 n] [DRep d S]
    (fun v L => ∃ S' c, v = .int .i64 c ∧ L = [DRep d S'] ∧ (if S.most < n then c = 32 ∧ S' = S else if S.dead = true then c = 33 ∧ S' = S else c = 0 ∧ S' = { S with pages := max S.pages n })) := by
  refine fn_open (A := DRep d S) Rem.here (fun x hx => ?_)
  simp only [List.append_eq, List.cons_append, List.nil_append, List.append_nil, tup]
  refine fn_start Try.func12 rfl rfl rfl fun F => ?_
  by_cases h1 : S.most < n
  · repeat (first | (first | refine c_seq ?_ | refine c_region ?_ | refine o_nil ?_ | refine f_seq ?_ | refine f_block ?_ | refine f_block_here ?_ | refine f_block_ret ?_ | refine f_seq_ret ?_ | refine f_block_out rfl ?_ | refine f_seq_exit ?_ | refine f_round_ret ?_ | refine f_round_exit ?_ | refine c_block ?_ | refine c_ret ?_ | refine c_exit ?_ | refine c_skip ?_ | refine c_true rfl ?_ | refine c_false rfl ?_) | (first | refine o_y (y_move rfl) rfl ?_ | refine o_y (y_assign rfl) rfl ?_ | refine o_y (y_nilCheck rfl) rfl ?_ | refine o_y (y_fieldAddr0 rfl) rfl ?_ | refine o_y (y_fieldAddr rfl) rfl ?_ | refine o_y (y_load rfl rfl rfl) rfl ?_ | refine o_y (y_loadN rfl rfl rfl) rfl ?_ | (first | refine o_y (y_eql_t rfl rfl (by omega)) rfl ?_ | refine o_y (y_eql_f rfl rfl (by omega)) rfl ?_ | refine o_y (y_neq_t rfl rfl (by omega)) rfl ?_ | refine o_y (y_neq_f rfl rfl (by omega)) rfl ?_ | refine o_y (y_lss_t rfl rfl (by omega)) rfl ?_ | refine o_y (y_lss_f rfl rfl (by omega)) rfl ?_ | refine o_y (y_leq_t rfl rfl (by omega)) rfl ?_ | refine o_y (y_leq_f rfl rfl (by omega)) rfl ?_ | refine o_y (y_gtr_t rfl rfl (by omega)) rfl ?_ | refine o_y (y_gtr_f rfl rfl (by omega)) rfl ?_ | refine o_y (y_geq_t rfl rfl (by omega)) rfl ?_ | refine o_y (y_geq_f rfl rfl (by omega)) rfl ?_ | refine o_y (y_cmp rfl rfl rfl) rfl ?_) | refine o_y (y_arith64 rfl rfl rfl (by omega)) rfl ?_ | refine o_y (y_extract rfl rfl) rfl ?_ | refine o_y (y_pick_t rfl rfl) rfl ?_ | refine o_y (y_pick_f rfl rfl) rfl ?_ | refine o_y (y_not rfl) rfl ?_ | refine o_y (y_eql_nil rfl rfl) rfl ?_ | refine o_y (y_neq_nil rfl rfl) rfl ?_ | refine o_y (y_len_slice rfl) rfl ?_ | refine o_y (y_len_str rfl) rfl ?_ | refine o_y (y_len_string rfl) rfl ?_ | refine o_y (y_build rfl) rfl ?_ | refine o_y (y_max rfl rfl) rfl ?_ | refine o_y (y_min rfl rfl) rfl ?_ | refine o_y (y_conv_u64 rfl (by omega)) rfl ?_ | refine o_y (y_conv_i64 rfl (by omega)) rfl ?_ | refine o_y (y_conv_int rfl) rfl ?_ | refine o_want rfl ?_ | refine o_skip rfl rfl ?_ | refine o_skip0 rfl ?_ | refine o_store rfl rfl rfl frz0 ?_ | refine o_mapUpdate rfl rfl rfl ?_ | refine o_alloc rfl (fun nb => ?_) | refine o_box rfl rfl (fun nb => ?_) | refine o_buildSlice rfl rfl rfl rfl rfl (fun nb => ?_) | refine o_makeMap rfl (fun nb => ?_) | refine o_y (y_lookup_v rfl rfl (by assumption)) rfl ?_ | refine o_y (y_lookup_z rfl rfl (by assumption)) rfl ?_ | refine o_y (y_lookup_okv rfl rfl (by assumption)) rfl ?_ | refine o_y (y_lookup_okz rfl rfl (by assumption)) rfl ?_ | refine o_clear rfl rfl ?_))
    refine f_ent (Ent.shut (by repeat (first | with_reducible exact Takes.nil | (apply Takes.cons; focus (repeat (first | with_reducible exact Rem.here | apply Rem.there))))) (DRep.shut x hx)) (f_ret rfl ⟨S, 32, rfl, rfl, ?_⟩)
    rw [if_pos h1]; exact ⟨rfl, rfl⟩
  · repeat (first | (first | refine c_seq ?_ | refine c_region ?_ | refine o_nil ?_ | refine f_seq ?_ | refine f_block ?_ | refine f_block_here ?_ | refine f_block_ret ?_ | refine f_seq_ret ?_ | refine f_block_out rfl ?_ | refine f_seq_exit ?_ | refine f_round_ret ?_ | refine f_round_exit ?_ | refine c_block ?_ | refine c_ret ?_ | refine c_exit ?_ | refine c_skip ?_ | refine c_true rfl ?_ | refine c_false rfl ?_) | (first | refine o_y (y_move rfl) rfl ?_ | refine o_y (y_assign rfl) rfl ?_ | refine o_y (y_nilCheck rfl) rfl ?_ | refine o_y (y_fieldAddr0 rfl) rfl ?_ | refine o_y (y_fieldAddr rfl) rfl ?_ | refine o_y (y_load rfl rfl rfl) rfl ?_ | refine o_y (y_loadN rfl rfl rfl) rfl ?_ | (first | refine o_y (y_eql_t rfl rfl (by omega)) rfl ?_ | refine o_y (y_eql_f rfl rfl (by omega)) rfl ?_ | refine o_y (y_neq_t rfl rfl (by omega)) rfl ?_ | refine o_y (y_neq_f rfl rfl (by omega)) rfl ?_ | refine o_y (y_lss_t rfl rfl (by omega)) rfl ?_ | refine o_y (y_lss_f rfl rfl (by omega)) rfl ?_ | refine o_y (y_leq_t rfl rfl (by omega)) rfl ?_ | refine o_y (y_leq_f rfl rfl (by omega)) rfl ?_ | refine o_y (y_gtr_t rfl rfl (by omega)) rfl ?_ | refine o_y (y_gtr_f rfl rfl (by omega)) rfl ?_ | refine o_y (y_geq_t rfl rfl (by omega)) rfl ?_ | refine o_y (y_geq_f rfl rfl (by omega)) rfl ?_ | refine o_y (y_cmp rfl rfl rfl) rfl ?_) | refine o_y (y_arith64 rfl rfl rfl (by omega)) rfl ?_ | refine o_y (y_extract rfl rfl) rfl ?_ | refine o_y (y_pick_t rfl rfl) rfl ?_ | refine o_y (y_pick_f rfl rfl) rfl ?_ | refine o_y (y_not rfl) rfl ?_ | refine o_y (y_eql_nil rfl rfl) rfl ?_ | refine o_y (y_neq_nil rfl rfl) rfl ?_ | refine o_y (y_len_slice rfl) rfl ?_ | refine o_y (y_len_str rfl) rfl ?_ | refine o_y (y_len_string rfl) rfl ?_ | refine o_y (y_build rfl) rfl ?_ | refine o_y (y_max rfl rfl) rfl ?_ | refine o_y (y_min rfl rfl) rfl ?_ | refine o_y (y_conv_u64 rfl (by omega)) rfl ?_ | refine o_y (y_conv_i64 rfl (by omega)) rfl ?_ | refine o_y (y_conv_int rfl) rfl ?_ | refine o_want rfl ?_ | refine o_skip rfl rfl ?_ | refine o_skip0 rfl ?_ | refine o_store rfl rfl rfl frz0 ?_ | refine o_mapUpdate rfl rfl rfl ?_ | refine o_alloc rfl (fun nb => ?_) | refine o_box rfl rfl (fun nb => ?_) | refine o_buildSlice rfl rfl rfl rfl rfl (fun nb => ?_) | refine o_makeMap rfl (fun nb => ?_) | refine o_y (y_lookup_v rfl rfl (by assumption)) rfl ?_ | refine o_y (y_lookup_z rfl rfl (by assumption)) rfl ?_ | refine o_y (y_lookup_okv rfl rfl (by assumption)) rfl ?_ | refine o_y (y_lookup_okz rfl rfl (by assumption)) rfl ?_ | refine o_clear rfl rfl ?_))
    refine o_call rfl (dead_fn d S.most S.pages x.lm x.nm x.la x.ws.length x.lc S.fuse S.burns) (by repeat (first | with_reducible exact Takes.nil | (apply Takes.cons; focus (repeat (first | with_reducible exact Rem.here | apply Rem.there))))) rfl ?_
    rintro _ _ ⟨rfl, rfl⟩
    simp only [List.append_eq, List.cons_append, List.nil_append, List.append_nil, tup]
    cases hb : (S.burns && decide (S.fuse = 0))
    · repeat (first | (first | refine c_seq ?_ | refine c_region ?_ | refine o_nil ?_ | refine f_seq ?_ | refine f_block ?_ | refine f_block_here ?_ | refine f_block_ret ?_ | refine f_seq_ret ?_ | refine f_block_out rfl ?_ | refine f_seq_exit ?_ | refine f_round_ret ?_ | refine f_round_exit ?_ | refine c_block ?_ | refine c_ret ?_ | refine c_exit ?_ | refine c_skip ?_ | refine c_true rfl ?_ | refine c_false rfl ?_) | (first | refine o_y (y_move rfl) rfl ?_ | refine o_y (y_assign rfl) rfl ?_ | refine o_y (y_nilCheck rfl) rfl ?_ | refine o_y (y_fieldAddr0 rfl) rfl ?_ | refine o_y (y_fieldAddr rfl) rfl ?_ | refine o_y (y_load rfl rfl rfl) rfl ?_ | refine o_y (y_loadN rfl rfl rfl) rfl ?_ | (first | refine o_y (y_eql_t rfl rfl (by omega)) rfl ?_ | refine o_y (y_eql_f rfl rfl (by omega)) rfl ?_ | refine o_y (y_neq_t rfl rfl (by omega)) rfl ?_ | refine o_y (y_neq_f rfl rfl (by omega)) rfl ?_ | refine o_y (y_lss_t rfl rfl (by omega)) rfl ?_ | refine o_y (y_lss_f rfl rfl (by omega)) rfl ?_ | refine o_y (y_leq_t rfl rfl (by omega)) rfl ?_ | refine o_y (y_leq_f rfl rfl (by omega)) rfl ?_ | refine o_y (y_gtr_t rfl rfl (by omega)) rfl ?_ | refine o_y (y_gtr_f rfl rfl (by omega)) rfl ?_ | refine o_y (y_geq_t rfl rfl (by omega)) rfl ?_ | refine o_y (y_geq_f rfl rfl (by omega)) rfl ?_ | refine o_y (y_cmp rfl rfl rfl) rfl ?_) | refine o_y (y_arith64 rfl rfl rfl (by omega)) rfl ?_ | refine o_y (y_extract rfl rfl) rfl ?_ | refine o_y (y_pick_t rfl rfl) rfl ?_ | refine o_y (y_pick_f rfl rfl) rfl ?_ | refine o_y (y_not rfl) rfl ?_ | refine o_y (y_eql_nil rfl rfl) rfl ?_ | refine o_y (y_neq_nil rfl rfl) rfl ?_ | refine o_y (y_len_slice rfl) rfl ?_ | refine o_y (y_len_str rfl) rfl ?_ | refine o_y (y_len_string rfl) rfl ?_ | refine o_y (y_build rfl) rfl ?_ | refine o_y (y_max rfl rfl) rfl ?_ | refine o_y (y_min rfl rfl) rfl ?_ | refine o_y (y_conv_u64 rfl (by omega)) rfl ?_ | refine o_y (y_conv_i64 rfl (by omega)) rfl ?_ | refine o_y (y_conv_int rfl) rfl ?_ | refine o_want rfl ?_ | refine o_skip rfl rfl ?_ | refine o_skip0 rfl ?_ | refine o_store rfl rfl rfl frz0 ?_ | refine o_mapUpdate rfl rfl rfl ?_ | refine o_alloc rfl (fun nb => ?_) | refine o_box rfl rfl (fun nb => ?_) | refine o_buildSlice rfl rfl rfl rfl rfl (fun nb => ?_) | refine o_makeMap rfl (fun nb => ?_) | refine o_y (y_lookup_v rfl rfl (by assumption)) rfl ?_ | refine o_y (y_lookup_z rfl rfl (by assumption)) rfl ?_ | refine o_y (y_lookup_okv rfl rfl (by assumption)) rfl ?_ | refine o_y (y_lookup_okz rfl rfl (by assumption)) rfl ?_ | refine o_clear rfl rfl ?_))
      refine f_ent (Ent.shut (by repeat (first | with_reducible exact Takes.nil | (apply Takes.cons; focus (repeat (first | with_reducible exact Rem.here | apply Rem.there))))) (DRep.shut (S := { S with pages := max S.pages n }) x hx)) (f_ret rfl ⟨_, 0, rfl, rfl, ?_⟩)
      rw [if_neg h1, if_neg (by simp [DS.dead, hb])]; exact ⟨rfl, rfl⟩
    · repeat (first | (first | refine c_seq ?_ | refine c_region ?_ | refine o_nil ?_ | refine f_seq ?_ | refine f_block ?_ | refine f_block_here ?_ | refine f_block_ret ?_ | refine f_seq_ret ?_ | refine f_block_out rfl ?_ | refine f_seq_exit ?_ | refine f_round_ret ?_ | refine f_round_exit ?_ | refine c_block ?_ | refine c_ret ?_ | refine c_exit ?_ | refine c_skip ?_ | refine c_true rfl ?_ | refine c_false rfl ?_) | (first | refine o_y (y_move rfl) rfl ?_ | refine o_y (y_assign rfl) rfl ?_ | refine o_y (y_nilCheck rfl) rfl ?_ | refine o_y (y_fieldAddr0 rfl) rfl ?_ | refine o_y (y_fieldAddr rfl) rfl ?_ | refine o_y (y_load rfl rfl rfl) rfl ?_ | refine o_y (y_loadN rfl rfl rfl) rfl ?_ | (first | refine o_y (y_eql_t rfl rfl (by omega)) rfl ?_ | refine o_y (y_eql_f rfl rfl (by omega)) rfl ?_ | refine o_y (y_neq_t rfl rfl (by omega)) rfl ?_ | refine o_y (y_neq_f rfl rfl (by omega)) rfl ?_ | refine o_y (y_lss_t rfl rfl (by omega)) rfl ?_ | refine o_y (y_lss_f rfl rfl (by omega)) rfl ?_ | refine o_y (y_leq_t rfl rfl (by omega)) rfl ?_ | refine o_y (y_leq_f rfl rfl (by omega)) rfl ?_ | refine o_y (y_gtr_t rfl rfl (by omega)) rfl ?_ | refine o_y (y_gtr_f rfl rfl (by omega)) rfl ?_ | refine o_y (y_geq_t rfl rfl (by omega)) rfl ?_ | refine o_y (y_geq_f rfl rfl (by omega)) rfl ?_ | refine o_y (y_cmp rfl rfl rfl) rfl ?_) | refine o_y (y_arith64 rfl rfl rfl (by omega)) rfl ?_ | refine o_y (y_extract rfl rfl) rfl ?_ | refine o_y (y_pick_t rfl rfl) rfl ?_ | refine o_y (y_pick_f rfl rfl) rfl ?_ | refine o_y (y_not rfl) rfl ?_ | refine o_y (y_eql_nil rfl rfl) rfl ?_ | refine o_y (y_neq_nil rfl rfl) rfl ?_ | refine o_y (y_len_slice rfl) rfl ?_ | refine o_y (y_len_str rfl) rfl ?_ | refine o_y (y_len_string rfl) rfl ?_ | refine o_y (y_build rfl) rfl ?_ | refine o_y (y_max rfl rfl) rfl ?_ | refine o_y (y_min rfl rfl) rfl ?_ | refine o_y (y_conv_u64 rfl (by omega)) rfl ?_ | refine o_y (y_conv_i64 rfl (by omega)) rfl ?_ | refine o_y (y_conv_int rfl) rfl ?_ | refine o_want rfl ?_ | refine o_skip rfl rfl ?_ | refine o_skip0 rfl ?_ | refine o_store rfl rfl rfl frz0 ?_ | refine o_mapUpdate rfl rfl rfl ?_ | refine o_alloc rfl (fun nb => ?_) | refine o_box rfl rfl (fun nb => ?_) | refine o_buildSlice rfl rfl rfl rfl rfl (fun nb => ?_) | refine o_makeMap rfl (fun nb => ?_) | refine o_y (y_lookup_v rfl rfl (by assumption)) rfl ?_ | refine o_y (y_lookup_z rfl rfl (by assumption)) rfl ?_ | refine o_y (y_lookup_okv rfl rfl (by assumption)) rfl ?_ | refine o_y (y_lookup_okz rfl rfl (by assumption)) rfl ?_ | refine o_clear rfl rfl ?_))
      refine f_ent (Ent.shut (by repeat (first | with_reducible exact Takes.nil | (apply Takes.cons; focus (repeat (first | with_reducible exact Rem.here | apply Rem.there))))) (DRep.shut x hx)) (f_ret rfl ⟨S, 33, rfl, rfl, ?_⟩)
      rw [if_neg h1, if_pos (by simp [DS.dead, hb])]; exact ⟨rfl, rfl⟩

end Go.Lun

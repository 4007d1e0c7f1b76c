/- An act: whether it is few, and what it does. -/
import Derived.Test.YtijahemmbooblaaDisk9
import Derived.Test.YtijahemmbooblaaLaw1
namespace Go.Lun
open Go.Proofs

structure ActM where
  kind : Int
  n : Int
  page : Int
  at_ : Int
  s : Bytes
  ka : Option Addr
  kc : Nat
  ks : List TK

def ActM.cells (x : ActM) : List Value := [.int .i64 x.kind, .int .i64 x.n, .int .i64 x.page, .int .i64 x.at_, str x.s, .slice x.ka x.ks.length x.kc]
abbrev ActM.val (x : ActM) : Value := .agg ⟨x.cells⟩

/-- What an act's list of kept writes reads. -/
abbrev KA (x : ActM) : Asrt := RowA false TK.cells 2 x.ka x.ks
def ActM.ok (x : ActM) : Prop := ∀ k ∈ x.ks, k.sec < 256

theorem Src.empty {P : Program} {F : Fr} {L : List Asrt} {sz : Nat} {a : Option Addr} {cap : Nat} : Src P F L sz (.slice a 0 cap) 0 [] := fun w _ =>
  ⟨by simp [Builtin.lenOf], by simp, fun j hj => by
    have : j = 0 := by omega
    subst this
    cases a
    · simp [Builtin.firstCells]
    · simp [Builtin.firstCells, loadCells, loadCellsFrom]⟩

def ActM.few (x : ActM) : Bool := decide (x.s.length ≤ 300) && decide (x.ks.length ≤ 20) && decide (x.n ≤ 50)

set_option maxHeartbeats 1600000 in
theorem few_f (x : ActM) : Fn Try.prog 22 [x.val] [] (fun v L => v = .bool x.few ∧ L = []) := by
  refine fn_start Try.func22 rfl rfl rfl fun F => ?_
  simp only [ActM.val, ActM.cells, ActM.few]
  by_cases h1 : x.s.length ≤ 300 <;> by_cases h2 : x.ks.length ≤ 20 <;> by_cases h3 : x.n ≤ 50 <;> simp only [h1, h2, h3, decide_true, decide_false, Bool.and_true, Bool.and_false, Bool.true_and, Bool.false_and] <;>
    · repeat (first | refine c_seq ?_ | refine c_region ?_ | refine o_nil ?_ | refine f_seq ?_ | refine f_block ?_ | refine f_block_here ?_ | refine f_block_ret ?_ | refine f_seq_ret ?_ | refine f_block_out rfl ?_ | refine f_seq_exit ?_ | refine f_round_ret ?_ | refine f_round_exit ?_ | refine c_block ?_ | refine c_ret ?_ | refine c_exit ?_ | refine c_skip ?_ | refine c_true rfl ?_ | refine c_false rfl ?_ | refine o_y (y_move rfl) rfl ?_ | refine o_y (y_assign rfl) rfl ?_ | refine o_y (y_nilCheck rfl) rfl ?_ | refine o_y (y_fieldAddr0 rfl) rfl ?_ | refine o_y (y_fieldAddr rfl) rfl ?_ | refine o_y (y_load rfl rfl rfl) rfl ?_ | refine o_y (y_loadN rfl rfl rfl) rfl ?_ | refine o_y (y_eql_t rfl rfl (by omega)) rfl ?_ | refine o_y (y_eql_f rfl rfl (by omega)) rfl ?_ | refine o_y (y_neq_t rfl rfl (by omega)) rfl ?_ | refine o_y (y_neq_f rfl rfl (by omega)) rfl ?_ | refine o_y (y_lss_t rfl rfl (by omega)) rfl ?_ | refine o_y (y_lss_f rfl rfl (by omega)) rfl ?_ | refine o_y (y_leq_t rfl rfl (by omega)) rfl ?_ | refine o_y (y_leq_f rfl rfl (by omega)) rfl ?_ | refine o_y (y_gtr_t rfl rfl (by omega)) rfl ?_ | refine o_y (y_gtr_f rfl rfl (by omega)) rfl ?_ | refine o_y (y_geq_t rfl rfl (by omega)) rfl ?_ | refine o_y (y_geq_f rfl rfl (by omega)) rfl ?_ | refine o_y (y_cmp rfl rfl rfl) rfl ?_ | refine o_y (y_arith64 rfl rfl rfl (by omega)) rfl ?_ | refine o_y (y_extract rfl rfl) rfl ?_ | refine o_y (y_pick_t rfl rfl) rfl ?_ | refine o_y (y_pick_f rfl rfl) rfl ?_ | refine o_y (y_not rfl) rfl ?_ | refine o_y (y_eql_nil rfl rfl) rfl ?_ | refine o_y (y_neq_nil rfl rfl) rfl ?_ | refine o_y (y_len_slice rfl) rfl ?_ | refine o_y (y_len_str rfl) rfl ?_ | refine o_y (y_len_string rfl) rfl ?_ | refine o_y (y_build rfl) rfl ?_ | refine o_y (y_max rfl rfl) rfl ?_ | refine o_y (y_min rfl rfl) rfl ?_ | refine o_y (y_conv_u64 rfl (by omega)) rfl ?_ | refine o_y (y_conv_i64 rfl (by omega)) rfl ?_ | refine o_y (y_conv_int rfl) rfl ?_ | refine o_want rfl ?_ | refine o_skip rfl rfl ?_ | refine o_skip0 rfl ?_ | refine o_store rfl rfl rfl frz0 ?_ | refine o_mapUpdate rfl rfl rfl ?_ | refine o_alloc rfl (fun nb => ?_) | refine o_box rfl rfl (fun nb => ?_) | refine o_buildSlice rfl rfl rfl rfl rfl (fun nb => ?_) | refine o_makeMap rfl (fun nb => ?_) | refine o_y (y_lookup_v rfl rfl (by assumption)) rfl ?_ | refine o_y (y_lookup_z rfl rfl (by assumption)) rfl ?_ | refine o_y (y_lookup_okv rfl rfl (by assumption)) rfl ?_ | refine o_y (y_lookup_okz rfl rfl (by assumption)) rfl ?_ | refine o_clear rfl rfl ?_)
      exact f_ent Ent.nil (f_ret rfl ⟨rfl, rfl⟩)

theorem fn_openSl {P : Program} {f : FuncId} {args : List Value} {L R : List Asrt} {Q : Value → List Asrt → Prop} {E : TypeId} {sz len cap : Nat} {a : Option Addr} {xs : List Value} (hr : Rem L (Sl E sz a len cap xs) R)
    (hn : xs.length = len * sz → a = none → len = 0 → cap = 0 → Fn P f args R Q)
    (hs : ∀ b rs, xs.length = len * sz → a = some ⟨b, 0, none⟩ → len ≤ cap → xs.length + rs.length = cap * sz → Fn P f args (Blk b (.cells ⟨xs ++ rs⟩ E (0, 0)) :: R) Q) : Fn P f args L Q := .mk fun F w s => by
  obtain ⟨h1, h2, h3, r, hc, hf, hrs, hsp⟩ := s
  obtain ⟨u, v, huv, rfl, hA, hR⟩ := sep_perm hr.perm hsp
  obtain ⟨hl, ⟨e1, e2, e3⟩ | ⟨b, rs, e1, e2, e3, hb⟩⟩ := hA.cases
  · exact (hn hl e1 e2 e3).out F w ⟨h1, h2, h3, _, hc, hf, hrs, sep_grow huv hR⟩
  · exact (hs b rs hl e1 e2 e3).out F w ⟨h1, h2, h3, _, hc, hf, hrs, u, v, huv, rfl, hb, hR⟩

theorem crash_sl (d : Nat) (S : DS) (a : Option Addr) (cap : Nat) (ks : List TK) (hk : ks.length ≤ 1000000) (hsec : ∀ k ∈ ks, k.sec < 256) (hn : S.loose.length ≤ 1000000) :
    Fn Try.prog 16 [.pointer (some ⟨d, 0, none⟩), .slice a ks.length cap] [DRep d S, Sl 33 2 a ks.length cap (tcells ks)]
      (fun v L => v = .tuple ⟨[]⟩ ∧ L = [DRep d (S.crash ks)]) := by
  refine fn_openSl (xs := tcells ks) (by repeat (first | with_reducible exact Rem.here | apply Rem.there)) (fun hl e1 e2 e3 => ?_) (fun b rs hl e1 h2 h3 => ?_)
  · subst e1; subst e3
    have hks : ks = [] := List.eq_nil_of_length_eq_zero e2
    subst hks
    have h := crash_d d S none 0 true [] (by simp) hsec hn
    refine fn_ent (pre' := [DRep d S, RowA true TK.cells 2 none []]) (Ent.one (by repeat (first | with_reducible exact Rem.here | apply Rem.there)) (Ent.put (P := []) (by repeat (first | with_reducible exact Takes.nil | (apply Takes.cons; focus (repeat (first | with_reducible exact Rem.here | apply Rem.there))))) RowA.empty (by repeat (first | with_reducible exact Ent.nil | (apply Ent.one; focus (repeat (first | with_reducible exact Rem.here | apply Rem.there))))))) (Fn.frame h (by repeat (first | with_reducible exact Takes.nil | (apply Takes.cons; focus (repeat (first | with_reducible exact Rem.here | apply Rem.there))))) fun v L hR => ?_)
    obtain ⟨rfl, rfl⟩ := hR
    exact ⟨_, _, ⟨rfl, rfl⟩, rfl, by simp only [List.append_eq, List.cons_append, List.nil_append, List.append_nil, tup]; repeat (first | with_reducible exact Ent.nil | (apply Ent.one; focus (repeat (first | with_reducible exact Rem.here | apply Rem.there))))⟩
  · subst e1
    have h := crash_d d S (some ⟨b, 0, none⟩) cap true ks hk hsec hn
    refine fn_ent (pre' := [DRep d S, RowA true TK.cells 2 (some ⟨b, 0, none⟩) ks]) (Ent.one (by repeat (first | with_reducible exact Rem.here | apply Rem.there)) (Ent.put (P := [Blk b (.cells ⟨tcells ks ++ rs⟩ 33 (0, 0))]) (by repeat (first | with_reducible exact Takes.nil | (apply Takes.cons; focus (repeat (first | with_reducible exact Rem.here | apply Rem.there))))) (RowA.shut rfl (by rw [← hl]; exact getN_front _ _)) (by repeat (first | with_reducible exact Ent.nil | (apply Ent.one; focus (repeat (first | with_reducible exact Rem.here | apply Rem.there))))))) (Fn.frame h (by repeat (first | with_reducible exact Takes.nil | (apply Takes.cons; focus (repeat (first | with_reducible exact Rem.here | apply Rem.there))))) fun v L hR => ?_)
    obtain ⟨rfl, rfl⟩ := hR
    exact ⟨_, _, ⟨rfl, rfl⟩, rfl, by simp only [List.append_eq, List.cons_append, List.nil_append, List.append_nil, tup]; repeat (first | with_reducible exact Ent.nil | (apply Ent.one; focus (repeat (first | with_reducible exact Rem.here | apply Rem.there))))⟩

theorem tcells_one (ks : List TK) : ∀ u ∈ tcells ks, u.oneCell' = true := by
  intro u hu
  obtain ⟨k, _, h⟩ := List.mem_flatMap.1 hu
  simp only [List.mem_cons, List.not_mem_nil, or_false] at h
  rcases h with rfl | rfl <;> rfl

theorem Sl.shut_zero {E : TypeId} {sz : Nat} (b : Nat) : ∀ r, sep [Blk b (.cells ⟨[]⟩ E (0, 0))] r → Sl E sz (some ⟨b, 0, none⟩) 0 0 [] r := fun r hr =>
  Sl.shut (xs := []) (rs := []) (by simp) (Nat.le_refl _) (by simp) r hr

/-- An act done; what it answers. -/
def DS.act (S : DS) (x : ActM) : DS × Int :=
  if x.kind = 0 then (if S.most < x.n then (S, 32) else if S.dead = true then (S, 33) else (S.grow x.n, 0))
  else if x.kind = 1 then (if ¬ S.has x.page then (S, 30) else if x.s.length ≠ 256 then (S, 31) else if S.dead = true then (S, 33) else (S.write x.page x.s, 0))
  else if x.kind = 2 then (if S.dead = true then S else S.sync, 0)
  else if x.kind = 3 then (S.crash x.ks, 0)
  else if x.kind = 4 then (if ¬ S.has x.page then (S, 30) else if x.at_ < 0 ∨ 256 < x.at_ ∨ 256 - x.at_ < x.s.length then (S, 31) else (S.spoil x.page x.at_.toNat x.s, 0))
  else if x.kind = 6 then (if S.dead = true then S else { S with fuse := max x.n 0, burns := true }, 0)
  else (S, 0)

set_option maxHeartbeats 1600000 in
theorem do_d (d : Nat) (S : DS) (x : ActM) (hx : x.few = true) (hok : x.ok) (hf : -9223372036854775808 < S.fuse) (hf' : S.fuse ≤ 9223372036854775807) (hn : S.loose.length ≤ 1000000) :
    Fn Try.prog 24 [.pointer (some ⟨d, 0, none⟩), x.val] [DRep d S, KA x] (fun v L => v = .int .i64 (S.act x).2 ∧ L = [DRep d (S.act x).1, KA x]) := by
  simp only [ActM.few, Bool.and_eq_true, decide_eq_true_eq] at hx
  obtain ⟨⟨hs, hks⟩, hxn⟩ := hx
  refine fn_start Try.func24 rfl rfl rfl fun F => ?_
  simp only [ActM.val, ActM.cells]
  by_cases k0 : x.kind = 0
  case pos =>
    simp only [DS.act, if_pos k0]
    refine c_seq ?_
    refine c_region ?_
    refine o_box rfl rfl (fun nb => ?_)
    refine o_y (y_assign rfl) rfl ?_
    refine o_nil ?_
    refine f_seq ?_
    refine c_seq ?_
    refine c_seq ?_
    refine c_region ?_
    refine o_y (y_fieldAddr0 rfl) rfl ?_
    refine o_y (y_load rfl rfl rfl) rfl ?_
    refine o_nil ?_
    refine f_seq ?_
    refine c_block ?_
    refine c_seq ?_
    refine c_region ?_
    refine o_y (y_eql_t rfl rfl (by omega)) rfl ?_
    refine o_y (y_assign rfl) rfl ?_
    refine o_nil ?_
    refine f_seq ?_
    refine c_true rfl ?_
    refine c_seq ?_
    refine c_region ?_
    refine o_y (y_move rfl) rfl ?_
    refine o_y (y_fieldAddr0 rfl) rfl ?_
    refine o_y (y_load rfl rfl rfl) rfl ?_
    refine o_call rfl (grow_d d S x.n) (by repeat (first | with_reducible exact Takes.nil | (apply Takes.cons; focus (repeat (first | with_reducible exact Rem.here | apply Rem.there))))) rfl ?_
    rintro _ _ ⟨S', c, rfl, rfl, hS⟩
    simp only [List.append_eq, List.cons_append, List.nil_append, List.append_nil, tup]
    refine o_y (y_assign rfl) rfl ?_
    refine o_nil ?_
    refine f_seq ?_
    refine c_ret ?_
    refine f_block_ret ?_
    refine f_seq_ret ?_
    refine f_ent (M := [DRep d S', KA x]) (by repeat (first | with_reducible exact Ent.nil | (apply Ent.one; focus (repeat (first | with_reducible exact Rem.here | apply Rem.there))))) (f_ret rfl ?_)
    split at hS
    · rename_i h; obtain ⟨rfl, rfl⟩ := hS; rw [if_pos h]; exact ⟨rfl, rfl⟩
    · rename_i h; rw [if_neg h]; split at hS
      · rename_i h2; obtain ⟨rfl, rfl⟩ := hS; rw [if_pos h2]; exact ⟨rfl, rfl⟩
      · rename_i h2; obtain ⟨rfl, rfl⟩ := hS; rw [if_neg h2]; exact ⟨rfl, rfl⟩
  case neg =>
  by_cases k1 : x.kind = 1
  case pos =>
    simp only [DS.act, if_neg k0, if_pos k1]
    refine c_seq ?_
    refine c_region ?_
    refine o_box rfl rfl (fun nb => ?_)
    refine o_y (y_assign rfl) rfl ?_
    refine o_nil ?_
    refine f_seq ?_
    refine c_seq ?_
    refine c_seq ?_
    refine c_region ?_
    refine o_y (y_fieldAddr0 rfl) rfl ?_
    refine o_y (y_load rfl rfl rfl) rfl ?_
    refine o_nil ?_
    refine f_seq ?_
    refine c_block ?_
    refine c_seq ?_
    refine c_region ?_
    refine o_y (y_eql_f rfl rfl (by omega)) rfl ?_
    refine o_y (y_assign rfl) rfl ?_
    refine o_nil ?_
    refine f_seq ?_
    refine c_false rfl ?_
    refine c_seq ?_
    refine c_region ?_
    refine o_y (y_eql_t rfl rfl (by omega)) rfl ?_
    refine o_y (y_assign rfl) rfl ?_
    refine o_nil ?_
    refine f_seq ?_
    refine c_true rfl ?_
    refine c_seq ?_
    refine c_region ?_
    refine o_y (y_move rfl) rfl ?_
    refine o_y (y_fieldAddr0 rfl) rfl ?_
    refine o_y (y_load rfl rfl rfl) rfl ?_
    refine o_y (y_fieldAddr0 rfl) rfl ?_
    refine o_y (y_load rfl rfl rfl) rfl ?_
    refine o_conv_bytes rfl rfl (fun b rs cap hcap => ?_)
    skip
    refine o_call rfl (write_d d S x.page b 0 x.s.length cap (x.s.map byteV ++ rs) 5 (cap, cap + 1) true x.s (by have := getN_front (x.s.map byteV) rs; simpa using this) hf hf' hn (by omega)) (by repeat (first | with_reducible exact Takes.nil | (apply Takes.cons; focus (repeat (first | with_reducible exact Rem.here | apply Rem.there))))) rfl ?_
    rintro _ _ ⟨S', c, rfl, rfl, hS⟩
    simp only [List.append_eq, List.cons_append, List.nil_append, List.append_nil, tup]
    refine o_y (y_assign rfl) rfl ?_
    refine o_nil ?_
    refine f_seq ?_
    refine c_ret ?_
    refine f_block_ret ?_
    refine f_seq_ret ?_
    refine f_ent (M := [DRep d S', KA x]) (by repeat (first | with_reducible exact Ent.nil | (apply Ent.one; focus (repeat (first | with_reducible exact Rem.here | apply Rem.there))))) (f_ret rfl ?_)
    by_cases g1 : ¬ S.has x.page
    · rw [if_pos g1] at hS ⊢; obtain ⟨rfl, rfl⟩ := hS; exact ⟨rfl, rfl⟩
    · rw [if_neg g1] at hS ⊢
      by_cases g2 : x.s.length ≠ 256
      · rw [if_pos g2] at hS ⊢; obtain ⟨rfl, rfl⟩ := hS; exact ⟨rfl, rfl⟩
      · rw [if_neg g2] at hS ⊢
        by_cases g3 : S.dead = true
        · rw [if_pos g3] at hS ⊢; obtain ⟨rfl, rfl⟩ := hS; exact ⟨rfl, rfl⟩
        · rw [if_neg g3] at hS ⊢; obtain ⟨rfl, rfl⟩ := hS; exact ⟨rfl, rfl⟩
  case neg =>
  by_cases k2 : x.kind = 2
  case pos =>
    simp only [DS.act, if_neg k0, if_neg k1, if_pos k2]
    refine c_seq ?_
    refine c_region ?_
    refine o_box rfl rfl (fun nb => ?_)
    refine o_y (y_assign rfl) rfl ?_
    refine o_nil ?_
    refine f_seq ?_
    refine c_seq ?_
    refine c_seq ?_
    refine c_region ?_
    refine o_y (y_fieldAddr0 rfl) rfl ?_
    refine o_y (y_load rfl rfl rfl) rfl ?_
    refine o_nil ?_
    refine f_seq ?_
    refine c_block ?_
    refine c_seq ?_
    refine c_region ?_
    refine o_y (y_eql_f rfl rfl (by omega)) rfl ?_
    refine o_y (y_assign rfl) rfl ?_
    refine o_nil ?_
    refine f_seq ?_
    refine c_false rfl ?_
    refine c_seq ?_
    refine c_region ?_
    refine o_y (y_eql_f rfl rfl (by omega)) rfl ?_
    refine o_y (y_assign rfl) rfl ?_
    refine o_nil ?_
    refine f_seq ?_
    refine c_false rfl ?_
    refine c_seq ?_
    refine c_region ?_
    refine o_y (y_eql_t rfl rfl (by omega)) rfl ?_
    refine o_y (y_assign rfl) rfl ?_
    refine o_nil ?_
    refine f_seq ?_
    refine c_true rfl ?_
    refine c_region ?_
    refine o_y (y_move rfl) rfl ?_
    refine o_call rfl (sync_d d S hf hf' hn) (by repeat (first | with_reducible exact Takes.nil | (apply Takes.cons; focus (repeat (first | with_reducible exact Rem.here | apply Rem.there))))) rfl ?_
    rintro _ _ ⟨rfl, rfl⟩
    simp only [List.append_eq, List.cons_append, List.nil_append, List.append_nil, tup]
    refine o_nil ?_
    refine f_block ?_
    refine f_seq ?_
    refine c_seq ?_
    refine c_region ?_
    refine o_y (y_assign rfl) rfl ?_
    refine o_nil ?_
    refine f_seq ?_
    refine c_ret ?_
    exact f_ent (by repeat (first | with_reducible exact Ent.nil | (apply Ent.one; focus (repeat (first | with_reducible exact Rem.here | apply Rem.there))))) (f_ret rfl ⟨rfl, rfl⟩)
  case neg =>
  by_cases k3 : x.kind = 3
  case pos =>
    simp only [DS.act, if_neg k0, if_neg k1, if_neg k2, if_pos k3]
    obtain ⟨kind, n, page, at_, s, ka, kc, ks⟩ := x
    try dsimp only [ActM.ok] at hs hks hxn k0 k1 k2 k3 hok ⊢
    by_cases hne : ks = []
    · subst hne
      simp only [List.length_nil]
      refine c_seq ?_
      refine c_region ?_
      refine o_box rfl rfl (fun nb => ?_)
      refine o_y (y_assign rfl) rfl ?_
      refine o_nil ?_
      refine f_seq ?_
      refine c_seq ?_
      refine c_seq ?_
      refine c_region ?_
      refine o_y (y_fieldAddr0 rfl) rfl ?_
      refine o_y (y_load rfl rfl rfl) rfl ?_
      refine o_nil ?_
      refine f_seq ?_
      refine c_block ?_
      refine c_seq ?_
      refine c_region ?_
      refine o_y (y_eql_f rfl rfl (by omega)) rfl ?_
      refine o_y (y_assign rfl) rfl ?_
      refine o_nil ?_
      refine f_seq ?_
      refine c_false rfl ?_
      refine c_seq ?_
      refine c_region ?_
      refine o_y (y_eql_f rfl rfl (by omega)) rfl ?_
      refine o_y (y_assign rfl) rfl ?_
      refine o_nil ?_
      refine f_seq ?_
      refine c_false rfl ?_
      refine c_seq ?_
      refine c_region ?_
      refine o_y (y_eql_f rfl rfl (by omega)) rfl ?_
      refine o_y (y_assign rfl) rfl ?_
      refine o_nil ?_
      refine f_seq ?_
      refine c_false rfl ?_
      refine c_seq ?_
      refine c_region ?_
      refine o_y (y_eql_t rfl rfl (by omega)) rfl ?_
      refine o_y (y_assign rfl) rfl ?_
      refine o_nil ?_
      refine f_seq ?_
      refine c_true rfl ?_
      refine c_region ?_
      refine o_y (y_move rfl) rfl ?_
      refine o_buildSlice rfl rfl rfl rfl rfl (fun nb => ?_)
      refine o_y (y_fieldAddr0 rfl) rfl ?_
      refine o_y (y_load rfl rfl rfl) rfl ?_
      rename Nat => nb
      refine o_ent (Ent.shut (A := Sl 33 2 (some ⟨nb, 0, none⟩) 0 0 []) (P := [Blk nb (.cells ⟨[]⟩ 33 (0, 0))]) (by repeat (first | with_reducible exact Takes.nil | (apply Takes.cons; focus (repeat (first | with_reducible exact Rem.here | apply Rem.there))))) (Sl.shut_zero nb)) ?_
      refine o_append (k := 0) (ys := []) rfl rfl Src.empty (by repeat (first | with_reducible exact Rem.here | apply Rem.there)) (fun u hu => by cases hu) (by omega) rfl (by omega) rfl (fun a' cap' => ?_)
      simp only [Nat.zero_add, List.nil_append]
      refine o_call rfl (show Fn Try.prog 16 [.pointer (some ⟨d, 0, none⟩), .slice a' 0 cap'] [DRep d S, Sl 33 2 a' 0 cap' []] (fun v L => v = .tuple ⟨[]⟩ ∧ L = [DRep d (S.crash [])]) from crash_sl d S a' cap' [] (by simp) hok hn) (by repeat (first | with_reducible exact Takes.nil | (apply Takes.cons; focus (repeat (first | with_reducible exact Rem.here | apply Rem.there))))) rfl ?_
      rintro _ _ ⟨rfl, rfl⟩
      simp only [List.append_eq, List.cons_append, List.nil_append, List.append_nil, tup]
      refine o_nil ?_
      refine f_block ?_
      refine f_seq ?_
      refine c_seq ?_
      refine c_region ?_
      refine o_y (y_assign rfl) rfl ?_
      refine o_nil ?_
      refine f_seq ?_
      refine c_ret ?_
      refine f_ent ?_ (f_ret rfl ⟨rfl, rfl⟩)
      refine Ent.one (by repeat (first | with_reducible exact Rem.here | apply Rem.there)) ?_
      repeat (first | with_reducible exact Ent.nil | (apply Ent.one; focus (repeat (first | with_reducible exact Rem.here | apply Rem.there))))
    · refine c_open (h := RowA.opens hne) (by repeat (first | with_reducible exact Rem.here | apply Rem.there)) (fun y hy => ?_)
      obtain ⟨kb, ko, cs, T, fz⟩ := y
      obtain ⟨e1, e2⟩ := hy
      dsimp only at e1 e2
      subst e1
      simp only [List.append_eq, List.cons_append, List.nil_append, List.append_nil, tup]
      have e3 : getN cs ko (ks.length * 2) = some (tcells ks) := e2
      refine c_seq ?_
      refine c_region ?_
      refine o_box rfl rfl (fun nb => ?_)
      refine o_y (y_assign rfl) rfl ?_
      refine o_nil ?_
      refine f_seq ?_
      refine c_seq ?_
      refine c_seq ?_
      refine c_region ?_
      refine o_y (y_fieldAddr0 rfl) rfl ?_
      refine o_y (y_load rfl rfl rfl) rfl ?_
      refine o_nil ?_
      refine f_seq ?_
      refine c_block ?_
      refine c_seq ?_
      refine c_region ?_
      refine o_y (y_eql_f rfl rfl (by omega)) rfl ?_
      refine o_y (y_assign rfl) rfl ?_
      refine o_nil ?_
      refine f_seq ?_
      refine c_false rfl ?_
      refine c_seq ?_
      refine c_region ?_
      refine o_y (y_eql_f rfl rfl (by omega)) rfl ?_
      refine o_y (y_assign rfl) rfl ?_
      refine o_nil ?_
      refine f_seq ?_
      refine c_false rfl ?_
      refine c_seq ?_
      refine c_region ?_
      refine o_y (y_eql_f rfl rfl (by omega)) rfl ?_
      refine o_y (y_assign rfl) rfl ?_
      refine o_nil ?_
      refine f_seq ?_
      refine c_false rfl ?_
      refine c_seq ?_
      refine c_region ?_
      refine o_y (y_eql_t rfl rfl (by omega)) rfl ?_
      refine o_y (y_assign rfl) rfl ?_
      refine o_nil ?_
      refine f_seq ?_
      refine c_true rfl ?_
      refine c_region ?_
      refine o_y (y_move rfl) rfl ?_
      refine o_buildSlice rfl rfl rfl rfl rfl (fun nb => ?_)
      refine o_y (y_fieldAddr0 rfl) rfl ?_
      refine o_y (y_load rfl rfl rfl) rfl ?_
      rename Nat => nb
      refine o_ent (Ent.shut (A := Sl 33 2 (some ⟨nb, 0, none⟩) 0 0 []) (P := [Blk nb (.cells ⟨[]⟩ 33 (0, 0))]) (by repeat (first | with_reducible exact Takes.nil | (apply Takes.cons; focus (repeat (first | with_reducible exact Rem.here | apply Rem.there))))) (Sl.shut_zero nb)) ?_
      refine o_append (k := ks.length) (ys := tcells ks) rfl rfl (Src.slice e3) (by repeat (first | with_reducible exact Rem.here | apply Rem.there)) (tcells_one ks) (by omega) rfl (by omega) rfl (fun a' cap' => ?_)
      simp only [Nat.zero_add, List.nil_append]
      refine o_call rfl (crash_sl d S a' cap' ks (by omega) hok hn) (by repeat (first | with_reducible exact Takes.nil | (apply Takes.cons; focus (repeat (first | with_reducible exact Rem.here | apply Rem.there))))) rfl ?_
      rintro _ _ ⟨rfl, rfl⟩
      simp only [List.append_eq, List.cons_append, List.nil_append, List.append_nil, tup]
      refine o_nil ?_
      refine f_block ?_
      refine f_seq ?_
      refine c_seq ?_
      refine c_region ?_
      refine o_y (y_assign rfl) rfl ?_
      refine o_nil ?_
      refine f_seq ?_
      refine c_ret ?_
      refine f_ent ?_ (f_ret rfl ⟨rfl, rfl⟩)
      refine Ent.one (by repeat (first | with_reducible exact Rem.here | apply Rem.there)) ?_
      refine Ent.put (by repeat (first | with_reducible exact Takes.nil | (apply Takes.cons; focus (repeat (first | with_reducible exact Rem.here | apply Rem.there))))) (RowA.shut rfl e2) ?_
      repeat (first | with_reducible exact Ent.nil | (apply Ent.one; focus (repeat (first | with_reducible exact Rem.here | apply Rem.there))))
  case neg =>
  by_cases k4 : x.kind = 4
  case pos =>
    simp only [DS.act, if_neg k0, if_neg k1, if_neg k2, if_neg k3, if_pos k4]
    refine c_seq ?_
    refine c_region ?_
    refine o_box rfl rfl (fun nb => ?_)
    refine o_y (y_assign rfl) rfl ?_
    refine o_nil ?_
    refine f_seq ?_
    refine c_seq ?_
    refine c_seq ?_
    refine c_region ?_
    refine o_y (y_fieldAddr0 rfl) rfl ?_
    refine o_y (y_load rfl rfl rfl) rfl ?_
    refine o_nil ?_
    refine f_seq ?_
    refine c_block ?_
    refine c_seq ?_
    refine c_region ?_
    refine o_y (y_eql_f rfl rfl (by omega)) rfl ?_
    refine o_y (y_assign rfl) rfl ?_
    refine o_nil ?_
    refine f_seq ?_
    refine c_false rfl ?_
    refine c_seq ?_
    refine c_region ?_
    refine o_y (y_eql_f rfl rfl (by omega)) rfl ?_
    refine o_y (y_assign rfl) rfl ?_
    refine o_nil ?_
    refine f_seq ?_
    refine c_false rfl ?_
    refine c_seq ?_
    refine c_region ?_
    refine o_y (y_eql_f rfl rfl (by omega)) rfl ?_
    refine o_y (y_assign rfl) rfl ?_
    refine o_nil ?_
    refine f_seq ?_
    refine c_false rfl ?_
    refine c_seq ?_
    refine c_region ?_
    refine o_y (y_eql_f rfl rfl (by omega)) rfl ?_
    refine o_y (y_assign rfl) rfl ?_
    refine o_nil ?_
    refine f_seq ?_
    refine c_false rfl ?_
    refine c_seq ?_
    refine c_region ?_
    refine o_y (y_eql_t rfl rfl (by omega)) rfl ?_
    refine o_y (y_assign rfl) rfl ?_
    refine o_nil ?_
    refine f_seq ?_
    refine c_true rfl ?_
    refine c_seq ?_
    refine c_region ?_
    refine o_y (y_move rfl) rfl ?_
    refine o_y (y_fieldAddr0 rfl) rfl ?_
    refine o_y (y_load rfl rfl rfl) rfl ?_
    refine o_y (y_fieldAddr0 rfl) rfl ?_
    refine o_y (y_load rfl rfl rfl) rfl ?_
    refine o_y (y_fieldAddr0 rfl) rfl ?_
    refine o_y (y_load rfl rfl rfl) rfl ?_
    refine o_conv_bytes rfl rfl (fun b rs cap hcap => ?_)
    skip
    refine o_call rfl (spoil_d d S x.page x.at_ b 0 x.s.length cap (x.s.map byteV ++ rs) 5 (cap, cap + 1) true x.s (by have := getN_front (x.s.map byteV) rs; simpa using this) hn (by omega)) (by repeat (first | with_reducible exact Takes.nil | (apply Takes.cons; focus (repeat (first | with_reducible exact Rem.here | apply Rem.there))))) rfl ?_
    rintro _ _ ⟨S', c, rfl, rfl, hS⟩
    simp only [List.append_eq, List.cons_append, List.nil_append, List.append_nil, tup]
    refine o_y (y_assign rfl) rfl ?_
    refine o_nil ?_
    refine f_seq ?_
    refine c_ret ?_
    refine f_block_ret ?_
    refine f_seq_ret ?_
    refine f_ent (M := [DRep d S', KA x]) (by repeat (first | with_reducible exact Ent.nil | (apply Ent.one; focus (repeat (first | with_reducible exact Rem.here | apply Rem.there))))) (f_ret rfl ?_)
    by_cases g1 : ¬ S.has x.page
    · rw [if_pos g1] at hS ⊢; obtain ⟨rfl, rfl⟩ := hS; exact ⟨rfl, rfl⟩
    · rw [if_neg g1] at hS ⊢
      by_cases g2 : x.at_ < 0 ∨ 256 < x.at_ ∨ 256 - x.at_ < x.s.length
      · rw [if_pos g2] at hS ⊢; obtain ⟨rfl, rfl⟩ := hS; exact ⟨rfl, rfl⟩
      · rw [if_neg g2] at hS ⊢; obtain ⟨rfl, rfl⟩ := hS; exact ⟨rfl, rfl⟩
  case neg =>
  by_cases k6 : x.kind = 6
  case pos =>
    simp only [DS.act, if_neg k0, if_neg k1, if_neg k2, if_neg k3, if_neg k4, if_pos k6]
    refine c_seq ?_
    refine c_region ?_
    refine o_box rfl rfl (fun nb => ?_)
    refine o_y (y_assign rfl) rfl ?_
    refine o_nil ?_
    refine f_seq ?_
    refine c_seq ?_
    refine c_seq ?_
    refine c_region ?_
    refine o_y (y_fieldAddr0 rfl) rfl ?_
    refine o_y (y_load rfl rfl rfl) rfl ?_
    refine o_nil ?_
    refine f_seq ?_
    refine c_block ?_
    refine c_seq ?_
    refine c_region ?_
    refine o_y (y_eql_f rfl rfl (by omega)) rfl ?_
    refine o_y (y_assign rfl) rfl ?_
    refine o_nil ?_
    refine f_seq ?_
    refine c_false rfl ?_
    refine c_seq ?_
    refine c_region ?_
    refine o_y (y_eql_f rfl rfl (by omega)) rfl ?_
    refine o_y (y_assign rfl) rfl ?_
    refine o_nil ?_
    refine f_seq ?_
    refine c_false rfl ?_
    refine c_seq ?_
    refine c_region ?_
    refine o_y (y_eql_f rfl rfl (by omega)) rfl ?_
    refine o_y (y_assign rfl) rfl ?_
    refine o_nil ?_
    refine f_seq ?_
    refine c_false rfl ?_
    refine c_seq ?_
    refine c_region ?_
    refine o_y (y_eql_f rfl rfl (by omega)) rfl ?_
    refine o_y (y_assign rfl) rfl ?_
    refine o_nil ?_
    refine f_seq ?_
    refine c_false rfl ?_
    refine c_seq ?_
    refine c_region ?_
    refine o_y (y_eql_f rfl rfl (by omega)) rfl ?_
    refine o_y (y_assign rfl) rfl ?_
    refine o_nil ?_
    refine f_seq ?_
    refine c_false rfl ?_
    refine c_seq ?_
    refine c_region ?_
    refine o_y (y_eql_t rfl rfl (by omega)) rfl ?_
    refine o_y (y_assign rfl) rfl ?_
    refine o_nil ?_
    refine f_seq ?_
    refine c_true rfl ?_
    refine c_region ?_
    refine o_y (y_move rfl) rfl ?_
    refine o_y (y_fieldAddr0 rfl) rfl ?_
    refine o_y (y_load rfl rfl rfl) rfl ?_
    refine o_call rfl (fuse_d d S x.n) (by repeat (first | with_reducible exact Takes.nil | (apply Takes.cons; focus (repeat (first | with_reducible exact Rem.here | apply Rem.there))))) rfl ?_
    rintro _ _ ⟨rfl, rfl⟩
    simp only [List.append_eq, List.cons_append, List.nil_append, List.append_nil, tup]
    refine o_nil ?_
    refine f_block ?_
    refine f_seq ?_
    refine c_seq ?_
    refine c_region ?_
    refine o_y (y_assign rfl) rfl ?_
    refine o_nil ?_
    refine f_seq ?_
    refine c_ret ?_
    exact f_ent (by repeat (first | with_reducible exact Ent.nil | (apply Ent.one; focus (repeat (first | with_reducible exact Rem.here | apply Rem.there))))) (f_ret rfl ⟨rfl, rfl⟩)
  case neg =>
    simp only [DS.act, if_neg k0, if_neg k1, if_neg k2, if_neg k3, if_neg k4, if_neg k6]
    refine c_seq ?_
    refine c_region ?_
    refine o_box rfl rfl (fun nb => ?_)
    refine o_y (y_assign rfl) rfl ?_
    refine o_nil ?_
    refine f_seq ?_
    refine c_seq ?_
    refine c_seq ?_
    refine c_region ?_
    refine o_y (y_fieldAddr0 rfl) rfl ?_
    refine o_y (y_load rfl rfl rfl) rfl ?_
    refine o_nil ?_
    refine f_seq ?_
    refine c_block ?_
    refine c_seq ?_
    refine c_region ?_
    refine o_y (y_eql_f rfl rfl (by omega)) rfl ?_
    refine o_y (y_assign rfl) rfl ?_
    refine o_nil ?_
    refine f_seq ?_
    refine c_false rfl ?_
    refine c_seq ?_
    refine c_region ?_
    refine o_y (y_eql_f rfl rfl (by omega)) rfl ?_
    refine o_y (y_assign rfl) rfl ?_
    refine o_nil ?_
    refine f_seq ?_
    refine c_false rfl ?_
    refine c_seq ?_
    refine c_region ?_
    refine o_y (y_eql_f rfl rfl (by omega)) rfl ?_
    refine o_y (y_assign rfl) rfl ?_
    refine o_nil ?_
    refine f_seq ?_
    refine c_false rfl ?_
    refine c_seq ?_
    refine c_region ?_
    refine o_y (y_eql_f rfl rfl (by omega)) rfl ?_
    refine o_y (y_assign rfl) rfl ?_
    refine o_nil ?_
    refine f_seq ?_
    refine c_false rfl ?_
    refine c_seq ?_
    refine c_region ?_
    refine o_y (y_eql_f rfl rfl (by omega)) rfl ?_
    refine o_y (y_assign rfl) rfl ?_
    refine o_nil ?_
    refine f_seq ?_
    refine c_false rfl ?_
    refine c_seq ?_
    refine c_region ?_
    refine o_y (y_eql_f rfl rfl (by omega)) rfl ?_
    refine o_y (y_assign rfl) rfl ?_
    refine o_nil ?_
    refine f_seq ?_
    refine c_false rfl ?_
    refine c_skip ?_
    refine f_block ?_
    refine f_seq ?_
    refine c_seq ?_
    refine c_region ?_
    refine o_y (y_assign rfl) rfl ?_
    refine o_nil ?_
    refine f_seq ?_
    refine c_ret ?_
    exact f_ent (by repeat (first | with_reducible exact Ent.nil | (apply Ent.one; focus (repeat (first | with_reducible exact Rem.here | apply Rem.there))))) (f_ret rfl ⟨rfl, rfl⟩)
end Go.Lun

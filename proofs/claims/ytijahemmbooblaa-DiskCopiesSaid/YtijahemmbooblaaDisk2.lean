/- The disk: what it holds, and what its methods make of it. -/
import Derived.Test.YtijahemmbooblaaPm
namespace Go.Lun
open Go.Proofs

structure DS where
  most : Int
  pages : Int
  last : Int → Option Bytes
  now : Int → Option Bytes
  loose : List (Int × Bytes)
  fuse : Int
  burns : Bool

/-- A loose write: page, block, bytes. -/
structure WE where
  page : Int
  blk : Nat
  bs : Bytes
abbrev WE.asrt (w : WE) : Asrt := Blk w.blk (bobj w.bs)
def wcells (ws : List WE) : List Value := ws.flatMap fun w => [.int .i64 w.page, pageV w.blk]
def WE.abs (w : WE) : Int × Bytes := (w.page, w.bs)

structure WOk (ws : List WE) (l : List (Int × Bytes)) : Prop where
  abs : ws.map WE.abs = l
  len : ∀ w ∈ ws, w.bs.length = 256

structure DX where
  lm : Nat
  nm : Nat
  la : Option Addr
  lc : Nat
  ws : List WE

def DRep (d : Nat) (S : DS) : Asrt := fun r => ∃ x : DX, WOk x.ws S.loose ∧ sep [Blk d (dobj S.most S.pages x.lm (.slice x.la x.ws.length x.lc) x.nm S.fuse S.burns), PM x.lm S.last, PM x.nm S.now, Sl 68 2 x.la x.ws.length x.lc (wcells x.ws), Star (x.ws.map WE.asrt)] r

instance {d : Nat} {S : DS} : Opens (DRep d S) DX (fun x => WOk x.ws S.loose) (fun x => [Blk d (dobj S.most S.pages x.lm (.slice x.la x.ws.length x.lc) x.nm S.fuse S.burns), PM x.lm S.last, PM x.nm S.now, Sl 68 2 x.la x.ws.length x.lc (wcells x.ws), Star (x.ws.map WE.asrt)]) := ⟨fun _ h => h⟩

def DS.dead (S : DS) : Bool := S.burns && decide (S.fuse = 0)
def DS.has (S : DS) (p : Int) : Prop := 0 ≤ p ∧ p < S.pages
instance (S : DS) (p : Int) : Decidable (S.has p) := by unfold DS.has; infer_instance

theorem DRep.shut {d : Nat} {S : DS} (x : DX) (h : WOk x.ws S.loose) : ∀ r, sep [Blk d (dobj S.most S.pages x.lm (.slice x.la x.ws.length x.lc) x.nm S.fuse S.burns), PM x.lm S.last, PM x.nm S.now, Sl 68 2 x.la x.ws.length x.lc (wcells x.ws), Star (x.ws.map WE.asrt)] r → DRep d S r :=
  fun _ hr => ⟨x, h, hr⟩

theorem DRep.mk {d : Nat} {S : DS} {most pages fuse : Int} {lm nm ln lc : Nat} {la : Option Addr} {burns : Bool} {last now : Int → Option Bytes} {xs : List Value} (ws : List WE)
    (h : WOk ws S.loose) (hS : most = S.most ∧ pages = S.pages ∧ fuse = S.fuse ∧ burns = S.burns ∧ last = S.last ∧ now = S.now) (hl : ln = ws.length) (hx : xs = wcells ws) :
    ∀ r, sep [Blk d (dobj most pages lm (.slice la ln lc) nm fuse burns), PM lm last, PM nm now, Sl 68 2 la ln lc xs, Star (ws.map WE.asrt)] r → DRep d S r := by
  intro r hr
  obtain ⟨rfl, rfl, rfl, rfl, rfl, rfl⟩ := hS
  subst hl; subst hx
  exact ⟨⟨lm, nm, la, lc, ws⟩, h, hr⟩

theorem pages_d (d : Nat) (S : DS) : Fn Try.prog 21 [.pointer (some ⟨d, 0, none⟩)] [DRep d S] (fun v L => v = .int .i64 S.pages ∧ L = [DRep d S]) := by
  refine fn_open (A := DRep d S) Rem.here (fun x hx => ?_)
  simp only [List.append_eq, List.cons_append, List.nil_append, List.append_nil, tup]
  refine (pages_fn d S.most S.pages x.lm x.nm x.la x.ws.length x.lc S.fuse S.burns).frame (by repeat (first | with_reducible exact Takes.nil | (apply Takes.cons; focus (repeat (first | with_reducible exact Rem.here | apply Rem.there))))) ?_
  rintro _ _ ⟨rfl, rfl⟩
  refine ⟨_, _, ⟨rfl, rfl⟩, rfl, ?_⟩
  simp only [List.append_eq, List.cons_append, List.nil_append, List.append_nil, tup]
  exact Ent.shut (by repeat (first | with_reducible exact Takes.nil | (apply Takes.cons; focus (repeat (first | with_reducible exact Rem.here | apply Rem.there))))) (DRep.shut x hx)


theorem loose_d (d : Nat) (S : DS) : Fn Try.prog 20 [.pointer (some ⟨d, 0, none⟩)] [DRep d S] (fun v L => v = .int .i64 (S.loose.length : Int) ∧ L = [DRep d S]) := by
  refine fn_open (A := DRep d S) Rem.here (fun x hx => ?_)
  simp only [List.append_eq, List.cons_append, List.nil_append, List.append_nil, tup]
  refine (loose_fn d S.most S.pages x.lm x.nm x.la x.ws.length x.lc S.fuse S.burns).frame (by repeat (first | with_reducible exact Takes.nil | (apply Takes.cons; focus (repeat (first | with_reducible exact Rem.here | apply Rem.there))))) ?_
  rintro _ _ ⟨rfl, rfl⟩
  refine ⟨_, _, ⟨by rw [← hx.abs, List.length_map], rfl⟩, rfl, ?_⟩
  simp only [List.append_eq, List.cons_append, List.nil_append, List.append_nil, tup]
  exact Ent.shut (by repeat (first | with_reducible exact Takes.nil | (apply Takes.cons; focus (repeat (first | with_reducible exact Rem.here | apply Rem.there))))) (DRep.shut x hx)

theorem dead_d (d : Nat) (S : DS) : Fn Try.prog 19 [.pointer (some ⟨d, 0, none⟩)] [DRep d S] (fun v L => v = .bool S.dead ∧ L = [DRep d S]) := by
  refine fn_open (A := DRep d S) Rem.here (fun x hx => ?_)
  simp only [List.append_eq, List.cons_append, List.nil_append, List.append_nil, tup]
  refine (dead_fn d S.most S.pages x.lm x.nm x.la x.ws.length x.lc S.fuse S.burns).frame (by repeat (first | with_reducible exact Takes.nil | (apply Takes.cons; focus (repeat (first | with_reducible exact Rem.here | apply Rem.there))))) ?_
  rintro _ _ ⟨rfl, rfl⟩
  refine ⟨_, _, ⟨rfl, rfl⟩, rfl, ?_⟩
  simp only [List.append_eq, List.cons_append, List.nil_append, List.append_nil, tup]
  exact Ent.shut (by repeat (first | with_reducible exact Takes.nil | (apply Takes.cons; focus (repeat (first | with_reducible exact Rem.here | apply Rem.there))))) (DRep.shut x hx)

/-- An entailment at the function's end. -/
theorem grow_d (d : Nat) (S : DS) (n : Int) : Fn Try.prog 12 [.pointer (some ⟨d, 0, none⟩), .int .i64 n] [DRep d S]
    (fun v L => ∃ S' c, v = .int .i64 c ∧ L = [DRep d S'] ∧ (if S.most < n then c = 32 ∧ S' = S else if S.dead = true then c = 33 ∧ S' = S else c = 0 ∧ S' = { S with pages := max S.pages n })) := by
  refine fn_open (A := DRep d S) Rem.here (fun x hx => ?_)
  simp only [List.append_eq, List.cons_append, List.nil_append, List.append_nil, tup]
  refine fn_start Try.func12 rfl rfl rfl fun F => ?_
  by_cases h1 : S.most < n
  · refine c_seq ?_
    refine c_region ?_
    refine o_y (y_assign rfl) rfl ?_
    refine o_nil ?_
    refine f_seq ?_
    refine c_seq ?_
    refine c_seq ?_
    refine c_region ?_
    refine o_y (y_move rfl) rfl ?_
    refine o_y (y_move rfl) rfl ?_
    refine o_y (y_nilCheck rfl) rfl ?_
    refine o_y (y_fieldAddr0 rfl) rfl ?_
    refine o_y (y_load rfl rfl rfl) rfl ?_
    refine o_y (y_gtr_t rfl rfl (by omega)) rfl ?_
    refine o_nil ?_
    refine f_seq ?_
    refine c_true rfl ?_
    refine c_seq ?_
    refine c_region ?_
    refine o_y (y_assign rfl) rfl ?_
    refine o_nil ?_
    refine f_seq ?_
    refine c_ret ?_
    refine f_seq_ret ?_
    refine f_ent (Ent.shut (by repeat (first | with_reducible exact Takes.nil | (apply Takes.cons; focus (repeat (first | with_reducible exact Rem.here | apply Rem.there))))) (DRep.shut x hx)) (f_ret rfl ⟨S, 32, rfl, rfl, ?_⟩)
    rw [if_pos h1]; exact ⟨rfl, rfl⟩
  · refine c_seq ?_
    refine c_region ?_
    refine o_y (y_assign rfl) rfl ?_
    refine o_nil ?_
    refine f_seq ?_
    refine c_seq ?_
    refine c_seq ?_
    refine c_region ?_
    refine o_y (y_move rfl) rfl ?_
    refine o_y (y_move rfl) rfl ?_
    refine o_y (y_nilCheck rfl) rfl ?_
    refine o_y (y_fieldAddr0 rfl) rfl ?_
    refine o_y (y_load rfl rfl rfl) rfl ?_
    refine o_y (y_gtr_f rfl rfl (by omega)) rfl ?_
    refine o_nil ?_
    refine f_seq ?_
    refine c_false rfl ?_
    refine c_skip ?_
    refine f_seq ?_
    refine c_seq ?_
    refine c_seq ?_
    refine c_region ?_
    refine o_y (y_move rfl) rfl ?_
    refine o_call rfl (dead_fn d S.most S.pages x.lm x.nm x.la x.ws.length x.lc S.fuse S.burns) (by repeat (first | with_reducible exact Takes.nil | (apply Takes.cons; focus (repeat (first | with_reducible exact Rem.here | apply Rem.there))))) rfl ?_
    rintro _ _ ⟨rfl, rfl⟩
    simp only [List.append_eq, List.cons_append, List.nil_append, List.append_nil, tup]
    cases hb : (S.burns && decide (S.fuse = 0))
    · refine o_nil ?_
      refine f_seq ?_
      refine c_false rfl ?_
      refine c_skip ?_
      refine f_seq ?_
      refine c_seq ?_
      refine c_region ?_
      refine o_y (y_move rfl) rfl ?_
      refine o_y (y_move rfl) rfl ?_
      refine o_y (y_nilCheck rfl) rfl ?_
      refine o_y (y_fieldAddr0 rfl) rfl ?_
      refine o_y (y_load rfl rfl rfl) rfl ?_
      refine o_y (y_move rfl) rfl ?_
      refine o_y (y_max rfl rfl) rfl ?_
      refine o_y (y_nilCheck rfl) rfl ?_
      refine o_y (y_fieldAddr0 rfl) rfl ?_
      refine o_store rfl rfl rfl frz0 ?_
      refine o_nil ?_
      refine f_seq ?_
      refine c_seq ?_
      refine c_region ?_
      refine o_y (y_assign rfl) rfl ?_
      refine o_nil ?_
      refine f_seq ?_
      refine c_ret ?_
      refine f_ent (Ent.shut (by repeat (first | with_reducible exact Takes.nil | (apply Takes.cons; focus (repeat (first | with_reducible exact Rem.here | apply Rem.there))))) (DRep.shut (S := { S with pages := max S.pages n }) x hx)) (f_ret rfl ⟨_, 0, rfl, rfl, ?_⟩)
      rw [if_neg h1, if_neg (by simp [DS.dead, hb])]; exact ⟨rfl, rfl⟩
    · refine o_nil ?_
      refine f_seq ?_
      refine c_true rfl ?_
      refine c_seq ?_
      refine c_region ?_
      refine o_y (y_assign rfl) rfl ?_
      refine o_nil ?_
      refine f_seq ?_
      refine c_ret ?_
      refine f_seq_ret ?_
      refine f_ent (Ent.shut (by repeat (first | with_reducible exact Takes.nil | (apply Takes.cons; focus (repeat (first | with_reducible exact Rem.here | apply Rem.there))))) (DRep.shut x hx)) (f_ret rfl ⟨S, 33, rfl, rfl, ?_⟩)
      rw [if_neg h1, if_pos (by simp [DS.dead, hb])]; exact ⟨rfl, rfl⟩

end Go.Lun

/- The disk's Read, Fuse, done, New. -/
import Derived.Test.YtijahemmbooblaaDisk3
namespace Go.Lun
open Go.Proofs

theorem pm_clear (m ck : Nat) : ∀ r, sep [Blk m (.map #[] ck)] r → PM m (fun _ => none) r := fun r hr => ⟨[], ck, PMok.clear, by
  obtain ⟨a, b, hc, rfl, h1, h2⟩ := hr
  exact ⟨a, b, hc, rfl, h1, sep_single trivial⟩⟩
theorem pm_new (m : Nat) : ∀ r, sep [Blk m (.map #[] 0)] r → PM m (fun _ => none) r := pm_clear m 0

theorem done_f (d : Nat) (most pages fuse : Int) (lm nm ln lc : Nat) (la : Option Addr) (burns : Bool) (now : Int → Option Bytes) :
    Fn Try.prog 30 [.pointer (some ⟨d, 0, none⟩)] [Blk d (dobj most pages lm (.slice la ln lc) nm fuse burns), PM nm now]
    (fun v L => v = .tuple ⟨[]⟩ ∧ L = [Blk d (dobj most pages lm (.slice none 0 0) nm fuse burns), PM nm fun _ => none]) := by
  refine fn_open (A := PM nm now) (.there .here) (fun y hy => ?_)
  obtain ⟨es, ck⟩ := y
  simp only [List.append_eq, List.cons_append, List.nil_append, List.append_nil, tup]
  refine fn_start Try.func30 rfl rfl rfl fun F => ?_
  refine c_seq ?_
  refine c_region ?_
  refine o_y (y_move rfl) rfl ?_
  refine o_y (y_nilCheck rfl) rfl ?_
  refine o_y (y_fieldAddr0 rfl) rfl ?_
  refine o_y (y_load rfl rfl rfl) rfl ?_
  refine o_clear rfl rfl ?_
  refine o_nil ?_
  refine f_seq ?_
  refine c_region ?_
  refine o_y (y_move rfl) rfl ?_
  refine o_y (y_nilCheck rfl) rfl ?_
  refine o_y (y_fieldAddr0 rfl) rfl ?_
  refine o_store rfl rfl rfl frz0 ?_
  refine o_nil ?_
  refine f_ent ?_ (f_end rfl ⟨rfl, rfl⟩)
  refine Ent.one (by repeat (first | with_reducible exact Rem.here | apply Rem.there)) ?_
  refine Ent.put (P := [Blk nm (.map #[] ck)]) (by repeat (first | with_reducible exact Takes.nil | (apply Takes.cons; focus (repeat (first | with_reducible exact Rem.here | apply Rem.there))))) (fun r hr => ⟨[], ck, PMok.clear, ?_⟩) Ent.nil
  obtain ⟨a, b, hc, rfl, h1, h2⟩ := hr
  exact ⟨a, b, hc, rfl, h1, sep_single trivial⟩

theorem fuse_d (d : Nat) (S : DS) (n : Int) : Fn Try.prog 18 [.pointer (some ⟨d, 0, none⟩), .int .i64 n] [DRep d S]
    (fun v L => v = .tuple ⟨[]⟩ ∧ L = [DRep d (if S.dead = true then S else { S with fuse := max n 0, burns := true })]) := by
  refine fn_open (A := DRep d S) Rem.here (fun x hx => ?_)
  simp only [List.append_eq, List.cons_append, List.nil_append, List.append_nil, tup]
  refine fn_start Try.func18 rfl rfl rfl fun F => ?_
  refine c_seq ?_
  refine c_region ?_
  refine o_y (y_move rfl) rfl ?_
  refine o_call rfl (dead_fn d S.most S.pages x.lm x.nm x.la x.ws.length x.lc S.fuse S.burns) (by repeat (first | with_reducible exact Takes.nil | (apply Takes.cons; focus (repeat (first | with_reducible exact Rem.here | apply Rem.there))))) rfl ?_
  rintro _ _ ⟨rfl, rfl⟩
  simp only [List.append_eq, List.cons_append, List.nil_append, List.append_nil, tup]
  cases hb : (S.burns && decide (S.fuse = 0))
  · refine o_y (y_not rfl) rfl ?_
    refine o_nil ?_
    refine f_seq ?_
    refine c_true rfl ?_
    refine c_region ?_
    refine o_y (y_move rfl) rfl ?_
    refine o_y (y_move rfl) rfl ?_
    refine o_y (y_move rfl) rfl ?_
    refine o_y (y_max rfl rfl) rfl ?_
    refine o_y (y_nilCheck rfl) rfl ?_
    refine o_y (y_fieldAddr0 rfl) rfl ?_
    refine o_store rfl rfl rfl frz0 ?_
    refine o_y (y_nilCheck rfl) rfl ?_
    refine o_y (y_fieldAddr0 rfl) rfl ?_
    refine o_store rfl rfl rfl frz0 ?_
    refine o_nil ?_
    refine f_ent ?_ (f_end rfl ⟨rfl, rfl⟩)
    rw [if_neg (by simp [DS.dead, hb])]
    refine Ent.put (by repeat (first | with_reducible exact Takes.nil | (apply Takes.cons; focus (repeat (first | with_reducible exact Rem.here | apply Rem.there))))) (DRep.shut (S := { S with fuse := max n 0, burns := true }) x hx) ?_
    repeat (first | with_reducible exact Ent.nil | (apply Ent.one; focus (repeat (first | with_reducible exact Rem.here | apply Rem.there))))
  · refine o_y (y_not rfl) rfl ?_
    refine o_nil ?_
    refine f_seq ?_
    refine c_false rfl ?_
    refine c_skip ?_
    refine f_ent ?_ (f_end rfl ⟨rfl, rfl⟩)
    rw [if_pos (by simp [DS.dead, hb])]
    refine Ent.put (by repeat (first | with_reducible exact Takes.nil | (apply Takes.cons; focus (repeat (first | with_reducible exact Rem.here | apply Rem.there))))) (DRep.shut x hx) ?_
    repeat (first | with_reducible exact Ent.nil | (apply Ent.one; focus (repeat (first | with_reducible exact Rem.here | apply Rem.there))))

def DS.new (most : Int) : DS := { most := most, pages := 0, last := fun _ => none, now := fun _ => none, loose := [], fuse := 0, burns := false }

theorem new_d (most : Int) : Fn Try.prog 10 [.int .i64 most] []
    (fun v L => (¬ (1 ≤ most ∧ most ≤ 4096) ∧ v = .tuple ⟨[.pointer none, .int .i64 32]⟩ ∧ L = []) ∨ ((1 ≤ most ∧ most ≤ 4096) ∧ ∃ d, v = .tuple ⟨[.pointer (some ⟨d, 0, none⟩), .int .i64 0]⟩ ∧ L = [DRep d (DS.new most)])) := by
  refine fn_start Try.func10 rfl rfl rfl fun F => ?_
  by_cases h1 : most < 1
  · refine c_seq ?_
    refine c_region ?_
    refine o_y (y_assign rfl) rfl ?_
    refine o_y (y_assign rfl) rfl ?_
    refine o_nil ?_
    refine f_seq ?_
    refine c_seq ?_
    refine c_seq ?_
    refine c_region ?_
    refine o_y (y_move rfl) rfl ?_
    refine o_y (y_lss_t rfl rfl (by omega)) rfl ?_
    refine o_y (y_move rfl) rfl ?_
    refine o_skip rfl rfl ?_
    refine o_skip rfl rfl ?_
    refine o_y (y_pick_t rfl rfl) rfl ?_
    refine o_nil ?_
    refine f_seq ?_
    refine c_true rfl ?_
    refine c_seq ?_
    refine c_region ?_
    refine o_y (y_assign rfl) rfl ?_
    refine o_y (y_assign rfl) rfl ?_
    refine o_nil ?_
    refine f_seq ?_
    refine c_ret ?_
    refine f_seq_ret ?_
    exact f_ret rfl (.inl ⟨by omega, rfl, rfl⟩)
  · by_cases h2 : most > 4096
    · refine c_seq ?_
      refine c_region ?_
      refine o_y (y_assign rfl) rfl ?_
      refine o_y (y_assign rfl) rfl ?_
      refine o_nil ?_
      refine f_seq ?_
      refine c_seq ?_
      refine c_seq ?_
      refine c_region ?_
      refine o_y (y_move rfl) rfl ?_
      refine o_y (y_lss_f rfl rfl (by omega)) rfl ?_
      refine o_y (y_move rfl) rfl ?_
      refine o_want rfl ?_
      refine o_y (y_move rfl) rfl ?_
      refine o_want rfl ?_
      refine o_y (y_gtr_t rfl rfl (by omega)) rfl ?_
      refine o_y (y_pick_f rfl rfl) rfl ?_
      refine o_nil ?_
      refine f_seq ?_
      refine c_true rfl ?_
      refine c_seq ?_
      refine c_region ?_
      refine o_y (y_assign rfl) rfl ?_
      refine o_y (y_assign rfl) rfl ?_
      refine o_nil ?_
      refine f_seq ?_
      refine c_ret ?_
      refine f_seq_ret ?_
      exact f_ret rfl (.inl ⟨by omega, rfl, rfl⟩)
    · refine c_seq ?_
      refine c_region ?_
      refine o_y (y_assign rfl) rfl ?_
      refine o_y (y_assign rfl) rfl ?_
      refine o_nil ?_
      refine f_seq ?_
      refine c_seq ?_
      refine c_seq ?_
      refine c_region ?_
      refine o_y (y_move rfl) rfl ?_
      refine o_y (y_lss_f rfl rfl (by omega)) rfl ?_
      refine o_y (y_move rfl) rfl ?_
      refine o_want rfl ?_
      refine o_y (y_move rfl) rfl ?_
      refine o_want rfl ?_
      refine o_y (y_gtr_f rfl rfl (by omega)) rfl ?_
      refine o_y (y_pick_f rfl rfl) rfl ?_
      refine o_nil ?_
      refine f_seq ?_
      refine c_false rfl ?_
      refine c_skip ?_
      refine f_seq ?_
      refine c_seq ?_
      refine c_region ?_
      refine o_y (y_move rfl) rfl ?_
      refine o_makeMap rfl (fun nb => ?_)
      refine o_makeMap rfl (fun nb => ?_)
      refine o_y (y_build rfl) rfl ?_
      refine o_box rfl rfl (fun nb => ?_)
      refine o_y (y_assign rfl) rfl ?_
      refine o_y (y_assign rfl) rfl ?_
      refine o_nil ?_
      refine f_seq ?_
      refine c_ret ?_
      refine f_ent ?_ (f_ret rfl (.inr ⟨by omega, _, rfl, rfl⟩))
      rename_i n1 n2
      refine Ent.trans (M := [Blk nb (dobj most 0 n1 (.slice none 0 0) n2 0 false), PM n1 (fun _ => none), PM n2 (fun _ => none), Sl 68 2 none 0 0 [], Star (([] : List WE).map WE.asrt)]) ?_ (Ent.put (by repeat (first | with_reducible exact Takes.nil | (apply Takes.cons; focus (repeat (first | with_reducible exact Rem.here | apply Rem.there))))) (DRep.mk (S := DS.new most) [] ⟨rfl, by simp⟩ ?_ ?_ ?_) Ent.nil)
      rotate_left
      · exact ⟨rfl, rfl, rfl, rfl, rfl, rfl⟩
      · rfl
      · rfl
      refine Ent.one (by repeat (first | with_reducible exact Rem.here | apply Rem.there)) ?_
      refine Ent.put (by repeat (first | with_reducible exact Takes.nil | (apply Takes.cons; focus (repeat (first | with_reducible exact Rem.here | apply Rem.there))))) (pm_new n1) ?_
      refine Ent.put (by repeat (first | with_reducible exact Takes.nil | (apply Takes.cons; focus (repeat (first | with_reducible exact Rem.here | apply Rem.there))))) (pm_new n2) ?_
      refine Ent.put (P := []) (by repeat (first | with_reducible exact Takes.nil | (apply Takes.cons; focus (repeat (first | with_reducible exact Rem.here | apply Rem.there))))) (fun r _ => ⟨rfl, .inl ⟨rfl, rfl, rfl⟩⟩) ?_
      exact Ent.put (P := []) (by repeat (first | with_reducible exact Takes.nil | (apply Takes.cons; focus (repeat (first | with_reducible exact Rem.here | apply Rem.there))))) (fun r _ => trivial) Ent.nil

def DS.read (S : DS) (p : Int) : Bytes := match S.now p with
  | some l => l
  | none => (S.last p).getD (List.replicate 256 0)

theorem read_d (d : Nat) (S : DS) (page : Int) : Fn Try.prog 17 [.pointer (some ⟨d, 0, none⟩), .int .i64 page] [DRep d S]
    (fun v L => (¬ S.has page ∧ v = .tuple ⟨[.slice none 0 0, .int .i64 30]⟩ ∧ L = [DRep d S]) ∨ (S.has page ∧ ∃ b, v = .tuple ⟨[pageV b, .int .i64 0]⟩ ∧ L = [Blk b (bobj (S.read page)), DRep d S] ∧ (S.read page).length = 256)) := by
  refine fn_open (A := DRep d S) Rem.here (fun x hx => ?_)
  refine fn_open (A := PM x.nm S.now) (.there (.there .here)) (fun y hy => ?_)
  obtain ⟨es, ck⟩ := y
  refine fn_open (A := PM x.lm S.last) (.there (.there (.there .here))) (fun y hz => ?_)
  obtain ⟨fs, ck2⟩ := y
  simp only [List.append_eq, List.cons_append, List.nil_append, List.append_nil, tup]
  refine fn_start Try.func17 rfl rfl rfl fun F => ?_
  refine c_seq ?_
  refine c_region ?_
  refine o_y (y_assign rfl) rfl ?_
  refine o_y (y_assign rfl) rfl ?_
  refine o_nil ?_
  refine f_seq ?_
  refine c_seq ?_
  refine c_seq ?_
  refine c_region ?_
  refine o_y (y_move rfl) rfl ?_
  refine o_y (y_move rfl) rfl ?_
  refine o_call rfl (has_fn d S.most S.pages x.lm x.nm x.la x.ws.length x.lc S.fuse S.burns page) (by repeat (first | with_reducible exact Takes.nil | (apply Takes.cons; focus (repeat (first | with_reducible exact Rem.here | apply Rem.there))))) rfl ?_
  rintro _ _ ⟨rfl, rfl⟩
  simp only [List.append_eq, List.cons_append, List.nil_append, List.append_nil, tup]
  by_cases hp : S.has page
  case neg =>
    have hp' : decide (0 ≤ page ∧ page < S.pages) = false := by simpa [DS.has] using hp
    rw [hp']
    refine o_y (y_not rfl) rfl ?_
    refine o_nil ?_
    refine f_seq ?_
    refine c_true rfl ?_
    refine c_seq ?_
    refine c_region ?_
    refine o_y (y_assign rfl) rfl ?_
    refine o_y (y_assign rfl) rfl ?_
    refine o_nil ?_
    refine f_seq ?_
    refine c_ret ?_
    refine f_seq_ret ?_
    refine f_ent ?_ (f_ret rfl (.inl ⟨hp, rfl, rfl⟩))
    refine (Ent.shut (A := PM x.nm S.now) (by repeat (first | with_reducible exact Takes.nil | (apply Takes.cons; focus (repeat (first | with_reducible exact Rem.here | apply Rem.there))))) (PM.shut hy)).trans ?_
    refine (Ent.shut (A := PM x.lm S.last) (by repeat (first | with_reducible exact Takes.nil | (apply Takes.cons; focus (repeat (first | with_reducible exact Rem.here | apply Rem.there))))) (PM.shut hz)).trans ?_
    refine Ent.put (by repeat (first | with_reducible exact Takes.nil | (apply Takes.cons; focus (repeat (first | with_reducible exact Rem.here | apply Rem.there))))) (DRep.shut x hx) ?_
    repeat (first | with_reducible exact Ent.nil | (apply Ent.one; focus (repeat (first | with_reducible exact Rem.here | apply Rem.there))))
  case pos =>
    have hp' : decide (0 ≤ page ∧ page < S.pages) = true := by simpa [DS.has] using hp
    rw [hp']
    cases hf : pfind es page
    case some e =>
      have hm : mget (es.map PE.ent) page = some (pageV e.blk) := by rw [mget_pe, hf]; rfl
      have hb : e.bs.length = 256 := hy.len e (pfind_some hf).1
      have hr : S.read page = e.bs := by have := hy.get page; simp only [hf, Option.map_some] at this; simp [DS.read, ← this]
      refine o_y (y_not rfl) rfl ?_
      refine o_nil ?_
      refine f_seq ?_
      refine c_false rfl ?_
      refine c_skip ?_
      refine f_seq ?_
      refine c_seq ?_
      refine c_seq ?_
      refine c_region ?_
      refine o_y (y_move rfl) rfl ?_
      refine o_y (y_nilCheck rfl) rfl ?_
      refine o_y (y_fieldAddr0 rfl) rfl ?_
      refine o_y (y_load rfl rfl rfl) rfl ?_
      refine o_y (y_move rfl) rfl ?_
      refine o_y (y_lookup_okv rfl rfl (by assumption)) rfl ?_
      refine o_y (y_move rfl) rfl ?_
      refine o_y (y_extract rfl rfl) rfl ?_
      refine o_y (y_extract rfl rfl) rfl ?_
      refine o_y (y_assign rfl) rfl ?_
      refine o_y (y_assign rfl) rfl ?_
      refine o_nil ?_
      refine f_seq ?_
      refine c_seq ?_
      refine c_region ?_
      refine o_y (y_move rfl) rfl ?_
      refine o_nil ?_
      refine f_seq ?_
      refine c_true rfl ?_
      refine c_seq ?_
      refine c_region ?_
      refine o_y (y_move rfl) rfl ?_
      obtain ⟨rs, hsh, hbk, _⟩ := pe_open hf
      refine o_ent (Takes.ent_of (by repeat (first | with_reducible exact Takes.nil | (apply Takes.cons; focus (repeat (first | with_reducible exact Rem.here | apply Rem.there))))) hsh) ?_
      simp only [List.append_eq, List.cons_append, List.nil_append, List.append_nil, tup]
      refine o_call rfl (copied_at true e.blk 0 256 256 (e.bs.map byteV) 5 (0, 0) e.bs (by have := getN_front (e.bs.map byteV) []; simpa [hb] using this)) (by repeat (first | with_reducible exact Takes.nil | (apply Takes.cons; focus (repeat (first | with_reducible exact Rem.here | apply Rem.there))))) rfl ?_
      rintro _ _ ⟨b, rfl, rfl⟩
      simp only [List.append_eq, List.cons_append, List.nil_append, List.append_nil, tup]
      refine o_y (y_assign rfl) rfl ?_
      refine o_y (y_assign rfl) rfl ?_
      refine o_nil ?_
      refine f_seq ?_
      refine c_ret ?_
      refine f_seq_ret ?_
      refine f_ent ?_ (f_ret rfl (.inr ⟨hp, b, rfl, rfl, by rw [hr, hb]⟩))
      rw [hr, pad_full hb]
      refine Ent.one (by repeat (first | with_reducible exact Rem.here | apply Rem.there)) ?_
      refine (Takes.ent_of (by repeat (first | with_reducible exact Takes.nil | (apply Takes.cons; focus (repeat (first | with_reducible exact Rem.here | apply Rem.there))))) hbk).trans ?_
      simp only [List.append_eq, List.cons_append, List.nil_append, List.append_nil, tup]
      refine (Ent.shut (A := PM x.nm S.now) (by repeat (first | with_reducible exact Takes.nil | (apply Takes.cons; focus (repeat (first | with_reducible exact Rem.here | apply Rem.there))))) (PM.shut hy)).trans ?_
      refine (Ent.shut (A := PM x.lm S.last) (by repeat (first | with_reducible exact Takes.nil | (apply Takes.cons; focus (repeat (first | with_reducible exact Rem.here | apply Rem.there))))) (PM.shut hz)).trans ?_
      refine Ent.put (by repeat (first | with_reducible exact Takes.nil | (apply Takes.cons; focus (repeat (first | with_reducible exact Rem.here | apply Rem.there))))) (DRep.shut x hx) ?_
      repeat (first | with_reducible exact Ent.nil | (apply Ent.one; focus (repeat (first | with_reducible exact Rem.here | apply Rem.there))))
    case none =>
      have hm : mget (es.map PE.ent) page = none := by rw [mget_pe, hf]; rfl
      have hn : S.now page = none := by have := hy.get page; simp only [hf, Option.map_none] at this; exact this.symm
      cases hg : pfind fs page
      case some e =>
        have hm2 : mget (fs.map PE.ent) page = some (pageV e.blk) := by rw [mget_pe, hg]; rfl
        have hb : e.bs.length = 256 := hz.len e (pfind_some hg).1
        have hr : S.read page = e.bs := by have := hz.get page; simp only [hg, Option.map_some] at this; simp [DS.read, hn, ← this]
        refine o_y (y_not rfl) rfl ?_
        refine o_nil ?_
        refine f_seq ?_
        refine c_false rfl ?_
        refine c_skip ?_
        refine f_seq ?_
        refine c_seq ?_
        refine c_seq ?_
        refine c_region ?_
        refine o_y (y_move rfl) rfl ?_
        refine o_y (y_nilCheck rfl) rfl ?_
        refine o_y (y_fieldAddr0 rfl) rfl ?_
        refine o_y (y_load rfl rfl rfl) rfl ?_
        refine o_y (y_move rfl) rfl ?_
        refine o_y (y_lookup_okz rfl rfl (by assumption)) rfl ?_
        refine o_y (y_move rfl) rfl ?_
        refine o_y (y_extract rfl rfl) rfl ?_
        refine o_y (y_extract rfl rfl) rfl ?_
        refine o_y (y_assign rfl) rfl ?_
        refine o_y (y_assign rfl) rfl ?_
        refine o_nil ?_
        refine f_seq ?_
        refine c_seq ?_
        refine c_region ?_
        refine o_y (y_move rfl) rfl ?_
        refine o_nil ?_
        refine f_seq ?_
        refine c_false rfl ?_
        refine c_skip ?_
        refine f_seq ?_
        refine c_seq ?_
        refine c_region ?_
        refine o_y (y_move rfl) rfl ?_
        refine o_y (y_nilCheck rfl) rfl ?_
        refine o_y (y_fieldAddr0 rfl) rfl ?_
        refine o_y (y_load rfl rfl rfl) rfl ?_
        refine o_y (y_move rfl) rfl ?_
        refine o_y (y_lookup_v rfl rfl (by assumption)) rfl ?_
        obtain ⟨rs, hsh, hbk, _⟩ := pe_open hg
        refine o_ent (Takes.ent_of (by repeat (first | with_reducible exact Takes.nil | (apply Takes.cons; focus (repeat (first | with_reducible exact Rem.here | apply Rem.there))))) hsh) ?_
        simp only [List.append_eq, List.cons_append, List.nil_append, List.append_nil, tup]
        refine o_call rfl (copied_at true e.blk 0 256 256 (e.bs.map byteV) 5 (0, 0) e.bs (by have := getN_front (e.bs.map byteV) []; simpa [hb] using this)) (by repeat (first | with_reducible exact Takes.nil | (apply Takes.cons; focus (repeat (first | with_reducible exact Rem.here | apply Rem.there))))) rfl ?_
        rintro _ _ ⟨b, rfl, rfl⟩
        simp only [List.append_eq, List.cons_append, List.nil_append, List.append_nil, tup]
        refine o_y (y_assign rfl) rfl ?_
        refine o_y (y_assign rfl) rfl ?_
        refine o_nil ?_
        refine f_seq ?_
        refine c_ret ?_
        refine f_ent ?_ (f_ret rfl (.inr ⟨hp, b, rfl, rfl, by rw [hr, hb]⟩))
        rw [hr, pad_full hb]
        refine Ent.one (by repeat (first | with_reducible exact Rem.here | apply Rem.there)) ?_
        refine (Takes.ent_of (by repeat (first | with_reducible exact Takes.nil | (apply Takes.cons; focus (repeat (first | with_reducible exact Rem.here | apply Rem.there))))) hbk).trans ?_
        simp only [List.append_eq, List.cons_append, List.nil_append, List.append_nil, tup]
        refine (Ent.shut (A := PM x.nm S.now) (by repeat (first | with_reducible exact Takes.nil | (apply Takes.cons; focus (repeat (first | with_reducible exact Rem.here | apply Rem.there))))) (PM.shut hy)).trans ?_
        refine (Ent.shut (A := PM x.lm S.last) (by repeat (first | with_reducible exact Takes.nil | (apply Takes.cons; focus (repeat (first | with_reducible exact Rem.here | apply Rem.there))))) (PM.shut hz)).trans ?_
        refine Ent.put (by repeat (first | with_reducible exact Takes.nil | (apply Takes.cons; focus (repeat (first | with_reducible exact Rem.here | apply Rem.there))))) (DRep.shut x hx) ?_
        repeat (first | with_reducible exact Ent.nil | (apply Ent.one; focus (repeat (first | with_reducible exact Rem.here | apply Rem.there))))
      case none =>
        have hm2 : mget (fs.map PE.ent) page = none := by rw [mget_pe, hg]; rfl
        have hr : S.read page = pad [] := by have := hz.get page; simp only [hg, Option.map_none] at this; simp only [DS.read, hn, ← this, Option.getD_none]; rfl
        refine o_y (y_not rfl) rfl ?_
        refine o_nil ?_
        refine f_seq ?_
        refine c_false rfl ?_
        refine c_skip ?_
        refine f_seq ?_
        refine c_seq ?_
        refine c_seq ?_
        refine c_region ?_
        refine o_y (y_move rfl) rfl ?_
        refine o_y (y_nilCheck rfl) rfl ?_
        refine o_y (y_fieldAddr0 rfl) rfl ?_
        refine o_y (y_load rfl rfl rfl) rfl ?_
        refine o_y (y_move rfl) rfl ?_
        refine o_y (y_lookup_okz rfl rfl (by assumption)) rfl ?_
        refine o_y (y_move rfl) rfl ?_
        refine o_y (y_extract rfl rfl) rfl ?_
        refine o_y (y_extract rfl rfl) rfl ?_
        refine o_y (y_assign rfl) rfl ?_
        refine o_y (y_assign rfl) rfl ?_
        refine o_nil ?_
        refine f_seq ?_
        refine c_seq ?_
        refine c_region ?_
        refine o_y (y_move rfl) rfl ?_
        refine o_nil ?_
        refine f_seq ?_
        refine c_false rfl ?_
        refine c_skip ?_
        refine f_seq ?_
        refine c_seq ?_
        refine c_region ?_
        refine o_y (y_move rfl) rfl ?_
        refine o_y (y_nilCheck rfl) rfl ?_
        refine o_y (y_fieldAddr0 rfl) rfl ?_
        refine o_y (y_load rfl rfl rfl) rfl ?_
        refine o_y (y_move rfl) rfl ?_
        refine o_y (y_lookup_z rfl rfl (by assumption)) rfl ?_
        refine o_call rfl copied_nil (by repeat (first | with_reducible exact Takes.nil | (apply Takes.cons; focus (repeat (first | with_reducible exact Rem.here | apply Rem.there))))) rfl ?_
        rintro _ _ ⟨b, rfl, rfl⟩
        simp only [List.append_eq, List.cons_append, List.nil_append, List.append_nil, tup]
        refine o_y (y_assign rfl) rfl ?_
        refine o_y (y_assign rfl) rfl ?_
        refine o_nil ?_
        refine f_seq ?_
        refine c_ret ?_
        refine f_ent ?_ (f_ret rfl (.inr ⟨hp, b, rfl, rfl, by rw [hr]; exact pad_len _⟩))
        rw [hr]
        refine Ent.one (by repeat (first | with_reducible exact Rem.here | apply Rem.there)) ?_
        refine (Ent.shut (A := PM x.nm S.now) (by repeat (first | with_reducible exact Takes.nil | (apply Takes.cons; focus (repeat (first | with_reducible exact Rem.here | apply Rem.there))))) (PM.shut hy)).trans ?_
        refine (Ent.shut (A := PM x.lm S.last) (by repeat (first | with_reducible exact Takes.nil | (apply Takes.cons; focus (repeat (first | with_reducible exact Rem.here | apply Rem.there))))) (PM.shut hz)).trans ?_
        refine Ent.put (by repeat (first | with_reducible exact Takes.nil | (apply Takes.cons; focus (repeat (first | with_reducible exact Rem.here | apply Rem.there))))) (DRep.shut x hx) ?_
        repeat (first | with_reducible exact Ent.nil | (apply Ent.one; focus (repeat (first | with_reducible exact Rem.here | apply Rem.there))))
end Go.Lun

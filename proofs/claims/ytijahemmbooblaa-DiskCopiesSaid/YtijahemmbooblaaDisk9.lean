/- The disk's Spoil. -/
import Derived.Test.YtijahemmbooblaaDisk8
namespace Go.Lun
open Go.Proofs

def DS.spoil (S : DS) (p : Int) (k : Nat) (l : Bytes) : DS :=
  { S with last := upd S.last p (splb ((S.last p).getD page0) k l), now := fun x => if x = p then (S.now p).map (fun o => splb o k l) else S.now x,
           loose := S.loose.map fun w => if w.1 = p then (w.1, splb w.2 k l) else w }

theorem pmod_ent {k : Int} {e : PE} {l : Bytes} : ∀ {es : List PE}, pfind es k = some e → (pmod e.blk l es k).map PE.ent = es.map PE.ent
  | [], h => by cases h
  | e' :: es, h => by
    simp only [pfind] at h
    simp only [pmod]
    split at h
    · rename_i hk; injection h with h; subst h; simp [hk]
    · rename_i hk; simp only [hk, if_false, List.map_cons, pmod_ent h]

theorem PMok.over {es : List PE} {ck : Nat} {f : Int → Option Bytes} (h : PMok es ck f) {k : Int} {e : PE} (hf : pfind es k = some e) {l : Bytes} (hl : l.length = 256) : PMok (pmod e.blk l es k) ck (upd f k l) := by
  refine ⟨?_, ?_, ?_, ?_, ?_⟩
  · intro x
    rw [pfind_pmod, hf]
    by_cases e : x = k
    · simp [e, upd]
    · simp [e, upd, h.get x]
  · rw [(pmod_keys _ l k es).1]; exact h.keys
  · rw [(pmod_keys _ l k es).2]; exact h.born
  · intro x hx
    have h1 : x.born ∈ (pmod e.blk l es k).map PE.born := List.mem_map.2 ⟨x, hx, rfl⟩
    rw [(pmod_keys _ l k es).2] at h1
    obtain ⟨y, hy, hxy⟩ := List.mem_map.1 h1
    rw [← hxy]; exact h.old y hy
  · intro x hx
    rcases pmod_mem hx with h1 | h1
    · exact h.len x h1
    · rw [h1]; exact hl

/-- A loose write spoilt. -/
def WE.sp (p : Int) (k : Nat) (l : Bytes) (w : WE) : WE := if w.page = p then { w with bs := splb w.bs k l } else w
theorem sp_cells (p : Int) (k : Nat) (l : Bytes) : ∀ ws : List WE, wcells (ws.map (WE.sp p k l)) = wcells ws
  | [] => rfl
  | w :: ws => by
    have ih := sp_cells p k l ws
    simp only [wcells, List.map_cons, List.flatMap_cons] at ih ⊢
    rw [ih]
    have : (w.sp p k l).page = w.page ∧ (w.sp p k l).blk = w.blk := by unfold WE.sp; split <;> exact ⟨rfl, rfl⟩
    rw [this.1, this.2]
theorem sp_ok {p : Int} {k : Nat} {l : Bytes} {ws : List WE} {L : List (Int × Bytes)} (h : WOk ws L) : WOk (ws.map (WE.sp p k l)) (L.map fun w => if w.1 = p then (w.1, splb w.2 k l) else w) := by
  refine ⟨?_, ?_⟩
  · rw [← h.abs, List.map_map, List.map_map]
    congr 1
    funext w
    by_cases hw : w.page = p <;> simp [WE.sp, WE.abs, hw]
  · intro w hw
    obtain ⟨v, hv, rfl⟩ := List.mem_map.1 hw
    have := h.len v hv
    unfold WE.sp; split
    · dsimp only; rw [splb_len]; exact this
    · exact this

section
variable {P : Program} {n : Nat} {ds : List Deferred} {F : Fr} {L : List Asrt} {env : Env} {Q : Post} {ops : Array Oper} {rest : List Oper}
variable {dt : Option Tmp} {ty : TypeId} {pos : String} {af : Array Edge} {g : Option (Nat × Bool)}

/-- Where a row begins that is cut at a place: at that place, but at its old head if nothing is left. -/
def cutAt (k cap sz off : Nat) : Nat := if cap = k then off else off + k * sz
theorem y_slice_from {x : Operand} {lo : Option Operand} {t e : TypeId} {z z' : Value} {s1 b1 sz by_ b off len cap : Nat} {d' : TypeDesc} (l : Nat) [Ty P t (.slice e) z s1 b1] [Ty P e d' z' sz by_]
    (hx : ev env x = some (.slice (some ⟨b, off, none⟩) len cap)) (hl : bndE env lo 0 = some (l : Int)) (h1 : l ≤ len) (h2 : len ≤ cap) :
    Yld P n ds F L env ⟨dt, .slice t x lo none none, ty, pos, af, g⟩ (.slice (some ⟨b, cutAt l cap sz off, none⟩) (len - l) (cap - l)) := by
  have := y_slice (P := P) (n := n) (ds := ds) (F := F) (L := L) (dt := dt) (ty := ty) (pos := pos) (af := af) (g := g) (t := t) (lo := lo) (hi := none) (mx := none) l len cap hx hl rfl rfl (fun h => by cases h) h1 h2 (Nat.le_refl _)
  unfold cutAt
  by_cases hc : cap = l
  · rw [if_pos hc]; rw [if_pos hc] at this; exact this
  · rw [if_neg hc]; rw [if_neg hc] at this; exact this
end

theorem spl_cut {l ys : Bytes} {k : Nat} (hl : l.length = 256) (hk : k ≤ 256) (hy : ys.length ≤ 256 - k) : spl (l.map byteV) (cutAt k 256 1 0) ((ys.map byteV).take (min ys.length (256 - k) * 1)) = (splb l k ys).map byteV := by
  have e1 : min ys.length (256 - k) * 1 = ys.length := by omega
  rw [e1, List.take_of_length_le (by simp), splb_map]
  unfold cutAt
  by_cases h : 256 = k
  · have : ys = [] := List.eq_nil_of_length_eq_zero (by omega)
    subst this; rfl
  · rw [if_neg h, Nat.zero_add, Nat.mul_one]

set_option maxHeartbeats 1600000 in
theorem spoil_d (d : Nat) (S : DS) (page at_ : Int) (b off k cap : Nat) (cs : List Value) (T : TypeId) (fz : Nat × Nat) (q : Bool) (l : Bytes) (hl : getN cs off k = some (l.map byteV)) (hn : S.loose.length ≤ 1000000) (hk : k ≤ 140737488355328) :
    Fn Try.prog 35 [.pointer (some ⟨d, 0, none⟩), .int .i64 page, .int .i64 at_, .slice (some ⟨b, off, none⟩) k cap] [DRep d S, Bkp q b (.cells ⟨cs⟩ T fz)]
    (fun v L => ∃ S' c, v = .int .i64 c ∧ L = [DRep d S', Bkp q b (.cells ⟨cs⟩ T fz)] ∧
      (if ¬ S.has page then c = 30 ∧ S' = S else if at_ < 0 ∨ 256 < at_ ∨ 256 - at_ < k then c = 31 ∧ S' = S else c = 0 ∧ S' = S.spoil page at_.toNat l)) := by
  have hlk : l.length = k := by have := getN_length hl; simpa using this
  refine fn_open (A := DRep d S) Rem.here (fun x hx => ?_)
  obtain ⟨lm, nm, la, lc, ws⟩ := x
  have hwl : ws.length = S.loose.length := by rw [← hx.abs, List.length_map]
  refine fn_open (A := PM lm S.last) (.there .here) (fun y hy => ?_)
  obtain ⟨es, ck⟩ := y
  refine fn_open (A := PM nm S.now) (.there (.there (.there .here))) (fun y hz => ?_)
  obtain ⟨fs, ck2⟩ := y
  try dsimp only at hy hz
  simp only [List.append_eq, List.cons_append, List.nil_append, List.append_nil, tup]
  have same : Ent [Blk nm (.map (pents fs) ck2), Star (fs.map PE.asrt), Blk lm (.map (pents es) ck), Star (es.map PE.asrt), Blk d (dobj S.most S.pages lm (.slice la ws.length lc) nm S.fuse S.burns), Sl 68 2 la ws.length lc (wcells ws), Star (ws.map WE.asrt), Bkp q b (.cells ⟨cs⟩ T fz)] [DRep d S, Bkp q b (.cells ⟨cs⟩ T fz)] := by
    refine (Ent.shut (A := PM lm S.last) (by repeat (first | with_reducible exact Takes.nil | (apply Takes.cons; focus (repeat (first | with_reducible exact Rem.here | apply Rem.there))))) (PM.shut hy)).trans ?_
    refine (Ent.shut (A := PM nm S.now) (by repeat (first | with_reducible exact Takes.nil | (apply Takes.cons; focus (repeat (first | with_reducible exact Rem.here | apply Rem.there))))) (PM.shut hz)).trans ?_
    refine Ent.put (by repeat (first | with_reducible exact Takes.nil | (apply Takes.cons; focus (repeat (first | with_reducible exact Rem.here | apply Rem.there))))) (DRep.mk (S := S) ws hx ⟨rfl, rfl, rfl, rfl, rfl, rfl⟩ rfl rfl) ?_
    repeat (first | with_reducible exact Ent.nil | (apply Ent.one; focus (repeat (first | with_reducible exact Rem.here | apply Rem.there))))
  refine fn_start Try.func35 rfl rfl rfl fun F => ?_
  refine c_seq ?_
  refine c_region ?_
  refine o_y (y_assign rfl) rfl ?_
  refine o_nil ?_
  refine f_seq ?_
  refine c_seq ?_
  refine c_block ?_
  refine c_seq ?_
  refine c_region ?_
  refine o_y (y_move rfl) rfl ?_
  refine o_y (y_move rfl) rfl ?_
  refine o_call rfl (has_fn d S.most S.pages lm nm la ws.length lc S.fuse S.burns page) (by repeat (first | with_reducible exact Takes.nil | (apply Takes.cons; focus (repeat (first | with_reducible exact Rem.here | apply Rem.there))))) rfl ?_
  rintro _ _ ⟨rfl, rfl⟩
  simp only [List.append_eq, List.cons_append, List.nil_append, List.append_nil, tup]
  by_cases hp : S.has page
  case neg =>
    have hp' : decide (0 ≤ page ∧ page < S.pages) = false := by simpa [DS.has] using hp
    rw [hp']
    refine o_y (y_not rfl) rfl ?_
    refine o_y (y_assign rfl) rfl ?_
    refine o_nil ?_
    refine f_seq ?_
    refine c_true rfl ?_
    refine c_seq ?_
    refine c_region ?_
    refine o_y (y_assign rfl) rfl ?_
    refine o_nil ?_
    refine f_seq ?_
    refine c_ret ?_
    refine f_block_ret ?_
    refine f_seq_ret ?_
    refine f_ent (Ent.trans (by repeat (first | with_reducible exact Ent.nil | (apply Ent.one; focus (repeat (first | with_reducible exact Rem.here | apply Rem.there))))) same) (f_ret rfl ⟨S, 30, rfl, rfl, by rw [if_pos hp]; exact ⟨rfl, rfl⟩⟩)
  case pos =>
  have hp' : decide (0 ≤ page ∧ page < S.pages) = true := by simpa [DS.has] using hp
  rw [hp']
  by_cases h0 : at_ < 0
  · refine o_y (y_not rfl) rfl ?_
    refine o_y (y_assign rfl) rfl ?_
    refine o_nil ?_
    refine f_seq ?_
    refine c_false rfl ?_
    refine c_seq ?_
    refine c_region ?_
    refine o_y (y_move rfl) rfl ?_
    refine o_y (y_lss_t rfl rfl (by omega)) rfl ?_
    refine o_y (y_move rfl) rfl ?_
    refine o_skip rfl rfl ?_
    refine o_skip rfl rfl ?_
    refine o_y (y_pick_t rfl rfl) rfl ?_
    refine o_y (y_move rfl) rfl ?_
    refine o_skip rfl rfl ?_
    refine o_skip rfl rfl ?_
    refine o_skip rfl rfl ?_
    refine o_skip rfl rfl ?_
    refine o_skip rfl rfl ?_
    refine o_y (y_pick_t rfl rfl) rfl ?_
    refine o_y (y_assign rfl) rfl ?_
    refine o_nil ?_
    refine f_seq ?_
    refine c_true rfl ?_
    refine c_seq ?_
    refine c_region ?_
    refine o_y (y_assign rfl) rfl ?_
    refine o_nil ?_
    refine f_seq ?_
    refine c_ret ?_
    refine f_block_ret ?_
    refine f_seq_ret ?_
    refine f_ent (Ent.trans (by repeat (first | with_reducible exact Ent.nil | (apply Ent.one; focus (repeat (first | with_reducible exact Rem.here | apply Rem.there))))) same) (f_ret rfl ⟨S, 31, rfl, rfl, by rw [if_neg (not_not_intro hp), if_pos (.inl h0)]; exact ⟨rfl, rfl⟩⟩)
  by_cases h1 : 256 < at_
  · refine o_y (y_not rfl) rfl ?_
    refine o_y (y_assign rfl) rfl ?_
    refine o_nil ?_
    refine f_seq ?_
    refine c_false rfl ?_
    refine c_seq ?_
    refine c_region ?_
    refine o_y (y_move rfl) rfl ?_
    refine o_y (y_lss_f rfl rfl (by omega)) rfl ?_
    refine o_y (y_move rfl) rfl ?_
    refine o_want rfl ?_
    refine o_y (y_move rfl) rfl ?_
    refine o_want rfl ?_
    refine o_y (y_gtr_t rfl rfl (by omega)) rfl ?_
    refine o_y (y_pick_f rfl rfl) rfl ?_
    refine o_y (y_move rfl) rfl ?_
    refine o_skip rfl rfl ?_
    refine o_skip rfl rfl ?_
    refine o_skip rfl rfl ?_
    refine o_skip rfl rfl ?_
    refine o_skip rfl rfl ?_
    refine o_y (y_pick_t rfl rfl) rfl ?_
    refine o_y (y_assign rfl) rfl ?_
    refine o_nil ?_
    refine f_seq ?_
    refine c_true rfl ?_
    refine c_seq ?_
    refine c_region ?_
    refine o_y (y_assign rfl) rfl ?_
    refine o_nil ?_
    refine f_seq ?_
    refine c_ret ?_
    refine f_block_ret ?_
    refine f_seq_ret ?_
    refine f_ent (Ent.trans (by repeat (first | with_reducible exact Ent.nil | (apply Ent.one; focus (repeat (first | with_reducible exact Rem.here | apply Rem.there))))) same) (f_ret rfl ⟨S, 31, rfl, rfl, by rw [if_neg (not_not_intro hp), if_pos (.inr (.inl h1))]; exact ⟨rfl, rfl⟩⟩)
  by_cases h2 : 256 - at_ < k
  · refine o_y (y_not rfl) rfl ?_
    refine o_y (y_assign rfl) rfl ?_
    refine o_nil ?_
    refine f_seq ?_
    refine c_false rfl ?_
    refine c_seq ?_
    refine c_region ?_
    refine o_y (y_move rfl) rfl ?_
    refine o_y (y_lss_f rfl rfl (by omega)) rfl ?_
    refine o_y (y_move rfl) rfl ?_
    refine o_want rfl ?_
    refine o_y (y_move rfl) rfl ?_
    refine o_want rfl ?_
    refine o_y (y_gtr_f rfl rfl (by omega)) rfl ?_
    refine o_y (y_pick_f rfl rfl) rfl ?_
    refine o_y (y_move rfl) rfl ?_
    refine o_want rfl ?_
    refine o_y (y_move rfl) rfl ?_
    refine o_want rfl ?_
    refine o_y (y_len_slice rfl) rfl ?_
    refine o_want rfl ?_
    refine o_y (y_move rfl) rfl ?_
    refine o_want rfl ?_
    refine o_y (y_arith64 rfl rfl rfl (by omega)) rfl ?_
    refine o_want rfl ?_
    refine o_y (y_gtr_t rfl rfl (by omega)) rfl ?_
    refine o_y (y_pick_f rfl rfl) rfl ?_
    refine o_y (y_assign rfl) rfl ?_
    refine o_nil ?_
    refine f_seq ?_
    refine c_true rfl ?_
    refine c_seq ?_
    refine c_region ?_
    refine o_y (y_assign rfl) rfl ?_
    refine o_nil ?_
    refine f_seq ?_
    refine c_ret ?_
    refine f_block_ret ?_
    refine f_seq_ret ?_
    refine f_ent (Ent.trans (by repeat (first | with_reducible exact Ent.nil | (apply Ent.one; focus (repeat (first | with_reducible exact Rem.here | apply Rem.there))))) same) (f_ret rfl ⟨S, 31, rfl, rfl, by rw [if_neg (not_not_intro hp), if_pos (.inr (.inr h2))]; exact ⟨rfl, rfl⟩⟩)
  obtain ⟨a, rfl⟩ : ∃ a : Nat, at_ = (a : Int) := ⟨at_.toNat, by omega⟩
  have ha : a ≤ 256 := by omega
  subst hlk
  have hka : l.length ≤ 256 - a := by omega
  have hol : (((pfind es page).map PE.bs).getD page0).length = 256 := by
    cases hp : pfind es page with
    | none => exact pad_len _
    | some e => exact hy.len e (pfind_some hp).1
  have hol2 : ((pfind es page).map PE.bs).getD page0 = (S.last page).getD page0 := by rw [hy.get]
  refine o_y (y_not rfl) rfl ?_
  refine o_y (y_assign rfl) rfl ?_
  refine o_nil ?_
  refine f_seq ?_
  refine c_false rfl ?_
  refine c_seq ?_
  refine c_region ?_
  refine o_y (y_move rfl) rfl ?_
  refine o_y (y_lss_f rfl rfl (by omega)) rfl ?_
  refine o_y (y_move rfl) rfl ?_
  refine o_want rfl ?_
  refine o_y (y_move rfl) rfl ?_
  refine o_want rfl ?_
  refine o_y (y_gtr_f rfl rfl (by omega)) rfl ?_
  refine o_y (y_pick_f rfl rfl) rfl ?_
  refine o_y (y_move rfl) rfl ?_
  refine o_want rfl ?_
  refine o_y (y_move rfl) rfl ?_
  refine o_want rfl ?_
  refine o_y (y_len_slice rfl) rfl ?_
  refine o_want rfl ?_
  refine o_y (y_move rfl) rfl ?_
  refine o_want rfl ?_
  refine o_y (y_arith64 rfl rfl rfl (by omega)) rfl ?_
  refine o_want rfl ?_
  refine o_y (y_gtr_f rfl rfl (by omega)) rfl ?_
  refine o_y (y_pick_f rfl rfl) rfl ?_
  refine o_y (y_assign rfl) rfl ?_
  refine o_nil ?_
  refine f_seq ?_
  refine c_false rfl ?_
  refine c_skip ?_
  refine f_block ?_
  refine f_seq ?_
  refine c_seq ?_
  refine c_ent (M := [Blk d (dobj S.most S.pages lm (.slice la ws.length lc) nm S.fuse S.burns), Blk lm (.map (pents es) ck), Star (es.map PE.asrt), Blk nm (.map (pents fs) ck2), Star (fs.map PE.asrt), Sl 68 2 la ws.length lc (wcells ws), Star (ws.map WE.asrt), Bkp q b (.cells ⟨cs⟩ T fz)]) (by repeat (first | with_reducible exact Ent.nil | (apply Ent.one; focus (repeat (first | with_reducible exact Rem.here | apply Rem.there))))) ?_
  refine pl_start [11, 12] Try.mixed ?_; intro hd
  refine pl_lock (A := Blk _ _) Rem.here rfl ?_ hd; intro hb0
  refine pl_lock (A := Blk _ _) Rem.here rfl ?_ hd; intro hb1
  refine pl_take (i := 0) rfl (by kernel_rfl) (y_move rfl) ?_ hd; clear hd; intro hd
  refine pl_take (i := 1) rfl (by kernel_rfl) (y_nilCheck rfl) ?_ hd; clear hd; intro hd
  refine pl_take (i := 2) rfl (by kernel_rfl) (y_fieldAddr0 rfl) ?_ hd; clear hd; intro hd
  refine pl_take (i := 3) rfl (by kernel_rfl) (y_load rfl rfl rfl) ?_ hd; clear hd; intro hd
  refine pl_take (i := 4) rfl (by kernel_rfl) (y_move rfl) ?_ hd; clear hd; intro hd
  refine pl_take (i := 5) rfl (by kernel_rfl) (y_move rfl) ?_ hd; clear hd; intro hd
  refine pl_take (i := 6) rfl (by kernel_rfl) (y_nilCheck rfl) ?_ hd; clear hd; intro hd
  refine pl_take (i := 7) rfl (by kernel_rfl) (y_fieldAddr0 rfl) ?_ hd; clear hd; intro hd
  refine pl_take (i := 8) rfl (by kernel_rfl) (y_load rfl rfl rfl) ?_ hd; clear hd; intro hd
  refine pl_take (i := 9) rfl (by kernel_rfl) (y_move rfl) ?_ hd; clear hd; intro hd
  refine pl_take (i := 10) rfl (by kernel_rfl) (y_lookup rfl rfl) ?_ hd; clear hd; intro hd
  refine pl_sole (i := 11) (by kernel_rfl) rfl ?_ hd; clear hd; intro hd
  refine o_call rfl (copied_pe es page hy.len) (by repeat (first | with_reducible exact Takes.nil | (apply Takes.cons; focus (repeat (first | with_reducible exact Rem.here | apply Rem.there))))) rfl ?_
  rintro _ _ ⟨b1, rfl, rfl⟩
  simp only [List.append_eq, List.cons_append, List.nil_append, List.append_nil, tup]
  refine pl_back (by repeat (first | with_reducible exact Owes.nil | with_reducible refine Owes.same ?_ | with_reducible refine Owes.any ?_ | refine Owes.waived 11 (by kernel_rfl) ?_)) ?_ hd; clear hd; intro hd
  refine pl_sole (i := 12) (by kernel_rfl) rfl ?_ hd; clear hd; intro hd
  refine o_unlock (A := Blk _ _) ?_
  refine o_unlock (A := Blk _ _) ?_
  refine o_mapUpdate (es := es.map PE.ent) (v := pageV b1) rfl rfl rfl ?_
  refine pl_back (by repeat (first | with_reducible exact Owes.nil | with_reducible refine Owes.same ?_ | with_reducible refine Owes.any ?_ | refine Owes.waived 12 (by kernel_rfl) ?_ | refine Owes.waived 11 (by kernel_rfl) ?_)) ?_ hd; clear hd; intro hd
  refine pl_done (by kernel_rfl) ?_ hd
  rw [hol2] at hol ⊢
  obtain ⟨es', ck', g1, g2, g3⟩ := hy.put page b1 ((S.last page).getD page0) hol
  rw [g1]
  refine f_ent (Takes.ent_of (by repeat (first | with_reducible exact Takes.nil | (apply Takes.cons; focus (repeat (first | with_reducible exact Rem.here | apply Rem.there))))) g3) ?_
  simp only [List.append_eq, List.cons_append, List.nil_append, List.append_nil, tup]
  have hge := g2.get page
  simp only [upd, if_true] at hge
  cases hpe : pfind es' page with
  | none => rw [hpe] at hge; cases hge
  | some e =>
  rw [hpe] at hge
  have hge' : e.bs = (S.last page).getD page0 := by simpa using hge
  have hel : e.bs.length = 256 := by rw [hge']; exact hol
  have hm : mget (es'.map PE.ent) page = some (pageV e.blk) := by rw [mget_pe, hpe]; rfl
  obtain ⟨rs, i1, i2, i3⟩ := pe_open hpe
  refine f_ent (Takes.ent_of (P := [Star (es'.map PE.asrt)]) (by repeat (first | with_reducible exact Takes.nil | (apply Takes.cons; focus (repeat (first | with_reducible exact Rem.here | apply Rem.there))))) i1) ?_
  simp only [List.append_eq, List.cons_append, List.nil_append, List.append_nil, tup]
  refine f_seq ?_
  refine c_seq ?_
  refine c_region ?_
  refine o_y (y_move rfl) rfl ?_
  refine o_y (y_nilCheck rfl) rfl ?_
  refine o_y (y_fieldAddr0 rfl) rfl ?_
  refine o_y (y_load rfl rfl rfl) rfl ?_
  refine o_y (y_move rfl) rfl ?_
  refine o_y (y_lookup_v rfl rfl (by assumption)) rfl ?_
  refine o_y (y_move rfl) rfl ?_
  refine o_y (y_slice_from a rfl rfl ha (Nat.le_refl _)) rfl ?_
  refine o_y (y_move rfl) rfl ?_
  refine o_copy (k := l.length) (ys := l.map byteV) (cs' := (splb e.bs a l).map byteV) rfl rfl (Src.slice (by rw [Nat.mul_one]; exact hl)) (spl_cut hel ha hka) (by unfold cutAt; rw [List.length_map, hel]; split <;> omega) (bytes_one l) frz0 rfl ?_
  refine o_nil ?_
  refine f_seq ?_
  refine c_seq ?_
  refine c_seq ?_
  refine c_region ?_
  refine o_y (y_move rfl) rfl ?_
  refine o_y (y_nilCheck rfl) rfl ?_
  refine o_y (y_fieldAddr0 rfl) rfl ?_
  refine o_y (y_load rfl rfl rfl) rfl ?_
  refine o_y (y_move rfl) rfl ?_
  refine o_y (y_lookup_ok rfl rfl) rfl ?_
  refine o_y (y_move rfl) rfl ?_
  refine o_y (y_extract rfl rfl) rfl ?_
  refine o_y (y_extract rfl rfl) rfl ?_
  refine o_y (y_assign rfl) rfl ?_
  refine o_y (y_assign rfl) rfl ?_
  refine o_nil ?_
  refine f_seq ?_
  refine c_seq ?_
  refine c_region ?_
  refine o_y (y_move rfl) rfl ?_
  refine o_nil ?_
  refine f_seq ?_
  have k1 := g2.over hpe (l := splb e.bs a l) (by rw [splb_len]; exact hel)
  have k2 : pents es' = pents (pmod e.blk (splb e.bs a l) es' page) := by unfold pents; rw [pmod_ent hpe]
  have k3 : upd (upd S.last page ((S.last page).getD page0)) page (splb e.bs a l) = (S.spoil page a l).last := by
    funext x; simp only [upd, DS.spoil, hge']; split <;> rfl
  rw [k3] at k1
  rw [k2]
  refine c_ent (Takes.ent_of (P := [Blk e.blk (bobj (splb e.bs a l)), Star (rs.map PE.asrt)]) (by repeat (first | with_reducible exact Takes.nil | (apply Takes.cons; focus (repeat (first | with_reducible exact Rem.here | apply Rem.there))))) (i3 e.blk (splb e.bs a l))) ?_
  simp only [List.append_eq, List.cons_append, List.nil_append, List.append_nil, tup]
  refine c_ent (Ent.shut (A := PM lm (S.spoil page a l).last) (by repeat (first | with_reducible exact Takes.nil | (apply Takes.cons; focus (repeat (first | with_reducible exact Rem.here | apply Rem.there))))) (PM.shut k1)) ?_
  refine c_cut (X := { x : List PE // PMok x ck2 (S.spoil page a l).now })
    (fun x => [PM lm (S.spoil page a l).last, Blk d (dobj S.most S.pages lm (.slice la ws.length lc) nm S.fuse S.burns), Blk nm (.map (pents x.1) ck2), Star (x.1.map PE.asrt), Sl 68 2 la ws.length lc (wcells ws), Star (ws.map WE.asrt), Bkp q b (.cells ⟨cs⟩ T fz)])
    (fun _ => [(0, .pointer (some ⟨d, 0, none⟩)), (1, .int .i64 page), (2, .int .i64 (a : Int)), (3, .slice (some ⟨b, off, none⟩) l.length cap)]) ?_ ?_
  · cases hpf : pfind fs page with
    | none =>
      have hm2 : mget (fs.map PE.ent) page = none := by rw [mget_pe, hpf]; rfl
      rw [hm2]
      have hn2 : S.now page = none := by rw [← hz.get, hpf]; rfl
      have k4 : (S.spoil page a l).now = S.now := by
        funext x; simp only [DS.spoil, hn2]; split
        · rename_i h; rw [h, hn2]; rfl
        · rfl
      refine c_false rfl ?_
      refine c_skip ?_
      exact f_cut ⟨fs, by rw [k4]; exact hz⟩ (by repeat (first | with_reducible exact Ent.nil | (apply Ent.one; focus (repeat (first | with_reducible exact Rem.here | apply Rem.there))))) (by repeat (first | exact trivial | refine ⟨rfl, ?_⟩))
    | some e2 =>
      have hm2 : mget (fs.map PE.ent) page = some (pageV e2.blk) := by rw [mget_pe, hpf]; rfl
      rw [hm2]
      have hn2 : S.now page = some e2.bs := by rw [← hz.get, hpf]; rfl
      have hel2 := hz.len e2 (pfind_some hpf).1
      have k5 := hz.over hpf (l := splb e2.bs a l) (by rw [splb_len]; exact hel2)
      have k4 : upd S.now page (splb e2.bs a l) = (S.spoil page a l).now := by
        funext x; simp only [DS.spoil, hn2, upd]; split <;> rfl
      rw [k4] at k5
      have k6 : pents fs = pents (pmod e2.blk (splb e2.bs a l) fs page) := by unfold pents; rw [pmod_ent hpf]
      obtain ⟨rs2, i4, i5, i6⟩ := pe_open hpf
      refine c_ent (Takes.ent_of (P := [Star (fs.map PE.asrt)]) (by repeat (first | with_reducible exact Takes.nil | (apply Takes.cons; focus (repeat (first | with_reducible exact Rem.here | apply Rem.there))))) i4) ?_
      simp only [List.append_eq, List.cons_append, List.nil_append, List.append_nil, tup]
      refine c_true rfl ?_
      refine c_region ?_
      refine o_y (y_move rfl) rfl ?_
      refine o_y (y_move rfl) rfl ?_
      refine o_y (y_slice_from (len := 256) (cap := 256) a rfl rfl ha (Nat.le_refl _)) rfl ?_
      refine o_y (y_move rfl) rfl ?_
      refine o_copy (k := l.length) (ys := l.map byteV) (cs' := (splb e2.bs a l).map byteV) rfl rfl (Src.slice (by rw [Nat.mul_one]; exact hl)) (spl_cut hel2 ha hka) (by unfold cutAt; rw [List.length_map, hel2]; split <;> omega) (bytes_one l) frz0 rfl ?_
      refine o_nil ?_
      refine f_ent (Takes.ent_of (P := [Blk e2.blk (bobj (splb e2.bs a l)), Star (rs2.map PE.asrt)]) (by repeat (first | with_reducible exact Takes.nil | (apply Takes.cons; focus (repeat (first | with_reducible exact Rem.here | apply Rem.there))))) (i6 e2.blk (splb e2.bs a l))) ?_
      simp only [List.append_eq, List.cons_append, List.nil_append, List.append_nil, tup]
      rw [k6]
      exact f_cut ⟨pmod e2.blk (splb e2.bs a l) fs page, k5⟩ (by repeat (first | with_reducible exact Ent.nil | (apply Ent.one; focus (repeat (first | with_reducible exact Rem.here | apply Rem.there))))) (by repeat (first | exact trivial | refine ⟨rfl, ?_⟩))
  · rintro ⟨fs', kz⟩
    dsimp only
    refine c_ent (Ent.shut (A := PM nm (S.spoil page a l).now) (by repeat (first | with_reducible exact Takes.nil | (apply Takes.cons; focus (repeat (first | with_reducible exact Rem.here | apply Rem.there))))) (PM.shut kz)) ?_
    refine c_seq ?_
    refine c_seq ?_
    refine c_region ?_
    refine o_y (y_move rfl) rfl ?_
    refine o_y (y_nilCheck rfl) rfl ?_
    refine o_y (y_fieldAddr0 rfl) rfl ?_
    refine o_y (y_load rfl rfl rfl) rfl ?_
    refine o_y (y_len_slice rfl) rfl ?_
    refine o_y (y_move rfl) rfl ?_
    refine o_nil ?_
    refine f_seq ?_
    refine c_block ?_
    refine c_loop_inv (X := Nat) (fun i => i ≤ ws.length) (fun i => ws.length - i)
      (fun i => [Star (((ws.take i).map (WE.sp page a l)).map WE.asrt), Star ((ws.drop i).map WE.asrt), PM nm (S.spoil page a l).now, PM lm (S.spoil page a l).last, Blk d (dobj S.most S.pages lm (.slice la ws.length lc) nm S.fuse S.burns), Sl 68 2 la ws.length lc (wcells ws), Bkp q b (.cells ⟨cs⟩ T fz)])
      (fun i => [(1, .int .i64 page), (2, .int .i64 (a : Int)), (3, .slice (some ⟨b, off, none⟩) l.length cap), (72, .slice la ws.length lc), (73, .int .i64 (ws.length : Int)), (74, .int .i64 (i : Int))]) 0 (Nat.zero_le _)
      (by simp only [List.take_zero, List.drop_zero, List.map_nil]; refine Ent.put (P := []) (by repeat (first | with_reducible exact Takes.nil | (apply Takes.cons; focus (repeat (first | with_reducible exact Rem.here | apply Rem.there))))) (fun _ _ => trivial) ?_; repeat (first | with_reducible exact Ent.nil | (apply Ent.one; focus (repeat (first | with_reducible exact Rem.here | apply Rem.there))))) (by repeat (first | exact trivial | refine ⟨rfl, ?_⟩)) ?_
    intro i hi ih
    by_cases hlt : i < ws.length
    case neg =>
      have hi' : i = ws.length := by omega
      subst hi'
      rw [List.take_length, List.drop_length]
      refine c_seq ?_
      refine c_region ?_
      refine o_y (y_lss_f rfl rfl (by omega)) rfl ?_
      refine o_nil ?_
      refine f_seq ?_
      refine c_seq ?_
      refine c_false rfl ?_
      refine c_exit ?_
      refine f_seq_exit ?_
      refine f_seq_exit ?_
      refine f_block_here ?_
      refine f_seq ?_
      refine c_seq ?_
      refine c_region ?_
      refine o_y (y_assign rfl) rfl ?_
      refine o_nil ?_
      refine f_seq ?_
      refine c_ret ?_
      refine f_ent ?_ (f_ret rfl ⟨S.spoil page a l, 0, rfl, rfl, by rw [if_neg (not_not_intro hp), if_neg (by omega)]; exact ⟨rfl, by rw [Int.toNat_natCast]⟩⟩)
      refine Ent.put (by repeat (first | with_reducible exact Takes.nil | (apply Takes.cons; focus (repeat (first | with_reducible exact Rem.here | apply Rem.there))))) (DRep.mk (S := S.spoil page a l) (ws.map (WE.sp page a l)) (sp_ok hx) ?_ ?_ ?_) ?_
      · exact ⟨rfl, rfl, rfl, rfl, rfl, rfl⟩
      · rw [List.length_map]
      · rw [sp_cells]
      repeat (first | with_reducible exact Ent.nil | (apply Ent.one; focus (repeat (first | with_reducible exact Rem.here | apply Rem.there))))
    case pos =>
      have hww : ws[i]? = some ws[i] := List.getElem?_eq_getElem hlt
      have hwb : ws[i].bs.length = 256 := hx.len _ (List.getElem_mem hlt)
      generalize ws[i] = w at hww hwb
      rw [drop_cons' hww]
      refine c_openSl (P := Try.prog) (xs := wcells ws) (by repeat (first | with_reducible exact Rem.here | apply Rem.there)) (fun _ _ h _ => absurd h (by omega)) (fun rb rs hl2 e1 h3 h4 => ?_)
      subst e1
      refine c_ent (Takes.ent_of (P := [Star ((w :: ws.drop (i + 1)).map WE.asrt)]) (by repeat (first | with_reducible exact Takes.nil | (apply Takes.cons; focus (repeat (first | with_reducible exact Rem.here | apply Rem.there))))) Ent.star_cons) ?_
      simp only [List.append_eq, List.cons_append, List.nil_append, List.append_nil, tup]
      simp only [WE.asrt]
      refine c_seq ?_
      refine c_region ?_
      refine o_y (y_lss_t rfl rfl (by omega)) rfl ?_
      refine o_nil ?_
      refine f_seq ?_
      refine c_seq ?_
      refine c_true rfl ?_
      refine c_skip ?_
      refine f_seq ?_
      refine c_seq ?_
      refine c_block ?_
      refine c_seq ?_
      refine c_region ?_
      refine o_y (y_indexAddr i rfl rfl rfl hlt) rfl ?_
      refine o_y (y_loadN rfl rfl (by rw [Nat.zero_add]; exact wcells_get hww)) rfl ?_
      by_cases hpg : w.page = page
      · have hsp : WE.sp page a l w = { w with bs := splb w.bs a l } := by unfold WE.sp; rw [if_pos hpg]
        refine o_alloc rfl (fun nb => ?_)
        refine o_store rfl rfl rfl frz0 ?_
        refine o_nil ?_
        refine f_seq ?_
        refine c_seq ?_
        refine c_region ?_
        refine o_y (y_fieldAddr0 rfl) rfl ?_
        refine o_y (y_load rfl rfl rfl) rfl ?_
        refine o_y (y_move rfl) rfl ?_
        refine o_y (y_eql_t rfl rfl (by omega)) rfl ?_
        refine o_nil ?_
        refine f_seq ?_
        refine c_true rfl ?_
        refine c_region ?_
        refine o_y (y_fieldAddr0 rfl) rfl ?_
        refine o_y (y_load rfl rfl rfl) rfl ?_
        refine o_y (y_move rfl) rfl ?_
        refine o_y (y_slice_from (len := 256) (cap := 256) a rfl rfl ha (Nat.le_refl _)) rfl ?_
        refine o_y (y_move rfl) rfl ?_
        refine o_copy (k := l.length) (ys := l.map byteV) (cs' := (splb w.bs a l).map byteV) rfl rfl (Src.slice (by rw [Nat.mul_one]; exact hl)) (spl_cut hwb ha hka) (by unfold cutAt; rw [List.length_map, hwb]; split <;> omega) (bytes_one l) frz0 rfl ?_
        refine o_nil ?_
        refine f_block ?_
        refine f_seq ?_
        refine c_region ?_
        refine o_y (y_arith64 rfl rfl rfl (by omega)) rfl ?_
        refine o_y (y_move rfl) rfl ?_
        refine o_nil ?_
        refine f_next ?_ ?_ (ih (i + 1) hlt (by omega))
        · rw [take_snoc' hww, List.map_append, List.map_append]
          refine (Ent.shut (A := Star (((ws.take i).map (WE.sp page a l)).map WE.asrt ++ ([w].map (WE.sp page a l)).map WE.asrt)) (P := [Star (((ws.take i).map (WE.sp page a l)).map WE.asrt), Blk w.blk (bobj (splb w.bs a l))]) (by repeat (first | with_reducible exact Takes.nil | (apply Takes.cons; focus (repeat (first | with_reducible exact Rem.here | apply Rem.there))))) (by intro r hr; simp only [List.map_cons, List.map_nil, hsp]; exact Ent.open_star r hr)).trans ?_
          refine (Ent.shut (A := Sl 68 2 (some ⟨rb, 0, none⟩) ws.length lc (wcells ws)) (by repeat (first | with_reducible exact Takes.nil | (apply Takes.cons; focus (repeat (first | with_reducible exact Rem.here | apply Rem.there))))) (Sl.shut hl2 h3 h4)).trans ?_
          repeat (first | with_reducible exact Ent.nil | (apply Ent.one; focus (repeat (first | with_reducible exact Rem.here | apply Rem.there))))
        · repeat (first | exact trivial | refine ⟨rfl, ?_⟩)
      · have hsp : WE.sp page a l w = w := by unfold WE.sp; rw [if_neg hpg]
        refine o_alloc rfl (fun nb => ?_)
        refine o_store rfl rfl rfl frz0 ?_
        refine o_nil ?_
        refine f_seq ?_
        refine c_seq ?_
        refine c_region ?_
        refine o_y (y_fieldAddr0 rfl) rfl ?_
        refine o_y (y_load rfl rfl rfl) rfl ?_
        refine o_y (y_move rfl) rfl ?_
        refine o_y (y_eql_f rfl rfl (by omega)) rfl ?_
        refine o_nil ?_
        refine f_seq ?_
        refine c_false rfl ?_
        refine c_skip ?_
        refine f_block ?_
        refine f_seq ?_
        refine c_region ?_
        refine o_y (y_arith64 rfl rfl rfl (by omega)) rfl ?_
        refine o_y (y_move rfl) rfl ?_
        refine o_nil ?_
        refine f_next ?_ ?_ (ih (i + 1) hlt (by omega))
        · rw [take_snoc' hww, List.map_append, List.map_append]
          refine (Ent.shut (A := Star (((ws.take i).map (WE.sp page a l)).map WE.asrt ++ ([w].map (WE.sp page a l)).map WE.asrt)) (P := [Star (((ws.take i).map (WE.sp page a l)).map WE.asrt), Blk w.blk (bobj w.bs)]) (by repeat (first | with_reducible exact Takes.nil | (apply Takes.cons; focus (repeat (first | with_reducible exact Rem.here | apply Rem.there))))) (by intro r hr; simp only [List.map_cons, List.map_nil, hsp]; exact Ent.open_star r hr)).trans ?_
          refine (Ent.shut (A := Sl 68 2 (some ⟨rb, 0, none⟩) ws.length lc (wcells ws)) (by repeat (first | with_reducible exact Takes.nil | (apply Takes.cons; focus (repeat (first | with_reducible exact Rem.here | apply Rem.there))))) (Sl.shut hl2 h3 h4)).trans ?_
          repeat (first | with_reducible exact Ent.nil | (apply Ent.one; focus (repeat (first | with_reducible exact Rem.here | apply Rem.there))))
        · repeat (first | exact trivial | refine ⟨rfl, ?_⟩)
end Go.Lun

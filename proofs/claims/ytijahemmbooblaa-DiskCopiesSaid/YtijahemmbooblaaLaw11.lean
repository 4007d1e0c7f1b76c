/- The document's disk, and that the disk does as it does. -/
import Derived.Test.YtijahemmbooblaaLaw9
namespace Go.Lun
open Go.Proofs

structure RM where
  most : Int
  last : List Bytes
  loose : List (Int × Bytes)
  burns : Bool
  fuse : Int

def RM.dead (M : RM) : Bool := M.burns && decide (M.fuse = 0)
def RM.there (M : RM) (p : Int) : Prop := 0 ≤ p ∧ p < M.last.length
instance (M : RM) (p : Int) : Decidable (M.there p) := by unfold RM.there; infer_instance
def overM (s : Bytes) (k : Nat) (y : Bytes) : Bytes := s.take k ++ y ++ s.drop (k + y.length)
def secM (s y : Bytes) (sec k : Nat) : Bytes := if sec / 2 ^ k % 2 = 1 then (y.drop (64 * k)).take 64 else (s.drop (64 * k)).take 64
def tornM (s y : Bytes) (sec : Nat) : Bytes := (List.range 4).flatMap (secM s y sec)
def zerosM : Bytes := List.replicate 256 0
def setM (l : List Bytes) (p : Int) (s : Bytes) : List Bytes := l.set p.toNat s
def getM (l : List Bytes) (p : Int) : Bytes := l.getD p.toNat []
def layM (l : List Bytes) (ws : List (Int × Bytes)) : List Bytes := ws.foldl (fun l w => setM l w.1 w.2) l
def RM.keep (M : RM) (k : TK) : RM :=
  if 0 ≤ k.wr ∧ k.wr < M.loose.length then { M with last := setM M.last (M.loose.getD k.wr.toNat (0, [])).1 (tornM (getM M.last (M.loose.getD k.wr.toNat (0, [])).1) (M.loose.getD k.wr.toNat (0, [])).2 k.sec) } else M
def RM.act (M : RM) (x : ActM) : RM × Int :=
  if x.kind = 0 then (if M.most < x.n then (M, 32) else if M.dead = true then (M, 33) else ({ M with last := M.last ++ List.replicate (x.n - M.last.length).toNat zerosM }, 0))
  else if x.kind = 1 then (if ¬ M.there x.page then (M, 30) else if x.s.length ≠ 256 then (M, 31) else if M.dead = true then (M, 33) else ({ M with fuse := M.fuse - 1, loose := M.loose ++ [(x.page, x.s)] }, 0))
  else if x.kind = 2 then (if M.dead = true then M else { M with fuse := M.fuse - 1, last := layM M.last M.loose, loose := [] }, 0)
  else if x.kind = 3 then ({ x.ks.foldl RM.keep M with loose := [], burns := false }, 0)
  else if x.kind = 4 then (if ¬ M.there x.page then (M, 30) else if x.at_ < 0 ∨ 256 < x.at_ ∨ 256 - x.at_ < x.s.length then (M, 31) else
    ({ M with last := setM M.last x.page (overM (getM M.last x.page) x.at_.toNat x.s), loose := M.loose.map fun w => if w.1 = x.page then (w.1, overM w.2 x.at_.toNat x.s) else w }, 0))
  else if x.kind = 6 then (if M.dead = true then M else { M with fuse := max x.n 0, burns := true }, 0)
  else (M, 0)
def RM.read (M : RM) (p : Int) : Bytes := M.loose.foldl (fun s w => if w.1 = p then w.2 else s) (getM M.last p)

/-- What the document's disk is. -/
structure WM (M : RM) : Prop where
  last : ∀ s ∈ M.last, s.length = 256
  loose : ∀ w ∈ M.loose, M.there w.1 ∧ w.2.length = 256

/-- Nothing lies outside. -/
structure UI (S : DS) : Prop where
  last : ∀ x, ¬ S.has x → S.last x = none
  loose : ∀ w ∈ S.loose, S.has w.1

theorem UI.keep {S : DS} {k : TK} (h : UI S) : UI (S.keep k) := by
  by_cases hk : 0 ≤ k.wr ∧ k.wr < S.loose.length
  · obtain ⟨n, hn⟩ : ∃ n : Nat, k.wr = (n : Int) := ⟨k.wr.toNat, by omega⟩
    have hlt : n < S.loose.length := by omega
    rw [keep_in hn (List.getElem?_eq_getElem hlt)]
    have hw := h.loose _ (List.getElem_mem hlt)
    refine ⟨fun x hx => ?_, h.loose⟩
    have : ¬ x = (S.loose[n]).1 := fun e => hx (e ▸ hw)
    simp only [upd, this, if_false]
    exact h.last x hx
  · rw [keep_out hk]; exact h
theorem UI.keeps {ks : List TK} : ∀ {S : DS}, UI S → UI (ks.foldl DS.keep S) := by
  induction ks with
  | nil => intro S h; exact h
  | cons k ks ih => intro S h; rw [List.foldl_cons]; exact ih h.keep
theorem UI.sync {S : DS} (h : UI S) : UI S.sync := by
  refine ⟨fun y hy => ?_, (fun w hw => by cases hw)⟩
  have hl : ∀ w ∈ S.loose, w.1 ≠ y := fun w hw e => hy (by have := h.loose w hw; rw [e] at this; exact this)
  show (S.loose.foldl (fun f w => upd f w.1 w.2) S.last) y = none
  rw [lay_out _ _ _ hl]; exact h.last y hy
theorem UI.act {S : DS} {x : ActM} (h : UI S) : UI (S.act x).1 := by
  unfold DS.act
  split
  · split
    · exact h
    split
    · exact h
    · refine ⟨fun y hy => h.last y (fun hs => hy ?_), fun w hw => ?_⟩
      · simp only [DS.has, DS.grow] at hs ⊢; omega
      · have := h.loose w hw
        simp only [DS.has, DS.grow] at this ⊢; omega
  split
  · split
    · exact h
    split
    · exact h
    split
    · exact h
    · rename_i hp _ _
      refine ⟨h.last, fun w hw => ?_⟩
      simp only [DS.write, List.mem_append, List.mem_singleton] at hw
      rcases hw with hw | rfl
      · exact h.loose w hw
      · exact Decidable.not_not.1 hp
  split
  · dsimp only
    split
    · exact h
    · exact h.sync
  split
  · have hk := keep_same x.ks S
    have ho := UI.keeps (ks := x.ks) h
    refine ⟨fun y hy => ho.last y (fun hs => hy ?_), (fun w hw => by cases hw)⟩
    simpa only [DS.has, DS.crash] using hs
  split
  · split
    · exact h
    split
    · exact h
    · rename_i hp _
      have hp' := Decidable.not_not.1 hp
      refine ⟨fun y hy => ?_, fun w hw => ?_⟩
      · have : ¬ y = x.page := fun e => hy (e ▸ hp')
        simp only [DS.spoil, upd, this, if_false]
        exact h.last y hy
      · obtain ⟨v, hv, rfl⟩ := List.mem_map.1 hw
        have := h.loose v hv
        split <;> exact this
  split
  · dsimp only
    split
    · exact h
    · exact ⟨h.last, h.loose⟩
  · exact h

/-- Pages, as a list. -/
def mkM (f : Int → Option Bytes) (n : Nat) : List Bytes := (List.range n).map fun p : Nat => (f (p : Int)).getD page0
theorem mkM_len (f : Int → Option Bytes) (n : Nat) : (mkM f n).length = n := by simp [mkM]
theorem mkM_get (f : Int → Option Bytes) (n i : Nat) : (mkM f n)[i]? = if i < n then some ((f (i : Int)).getD page0) else none := by
  by_cases h : i < n
  · rw [if_pos h]; simp [mkM, List.getElem?_range h]
  · rw [if_neg h, List.getElem?_eq_none (by rw [mkM_len]; omega)]
theorem mkM_at {f : Int → Option Bytes} {n : Nat} {p : Int} (h : 0 ≤ p ∧ p < n) : getM (mkM f n) p = (f p).getD page0 := by
  unfold getM
  rw [List.getD_eq_getElem?_getD, mkM_get, if_pos (by omega), show ((p.toNat : Nat) : Int) = p by omega]; rfl
theorem mkM_set {f : Int → Option Bytes} {n : Nat} {p : Int} {s : Bytes} (h : 0 ≤ p) : setM (mkM f n) p s = mkM (upd f p s) n := by
  apply List.ext_getElem?
  intro i
  unfold setM
  rw [List.getElem?_set, mkM_get, mkM_get, mkM_len]
  by_cases hi : i < n
  · by_cases hp : p.toNat = i
    · have : (i : Int) = p := by omega
      simp [hp, hi, upd, this]
    · have : ¬ (i : Int) = p := by omega
      simp [hp, hi, upd, this]
  · by_cases hp : p.toNat = i
    · simp [hp, hi]
    · simp [hp, hi]
theorem mkM_lay (n : Nat) : ∀ (ws : List (Int × Bytes)) (f : Int → Option Bytes), (∀ w ∈ ws, 0 ≤ w.1) → layM (mkM f n) ws = mkM (ws.foldl (fun f w => upd f w.1 w.2) f) n
  | [], f, _ => rfl
  | w :: ws, f, h => by
    have := mkM_lay n ws (upd f w.1 w.2) (fun v hv => h v (by simp [hv]))
    unfold layM at this ⊢
    rw [List.foldl_cons, List.foldl_cons, mkM_set (h w (by simp)), this]

theorem over_splb {s y : Bytes} {k : Nat} (h : k + y.length ≤ s.length) : overM s k y = splb s k y := by
  apply List.ext_getElem?
  intro i
  unfold overM
  rw [splb_get _ _ _ _ h]
  by_cases h1 : i < k
  · rw [if_neg (by omega), List.append_assoc, List.getElem?_append_left (by rw [List.length_take]; omega), List.getElem?_take_of_lt h1]
  · by_cases h2 : i < k + y.length
    · rw [if_pos (by omega), List.getElem?_append_left (by rw [List.length_append, List.length_take]; omega), List.getElem?_append_right (by rw [List.length_take]; omega), List.length_take]
      congr 1; omega
    · rw [if_neg (by omega), List.getElem?_append_right (by rw [List.length_append, List.length_take]; omega), List.length_append, List.length_take, List.getElem?_drop]
      congr 1; omega

theorem sec_len {s y : Bytes} (hs : s.length = 256) (hy : y.length = 256) (sec k : Nat) (hk : k < 4) : (secM s y sec k).length = 64 := by
  unfold secM
  split <;> rw [List.length_take, List.length_drop] <;> omega
theorem sec_get {s y : Bytes} (hs : s.length = 256) (hy : y.length = 256) (sec k j : Nat) (hk : k < 4) (hj : j < 64) : (secM s y sec k)[j]? = if sec / 2 ^ k % 2 = 1 then y[64 * k + j]? else s[64 * k + j]? := by
  unfold secM
  split <;> rw [List.getElem?_take_of_lt hj, List.getElem?_drop]
theorem torn_tear {s y : Bytes} (hs : s.length = 256) (hy : y.length = 256) (sec : Nat) : tornM s y sec = tear sec y 4 s := by
  have e : tornM s y sec = secM s y sec 0 ++ (secM s y sec 1 ++ (secM s y sec 2 ++ secM s y sec 3)) := by
    simp [tornM, List.range_succ]
  have l0 := sec_len hs hy sec 0 (by decide)
  have l1 := sec_len hs hy sec 1 (by decide)
  have l2 := sec_len hs hy sec 2 (by decide)
  have l3 := sec_len hs hy sec 3 (by decide)
  have hl : (tornM s y sec).length = 256 := by rw [e]; simp only [List.length_append]; omega
  apply List.ext_getElem?
  intro i
  by_cases hi : i < 256
  · rw [tear_get sec y s hs hy i hi 4 (Nat.le_refl _), e]
    have : i / 64 = 0 ∨ i / 64 = 1 ∨ i / 64 = 2 ∨ i / 64 = 3 := by omega
    have hlt : i / 64 < 4 := by omega
    rcases this with h | h | h | h
    · rw [List.getElem?_append_left (by omega), sec_get hs hy sec 0 i (by decide) (by omega), h]; simp
    · rw [List.getElem?_append_right (by omega), List.getElem?_append_left (by omega), sec_get hs hy sec 1 _ (by decide) (by omega), h, l0, show 64 * 1 + (i - 64) = i by omega]; simp
    · rw [List.getElem?_append_right (by omega), List.getElem?_append_right (by omega), List.getElem?_append_left (by omega), sec_get hs hy sec 2 _ (by decide) (by omega), h, l0, l1, show 64 * 2 + (i - 64 - 64) = i by omega]; simp
    · rw [List.getElem?_append_right (by omega), List.getElem?_append_right (by omega), List.getElem?_append_right (by omega), sec_get hs hy sec 3 _ (by decide) (by omega), h, l0, l1, l2, show 64 * 3 + (i - 64 - 64 - 64) = i by omega]; simp
  · rw [List.getElem?_eq_none (by omega), List.getElem?_eq_none (by rw [tear_len]; omega)]

/-- The document's disk of a disk. -/
def DS.doc (S : DS) : RM := ⟨S.most, mkM S.last S.pages.toNat, S.loose, S.burns, S.fuse⟩

theorem doc_there {S : DS} (p : Int) : S.doc.there p ↔ S.has p := by
  unfold RM.there DS.has DS.doc
  simp only [mkM_len]
  omega
theorem doc_ok {S : DS} (hL : LI S) (hU : UI S) : WM S.doc := ⟨fun s hs => by
  obtain ⟨p, _, rfl⟩ := List.mem_map.1 hs
  exact hL.getD p, fun w hw => ⟨(doc_there _).2 (hU.loose w hw), hL.loose w hw⟩⟩

theorem doc_keep {S : DS} (hL : LI S) (hU : UI S) (k : TK) : S.doc.keep k = (S.keep k).doc := by
  by_cases hk : 0 ≤ k.wr ∧ k.wr < S.loose.length
  · obtain ⟨n, hn⟩ : ∃ n : Nat, k.wr = (n : Int) := ⟨k.wr.toNat, by omega⟩
    have hlt : n < S.loose.length := by omega
    have hg := List.getElem?_eq_getElem hlt
    have hw := hU.loose _ (List.getElem_mem hlt)
    have hw2 := hL.loose _ (List.getElem_mem hlt)
    have e : S.doc.loose.getD k.wr.toNat (0, []) = S.loose[n] := by
      rw [List.getD_eq_getElem?_getD, hn]; simp [DS.doc, hg]
    rw [keep_in hn hg]
    generalize S.loose[n] = w at hg hw hw2 e
    unfold RM.keep
    rw [if_pos (by exact hk), e]
    have h1 := hw.1
    have h2 := hw.2
    have e2 : getM S.doc.last w.1 = (S.last w.1).getD page0 := mkM_at (f := S.last) (n := S.pages.toNat) (by omega)
    rw [e2, torn_tear (hL.getD _) hw2]
    simp only [DS.doc]
    rw [mkM_set h1]
  · rw [keep_out hk]
    unfold RM.keep
    rw [if_neg (by exact hk)]
theorem doc_keeps : ∀ (ks : List TK) {S : DS}, LI S → UI S → ks.foldl RM.keep S.doc = (ks.foldl DS.keep S).doc
  | [], S, _, _ => rfl
  | k :: ks, S, hL, hU => by
    rw [List.foldl_cons, List.foldl_cons, doc_keep hL hU]
    exact doc_keeps ks (hL.keep k) hU.keep

theorem doc_act {S : DS} {x : ActM} (hL : LI S) (hU : UI S) : S.doc.act x = ((S.act x).1.doc, (S.act x).2) := by
  have hdead : S.doc.dead = S.dead := rfl
  have hmost : S.doc.most = S.most := rfl
  unfold RM.act DS.act
  simp only [hdead, hmost, doc_there]
  split
  · split
    · rfl
    split
    · rfl
    · refine Prod.ext ?_ rfl
      simp only [DS.doc, DS.grow, mkM_len, RM.mk.injEq, true_and, and_true]
      apply List.ext_getElem?
      intro i
      rw [mkM_get]
      by_cases h1 : i < S.pages.toNat
      · rw [List.getElem?_append_left (by rw [mkM_len]; exact h1), mkM_get, if_pos h1, if_pos (by omega)]
      · rw [List.getElem?_append_right (by rw [mkM_len]; omega), mkM_len, List.getElem?_replicate]
        by_cases h2 : i < (max S.pages x.n).toNat
        · rw [if_pos (by omega), if_pos h2, hU.last (i : Int) (by unfold DS.has; omega)]
          show some zerosM = some page0
          exact congrArg some pad0.symm
        · rw [if_neg (by omega), if_neg h2]
  split
  · split
    · rfl
    split
    · rfl
    split
    · rfl
    · rfl
  split
  · refine Prod.ext ?_ rfl
    dsimp only
    split
    · rfl
    · simp only [DS.doc, DS.sync]
      rw [mkM_lay _ _ _ (fun w hw => (hU.loose w hw).1)]
  split
  · refine Prod.ext ?_ rfl
    dsimp only
    rw [doc_keeps x.ks hL hU]
    rfl
  split
  · split
    · rfl
    split
    · rfl
    · rename_i hp hb
      have hp' : S.has x.page := Decidable.not_not.1 hp
      have h1 := hp'.1
      have h2 := hp'.2
      refine Prod.ext ?_ rfl
      simp only [DS.doc, DS.spoil]
      rw [mkM_at (by omega), over_splb (by rw [hL.getD]; omega), mkM_set h1]
      congr 1
      apply List.map_congr_left
      intro w hw
      split
      · rw [over_splb (by rw [hL.loose w hw]; omega)]
      · rfl
  split
  · refine Prod.ext ?_ rfl
    dsimp only
    split
    · rfl
    · rfl
  · rfl

theorem fold_read (p : Int) : ∀ (ws : List (Int × Bytes)) (s : Bytes) (f : Int → Option Bytes),
    ws.foldl (fun s w => if w.1 = p then w.2 else s) ((f p).getD s) = ((ws.foldl (fun f w => upd f w.1 w.2) f) p).getD s
  | [], s, f => rfl
  | w :: ws, s, f => by
    rw [List.foldl_cons, List.foldl_cons, ← fold_read p ws s (upd f w.1 w.2)]
    congr 1
    by_cases h : w.1 = p
    · simp [h, upd]
    · have : ¬ p = w.1 := fun e => h e.symm
      simp [h, upd, this]
theorem doc_read {S : DS} {c : Nat} (hD : DI c S) (p : Int) (hp : S.has p) : S.doc.read p = S.read p := by
  have h1 := hp.1
  have h2 := hp.2
  have e := fold_read p S.loose ((S.last p).getD page0) (fun _ => none)
  unfold RM.read
  have e2 : getM S.doc.last p = (S.last p).getD page0 := mkM_at (f := S.last) (n := S.pages.toNat) (by omega)
  rw [e2]
  refine Eq.trans e ?_
  rw [← hD.now]
  have h0 : page0 = List.replicate 256 0 := pad0
  unfold DS.read
  rw [h0]
  cases S.now p <;> rfl
end Go.Lun

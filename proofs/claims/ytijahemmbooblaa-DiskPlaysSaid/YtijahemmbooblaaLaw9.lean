/- The law on what lasts: a crash with all kept whole is a sync. -/
import Derived.Test.YtijahemmbooblaaLaw7
namespace Go.Lun
open Go.Proofs

/-- Pages are whole. -/
structure LI (S : DS) : Prop where
  last : ∀ x l, S.last x = some l → l.length = 256
  loose : ∀ w ∈ S.loose, w.2.length = 256

theorem page0_len : page0.length = 256 := pad_len []
theorem LI.getD {S : DS} (h : LI S) (x : Int) : ((S.last x).getD page0).length = 256 := by
  cases e : S.last x with
  | none => exact page0_len
  | some l => exact h.last x l e
theorem upd_len {f : Int → Option Bytes} {p : Int} {b : Bytes} (h : ∀ x l, f x = some l → l.length = 256) (hb : b.length = 256) : ∀ x l, upd f p b x = some l → l.length = 256 := by
  intro x l hx
  unfold upd at hx
  split at hx
  · injection hx with hx; rw [← hx]; exact hb
  · exact h x l hx
theorem lay_len : ∀ (ws : List (Int × Bytes)) (f : Int → Option Bytes), (∀ x l, f x = some l → l.length = 256) → (∀ w ∈ ws, w.2.length = 256) → ∀ x l, (ws.foldl (fun f w => upd f w.1 w.2) f) x = some l → l.length = 256
  | [], f, h, _ => h
  | w :: ws, f, h, hw => by
    rw [List.foldl_cons]
    exact lay_len ws _ (upd_len h (hw w (by simp))) (fun v hv => hw v (by simp [hv]))
theorem LI.sync {S : DS} (h : LI S) : LI S.sync := ⟨lay_len S.loose S.last h.last h.loose, fun w hw => by cases hw⟩
theorem LI.write {S : DS} (h : LI S) (p : Int) (l : Bytes) (hl : l.length = 256) : LI (S.write p l) := ⟨h.last, fun w hw => by
  simp only [DS.write, List.mem_append, List.mem_singleton] at hw
  rcases hw with hw | rfl
  · exact h.loose w hw
  · exact hl⟩
theorem LI.keep {S : DS} (h : LI S) (k : TK) : LI (S.keep k) := by
  by_cases hk : 0 ≤ k.wr ∧ k.wr < S.loose.length
  · obtain ⟨n, hn⟩ : ∃ n : Nat, k.wr = (n : Int) := ⟨k.wr.toNat, by omega⟩
    have hlt : n < S.loose.length := by omega
    rw [keep_in hn (List.getElem?_eq_getElem hlt)]
    exact ⟨upd_len h.last (by rw [tear_len]; exact h.getD _), h.loose⟩
  · rw [keep_out hk]; exact h
theorem LI.keeps : ∀ {ks : List TK} {S : DS}, LI S → LI (ks.foldl DS.keep S)
  | [], S, h => h
  | k :: ks, S, h => by rw [List.foldl_cons]; exact LI.keeps (h.keep k)
theorem LI.crash {S : DS} (h : LI S) (ks : List TK) : LI (S.crash ks) := ⟨(LI.keeps (ks := ks) h).last, fun w hw => by cases hw⟩

theorem LI.act {S : DS} {x : ActM} (h : LI S) : LI (S.act x).1 := by
  unfold DS.act
  split
  · split
    · exact h
    split
    · exact h
    · exact ⟨h.last, h.loose⟩
  split
  · split
    · exact h
    split
    · exact h
    split
    · exact h
    · rename_i hl _; exact h.write _ _ (Decidable.not_not.1 hl)
  split
  · split
    · exact h
    · exact h.sync
  split
  · exact h.crash _
  split
  · split
    · exact h
    split
    · exact h
    · refine ⟨upd_len h.last (by rw [splb_len]; exact h.getD _), fun w hw => ?_⟩
      obtain ⟨v, hv, rfl⟩ := List.mem_map.1 hw
      split
      · rw [splb_len]; exact h.loose v hv
      · exact h.loose v hv
  split
  · split
    · exact h
    · exact ⟨h.last, h.loose⟩
  · exact h

theorem tear_all {b l : Bytes} (hl : l.length = 256) (hb : b.length = 256) : tear 15 b 4 l = b := by
  have hlen := tear_len 15 b 4 l
  apply List.ext_getElem?
  intro i
  by_cases hi : i < 256
  · rw [tear_get 15 b l hl hb i hi 4 (Nat.le_refl _), if_pos]
    have : i / 64 = 0 ∨ i / 64 = 1 ∨ i / 64 = 2 ∨ i / 64 = 3 := by omega
    rcases this with h | h | h | h <;> rw [h] <;> decide
  · rw [List.getElem?_eq_none (by omega), List.getElem?_eq_none (by omega)]

/-- The first m writes kept whole. -/
def allK (m : Nat) : List TK := (List.range m).map fun j : Nat => ⟨(j : Int), 15⟩
theorem allK_len (m : Nat) : (allK m).length = m := by simp [allK]
theorem allK_snoc (m : Nat) : allK (m + 1) = allK m ++ [⟨(m : Int), 15⟩] := by simp [allK, List.range_succ]
theorem allK_sec (m : Nat) : ∀ k ∈ allK m, k.sec < 256 := by
  intro k hk
  obtain ⟨j, _, rfl⟩ := List.mem_map.1 hk
  show 15 < 256; decide
theorem allK_cells (m : Nat) : tcells (allK (m + 1)) = tcells (allK m) ++ [.int .i64 (m : Int), .int .u8 15] := by
  rw [allK_snoc]; simp [tcells, TK.cells]

theorem keep_all {S : DS} (h : LI S) : ∀ m, m ≤ S.loose.length → ((allK m).foldl DS.keep S).last = (S.loose.take m).foldl (fun f w => upd f w.1 w.2) S.last ∧ ((allK m).foldl DS.keep S).loose = S.loose
  | 0, _ => ⟨rfl, rfl⟩
  | m + 1, hm => by
    obtain ⟨ih1, ih2⟩ := keep_all h m (by omega)
    have hg : S.loose[m]? = some S.loose[m] := List.getElem?_eq_getElem (by omega)
    have hw := h.loose _ (List.getElem_mem (show m < S.loose.length by omega))
    have hL := LI.keeps (ks := allK m) h
    rw [allK_snoc, List.foldl_append, List.foldl_cons, List.foldl_nil]
    generalize (allK m).foldl DS.keep S = T at ih1 ih2 hL
    have hg' : T.loose[m]? = some S.loose[m] := by rw [ih2]; exact hg
    rw [keep_in (n := m) rfl hg']
    refine ⟨?_, ih2⟩
    dsimp only
    rw [tear_all (hL.getD _) hw, take_snoc' hg, List.foldl_append, List.foldl_cons, List.foldl_nil, ih1]

theorem crash_all {S : DS} (h : LI S) (x : Int) : (S.crash (allK S.loose.length)).read x = S.sync.read x := by
  have h1 : (S.crash (allK S.loose.length)).last = S.sync.last := by
    have := (keep_all h S.loose.length (Nat.le_refl _)).1
    rw [List.take_length] at this
    exact this
  have h2 : (S.crash (allK S.loose.length)).now = S.sync.now := rfl
  unfold DS.read
  rw [h1, h2]
theorem crash_pages (S : DS) (ks : List TK) : (S.crash ks).pages = S.pages := (keep_same ks S).2.1
end Go.Lun

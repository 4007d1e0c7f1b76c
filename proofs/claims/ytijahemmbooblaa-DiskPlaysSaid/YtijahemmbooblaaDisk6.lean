/- The disk's Crash. -/
import Derived.Test.YtijahemmbooblaaDisk5
namespace Go.Lun
open Go.Proofs

/-- A row that is read: where it has anything, it lies at a block, and its places hold what is told. -/
def RowA {α : Type} (q : Bool) (f : α → List Value) (k : Nat) (a : Option Addr) (xs : List α) : Asrt := fun r => xs ≠ [] → ∃ (b off : Nat) (cs : List Value) (T : TypeId) (fz : Nat × Nat),
  a = some ⟨b, off, none⟩ ∧ getN cs off (xs.length * k) = some (xs.flatMap f) ∧ r b = some (q, .cells ⟨cs⟩ T fz)

structure RX where
  b : Nat
  off : Nat
  cs : List Value
  T : TypeId
  fz : Nat × Nat
theorem RowA.opens {α : Type} {q : Bool} {f : α → List Value} {k : Nat} {a : Option Addr} {xs : List α} (hne : xs ≠ []) : Opens (RowA q f k a xs) RX (fun y => a = some ⟨y.b, y.off, none⟩ ∧ getN y.cs y.off (xs.length * k) = some (xs.flatMap f)) (fun y => [Bkp q y.b (.cells ⟨y.cs⟩ y.T y.fz)]) :=
  ⟨fun r h => by
    obtain ⟨b, off, cs, T, fz, h1, h2, h3⟩ := h hne
    exact ⟨⟨b, off, cs, T, fz⟩, ⟨h1, h2⟩, sep_single h3⟩⟩
theorem RowA.shut {α : Type} {q : Bool} {f : α → List Value} {k : Nat} {T : TypeId} {a : Option Addr} {xs : List α} {b off : Nat} {cs : List Value} {fz : Nat × Nat} (h1 : a = some ⟨b, off, none⟩) (h2 : getN cs off (xs.length * k) = some (xs.flatMap f)) :
    ∀ r, sep [Bkp q b (.cells ⟨cs⟩ T fz)] r → RowA q f k a xs r := fun r ⟨u, v, _, e, hu, _⟩ _ => ⟨b, off, cs, T, fz, h1, h2, by rw [e]; exact join_some hu⟩
theorem RowA.empty {α : Type} {q : Bool} {f : α → List Value} {k : Nat} {a : Option Addr} : ∀ r, sep [] r → RowA q f k a [] r := fun _ _ h => absurd rfl h


structure TK where
  wr : Int
  sec : Nat
def TK.cells (k : TK) : List Value := [.int .i64 k.wr, .int .u8 (k.sec : Int)]
def tcells (ks : List TK) : List Value := ks.flatMap fun k => [.int .i64 k.wr, .int .u8 (k.sec : Int)]
theorem tcells_get {ks : List TK} : ∀ {i : Nat} {k : TK}, ks[i]? = some k → getN (tcells ks) (i * 2) 2 = some [.int .i64 k.wr, .int .u8 (k.sec : Int)] := by
  induction ks with
  | nil => intro i w h; simp at h
  | cons v ws ih =>
    intro i w h
    cases i with
    | zero => simp at h; subst h; simp [tcells, getN, takeN]
    | succ i =>
      have := ih (by simpa using h)
      have e : (i + 1) * 2 = i * 2 + 1 + 1 := by omega
      rw [e]
      exact this
theorem getN_sub {cs xs ys : List Value} {off n k m : Nat} (h : getN cs off n = some xs) (hk : getN xs k m = some ys) : getN cs (off + k) m = some ys := by
  unfold getN at *
  rw [← List.drop_drop]
  have hx := takeN_get h
  have hy := takeN_get hk
  have hle : k + m ≤ n ∨ n < k + m := by omega
  have hlen : m ≤ (xs.drop k).length := by
    rcases Nat.lt_or_ge (xs.drop k).length m with h' | h'
    · have := hy.2 (xs.drop k).length h'
      rw [List.getElem?_eq_none (Nat.le_refl _), List.getElem?_eq_getElem (by omega)] at this
      cases this
    · exact h'
  have hcs : n ≤ (cs.drop off).length := by
    rcases Nat.lt_or_ge (cs.drop off).length n with h' | h'
    · have := hx.2 (cs.drop off).length h'
      rw [List.getElem?_eq_none (Nat.le_refl _), List.getElem?_eq_getElem (by omega)] at this
      cases this
    · exact h'
  rw [takeN_take hcs] at h
  injection h with h
  subst h
  rw [takeN_take hlen] at hk
  rw [List.length_drop, List.length_take] at hlen
  rw [takeN_take (by rw [List.length_drop]; omega), ← hk]
  congr 1
  apply List.ext_getElem?
  intro i
  simp only [List.getElem?_take, List.getElem?_drop]
  split
  · rw [if_pos (by omega)]
  · rfl

/-- Bytes laid over others. -/
def splb : Bytes → Nat → Bytes → Bytes
  | l, _, [] => l
  | l, k, v :: vs => splb (l.set k v) (k + 1) vs
theorem splb_map : ∀ (vs l : Bytes) (k : Nat), spl (l.map byteV) k (vs.map byteV) = (splb l k vs).map byteV
  | [], _, _ => rfl
  | v :: vs, l, k => by simp only [List.map_cons, spl, splb]; rw [← List.map_set, splb_map vs]
theorem splb_len : ∀ (vs l : Bytes) (k : Nat), (splb l k vs).length = l.length
  | [], _, _ => rfl
  | v :: vs, l, k => by simp only [splb]; rw [splb_len vs]; simp

/-- The first s sectors torn. -/
def tear (sec : Nat) (by_ : Bytes) : Nat → Bytes → Bytes
  | 0, l => l
  | s + 1, l => let l' := tear sec by_ s l; if sec / 2 ^ s % 2 = 1 then splb l' (s * 64) ((by_.drop (s * 64)).take 64) else l'
theorem tear_len (sec : Nat) (b : Bytes) : ∀ (s : Nat) (l : Bytes), (tear sec b s l).length = l.length
  | 0, _ => rfl
  | s + 1, l => by simp only [tear]; split; rw [splb_len]; exact tear_len sec b s l; exact tear_len sec b s l

def page0 : Bytes := pad []
/-- One write that survives in part. -/
def DS.keep (S : DS) (k : TK) : DS :=
  if 0 ≤ k.wr ∧ k.wr < S.loose.length then
    match S.loose[k.wr.toNat]? with
    | some w => { S with last := upd S.last w.1 (tear k.sec w.2 4 ((S.last w.1).getD page0)) }
    | none => S
  else S
def DS.crash (S : DS) (ks : List TK) : DS := { ks.foldl DS.keep S with now := fun _ => none, loose := [], burns := false }

theorem keep_loose (ks : List TK) : ∀ S : DS, (ks.foldl DS.keep S).loose = S.loose := by
  induction ks with
  | nil => intro S; rfl
  | cons k ks ih =>
    intro S
    rw [List.foldl_cons, ih]
    unfold DS.keep; split
    · split <;> rfl
    · rfl
theorem keep_out {S : DS} {k : TK} (h : ¬ (0 ≤ k.wr ∧ k.wr < S.loose.length)) : S.keep k = S := by unfold DS.keep; rw [if_neg h]
theorem keep_in {S : DS} {k : TK} {n : Nat} {w : Int × Bytes} (h : k.wr = (n : Int)) (hw : S.loose[n]? = some w) : S.keep k = { S with last := upd S.last w.1 (tear k.sec w.2 4 ((S.last w.1).getD page0)) } := by
  have hn : n < S.loose.length := by
    rcases Nat.lt_or_ge n S.loose.length with h' | h'
    · exact h'
    · rw [List.getElem?_eq_none h'] at hw; cases hw
  unfold DS.keep
  rw [if_pos ⟨by omega, by omega⟩]
  have : k.wr.toNat = n := by omega
  rw [this, hw]

/-- Bytes of their own of what an entry holds, or of nothing. -/
theorem copied_pe (es : List PE) (page : Int) (hlen : ∀ e ∈ es, e.bs.length = 256) : Fn Try.prog 29 [(mget (es.map PE.ent) page).getD (.slice none 0 0)] [Star (es.map PE.asrt)]
    (fun v L => ∃ b', v = .slice (some ⟨b', 0, none⟩) 256 256 ∧ L = [Blk b' (bobj (((pfind es page).map PE.bs).getD page0)), Star (es.map PE.asrt)]) := by
  cases hf : pfind es page with
  | none =>
    have hm : mget (es.map PE.ent) page = none := by rw [mget_pe, hf]; rfl
    rw [hm]
    refine copied_nil.frame (by repeat (first | with_reducible exact Takes.nil | (apply Takes.cons; focus (repeat (first | with_reducible exact Rem.here | apply Rem.there))))) ?_
    rintro _ _ ⟨b, rfl, rfl⟩
    refine ⟨_, _, ⟨b, rfl, rfl⟩, rfl, ?_⟩
    simp only [List.append_eq, List.cons_append, List.nil_append, List.append_nil, tup]
    simp only [Option.map_none, Option.getD_none, page0]
    repeat (first | with_reducible exact Ent.nil | (apply Ent.one; focus (repeat (first | with_reducible exact Rem.here | apply Rem.there))))
  | some e =>
    have hm : mget (es.map PE.ent) page = some (pageV e.blk) := by rw [mget_pe, hf]; rfl
    rw [hm]
    have hb := hlen e (pfind_some hf).1
    obtain ⟨rs, h1, h2, _⟩ := pe_open hf
    refine fn_ent h1 ?_
    refine (copied_at true e.blk 0 256 256 (e.bs.map byteV) 5 (0, 0) e.bs (by have := getN_front (e.bs.map byteV) []; simpa [hb] using this)).frame (by repeat (first | with_reducible exact Takes.nil | (apply Takes.cons; focus (repeat (first | with_reducible exact Rem.here | apply Rem.there))))) ?_
    rintro _ _ ⟨b, rfl, rfl⟩
    refine ⟨_, _, ⟨b, rfl, rfl⟩, rfl, ?_⟩
    simp only [List.append_eq, List.cons_append, List.nil_append, List.append_nil, tup]
    rw [pad_full hb]
    simp only [Option.map_some, Option.getD_some]
    refine Ent.one (by repeat (first | with_reducible exact Rem.here | apply Rem.there)) ?_
    exact h2

theorem we_open {i : Nat} {w : WE} : ∀ {ws : List WE}, ws[i]? = some w → ∃ rs : List WE, Ent [Star (ws.map WE.asrt)] [w.asrt, Star (rs.map WE.asrt)] ∧ Ent [w.asrt, Star (rs.map WE.asrt)] [Star (ws.map WE.asrt)] := by
  induction i with
  | zero =>
    intro ws h
    cases ws with
    | nil => simp at h
    | cons v ws => simp at h; subst h; exact ⟨ws, Ent.star_cons, Ent.cons_star⟩
  | succ i ih =>
    intro ws h
    cases ws with
    | nil => simp at h
    | cons v ws =>
      obtain ⟨rs, h1, h2⟩ := ih (ws := ws) (by simpa using h)
      refine ⟨v :: rs, ?_, ?_⟩
      · refine Ent.star_cons.trans ((Ent.cons h1).trans ((Ent.perm (.swap _ _ _)).trans (Ent.cons Ent.cons_star)))
      · refine (Ent.cons Ent.star_cons).trans ((Ent.perm (.swap _ _ _)).trans ((Ent.cons h2).trans Ent.cons_star))
end Go.Lun

/- Pages in a map: a map from whole numbers to rows of bytes. -/
import Derived.Test.YtijahemmbooblaaDisk1
namespace Go.Lun
open Go.Proofs

/-- An entry: key, block, bytes, stamp. -/
structure PE where
  key : Int
  blk : Nat
  bs : Bytes
  born : Nat

abbrev pageV (b : Nat) : Value := .slice (some ⟨b, 0, none⟩) 256 256
abbrev PE.ent (e : PE) : Int × Value × Nat := (e.key, pageV e.blk, e.born)
abbrev PE.asrt (e : PE) : Asrt := Blk e.blk (bobj e.bs)

def pfind : List PE → Int → Option PE
  | [], _ => none
  | e :: es, k => if k = e.key then some e else pfind es k

def pents (es : List PE) : Array MapEntry := ents (es.map PE.ent)

theorem mget_pe (k : Int) : ∀ es : List PE, mget (es.map PE.ent) k = (pfind es k).map fun e => pageV e.blk
  | [] => rfl
  | e :: es => by
    simp only [List.map_cons, PE.ent, mget, pfind]
    split
    · rfl
    · exact mget_pe k es

theorem pfind_some {k : Int} {e : PE} : ∀ {es : List PE}, pfind es k = some e → e ∈ es ∧ e.key = k
  | [], h => by cases h
  | e' :: es, h => by
    simp only [pfind] at h
    split at h
    · injection h with h; subst h; exact ⟨by simp, by simp [*]⟩
    · obtain ⟨h1, h2⟩ := pfind_some h; exact ⟨by simp [h1], h2⟩
theorem pfind_none {k : Int} : ∀ {es : List PE}, pfind es k = none → ∀ e ∈ es, e.key ≠ k
  | [], _, e, he => by cases he
  | e' :: es, h, e, he => by
    simp only [pfind] at h
    split at h
    · cases h
    · rcases List.mem_cons.1 he with rfl | he
      · intro h2; exact absurd h2.symm (by assumption)
      · exact pfind_none h e he
theorem pfind_append {k : Int} {m : List PE} : ∀ {l : List PE}, pfind (l ++ m) k = (pfind l k).or (pfind m k)
  | [] => by simp [pfind]
  | e :: es => by
    simp only [List.cons_append, pfind]
    split
    · simp
    · exact pfind_append

/-- The first entry of a key with another block and bytes. -/
def pmod (b : Nat) (l : Bytes) : List PE → Int → List PE
  | [], _ => []
  | e :: es, k => if k = e.key then { e with blk := b, bs := l } :: es else e :: pmod b l es k

theorem mmod_pe (b : Nat) (l : Bytes) (k : Int) : ∀ es : List PE, mmod (es.map PE.ent) k (pageV b) = (pmod b l es k).map PE.ent
  | [] => rfl
  | e :: es => by
    simp only [List.map_cons, PE.ent, mmod, pmod]
    split
    · rename_i h; subst h; rfl
    · simp only [List.map_cons]; rw [mmod_pe b l k es]
theorem pmod_keys (b : Nat) (l : Bytes) (k : Int) : ∀ es : List PE, (pmod b l es k).map PE.key = es.map PE.key ∧ (pmod b l es k).map PE.born = es.map PE.born
  | [] => ⟨rfl, rfl⟩
  | e :: es => by
    simp only [pmod]
    split
    · exact ⟨rfl, rfl⟩
    · have := pmod_keys b l k es; simp [this.1, this.2]
theorem pmod_mem {b : Nat} {l : Bytes} {k : Int} {x : PE} : ∀ {es : List PE}, x ∈ pmod b l es k → x ∈ es ∨ x.bs = l
  | [], h => by cases h
  | e :: es, h => by
    simp only [pmod] at h
    split at h
    · rcases List.mem_cons.1 h with rfl | h
      · exact .inr rfl
      · exact .inl (by simp [h])
    · rcases List.mem_cons.1 h with rfl | h
      · exact .inl (by simp)
      · rcases pmod_mem h with h | h
        · exact .inl (by simp [h])
        · exact .inr h
theorem pfind_pmod {b : Nat} {l : Bytes} {k x : Int} : ∀ {es : List PE}, (pfind (pmod b l es k) x).map PE.bs = if x = k ∧ (pfind es k).isSome then some l else (pfind es x).map PE.bs
  | [] => by simp [pmod, pfind]
  | e :: es => by
    simp only [pmod, pfind]
    by_cases h : k = e.key
    · subst h
      simp only [if_true, pfind, Option.isSome_some, and_true]
      split <;> rfl
    · simp only [h, if_false, pfind]
      by_cases h2 : x = e.key
      · subst h2
        have : ¬ e.key = k := fun h3 => h h3.symm
        simp [this]
      · simp only [h2, if_false]; exact pfind_pmod

def upd (f : Int → Option Bytes) (k : Int) (l : Bytes) : Int → Option Bytes := fun x => if x = k then some l else f x

structure PMok (es : List PE) (ck : Nat) (f : Int → Option Bytes) : Prop where
  get : ∀ k, (pfind es k).map PE.bs = f k
  keys : (es.map PE.key).Nodup
  born : (es.map PE.born).Nodup
  old : ∀ e ∈ es, e.born < ck
  len : ∀ e ∈ es, e.bs.length = 256

/-- The map of pages at a block. -/
def PM (m : Nat) (f : Int → Option Bytes) : Asrt := fun r => ∃ (es : List PE) (ck : Nat), PMok es ck f ∧ sep [Blk m (.map (pents es) ck), Star (es.map PE.asrt)] r

instance {m : Nat} {f : Int → Option Bytes} : Opens (PM m f) (List PE × Nat) (fun x => PMok x.1 x.2 f) (fun x => [Blk m (.map (pents x.1) x.2), Star (x.1.map PE.asrt)]) :=
  ⟨fun _ ⟨es, ck, h1, h2⟩ => ⟨(es, ck), h1, h2⟩⟩

theorem Star_perm {L M : List Asrt} (h : L.Perm M) : ∀ r, Star L r → Star M r := fun _ hr => sep_perm h hr
theorem Star_mono {L M : List Asrt} (h : Ent L M) : ∀ r, Star L r → Star M r := h

/-- One entry's bytes taken out. -/
theorem pe_take {k : Int} {e : PE} : ∀ {es : List PE}, pfind es k = some e → ∃ rs : List PE, (es.map PE.asrt).Perm (e.asrt :: rs.map PE.asrt) ∧ ∀ b l, ((pmod b l es k).map PE.asrt).Perm (Blk b (bobj l) :: rs.map PE.asrt)
  | [], h => by cases h
  | e' :: es, h => by
    simp only [pfind] at h
    split at h
    · rename_i hk
      injection h with h; subst h
      exact ⟨es, .refl _, fun b l => by simp only [pmod, hk, if_true, List.map_cons]; exact .refl _⟩
    · rename_i hk
      obtain ⟨rs, h1, h2⟩ := pe_take h
      refine ⟨e' :: rs, ?_, fun b l => ?_⟩
      · exact (List.Perm.cons _ h1).trans (.swap _ _ _)
      · simp only [pmod, hk, if_false, List.map_cons]
        exact (List.Perm.cons _ (h2 b l)).trans (.swap _ _ _)

theorem pe_open {k : Int} {e : PE} {es : List PE} (h : pfind es k = some e) : ∃ rs : List PE, Ent [Star (es.map PE.asrt)] [e.asrt, Star (rs.map PE.asrt)] ∧
    Ent [e.asrt, Star (rs.map PE.asrt)] [Star (es.map PE.asrt)] ∧ ∀ b l, Ent [Blk b (bobj l), Star (rs.map PE.asrt)] [Star ((pmod b l es k).map PE.asrt)] := by
  obtain ⟨rs, h1, h2⟩ := pe_take h
  have o : Ent [Star (rs.map PE.asrt)] (rs.map PE.asrt) := by simpa using Ent.open_star (M := rs.map PE.asrt) (L := [])
  refine ⟨rs, ?_, Ent.star ((Ent.cons o).trans (Ent.perm h1.symm)), fun b l => Ent.star ((Ent.cons o).trans (Ent.perm (h2 b l).symm))⟩
  exact Ent.open_star.trans ((by rw [List.append_nil]; exact Ent.perm h1 : Ent _ _).trans (Ent.cons (Ent.star (Ent.refl _))))

theorem pmod_same {k : Int} {e : PE} : ∀ {es : List PE}, pfind es k = some e → pmod e.blk e.bs es k = es
  | [], h => by cases h
  | e' :: es, h => by
    simp only [pfind] at h
    simp only [pmod]
    split at h
    · rename_i hk; injection h with h; subst h; simp [hk]
    · rename_i hk; simp [hk, pmod_same h]

/-- An entry put. -/
theorem PMok.put {es : List PE} {ck : Nat} {f : Int → Option Bytes} (h : PMok es ck f) (k : Int) (b : Nat) (l : Bytes) (hl : l.length = 256) :
    ∃ es' ck', mput (es.map PE.ent) ck k (pageV b) = .map (pents es') ck' ∧ PMok es' ck' (upd f k l) ∧ Ent [Star (es.map PE.asrt), Blk b (bobj l)] [Star (es'.map PE.asrt)] := by
  cases hf : pfind es k with
  | none =>
    refine ⟨es ++ [⟨k, b, l, ck⟩], ck + 1, ?_, ⟨?_, ?_, ?_, ?_, ?_⟩, ?_⟩
    · simp [mput, mget_pe, hf, pents, PE.ent]
    · intro x
      rw [pfind_append]
      have := h.get x
      by_cases e : x = k
      · subst e; simp [hf, pfind, upd]
      · cases hx : pfind es x with
        | none => rw [hx] at this; simp [pfind, e, upd, ← this]
        | some y => rw [hx] at this; simp [upd, e, ← this]
    · simp only [List.map_append, List.map_cons, List.map_nil]
      refine List.nodup_append.2 ⟨h.keys, by simp, fun x hx y hy hxy => ?_⟩
      obtain ⟨e, he, rfl⟩ := List.mem_map.1 hx
      rw [List.mem_singleton] at hy; subst hy
      exact pfind_none hf e he hxy
    · simp only [List.map_append, List.map_cons, List.map_nil]
      refine List.nodup_append.2 ⟨h.born, by simp, fun x hx y hy hxy => ?_⟩
      obtain ⟨e, he, rfl⟩ := List.mem_map.1 hx
      rw [List.mem_singleton] at hy; subst hy
      have := h.old e he; omega
    · intro e he
      rcases List.mem_append.1 he with he | he
      · have := h.old e he; omega
      · rw [List.mem_singleton] at he; subst he; simp
    · intro e he
      rcases List.mem_append.1 he with he | he
      · exact h.len e he
      · rw [List.mem_singleton] at he; subst he; exact hl
    · intro r hr
      have := Ent.open_star r hr
      rw [List.map_append]
      exact sep_single this
  | some e =>
    refine ⟨pmod b l es k, ck, ?_, ⟨?_, ?_, ?_, ?_, ?_⟩, ?_⟩
    · simp [mput, mget_pe, hf, pents, mmod_pe b l]
    · intro x
      rw [pfind_pmod, hf]
      by_cases e : x = k
      · simp [e, upd]
      · simp [e, upd, h.get x]
    · rw [(pmod_keys b l k es).1]; exact h.keys
    · rw [(pmod_keys b l k es).2]; exact h.born
    · intro x hx
      have h1 : x.born ∈ (pmod b l es k).map PE.born := List.mem_map.2 ⟨x, hx, rfl⟩
      rw [(pmod_keys b l k es).2] at h1
      obtain ⟨y, hy, hxy⟩ := List.mem_map.1 h1
      rw [← hxy]; exact h.old y hy
    · intro x hx
      rcases pmod_mem hx with h1 | h1
      · exact h.len x h1
      · rw [h1]; exact hl
    · obtain ⟨rs, h1, h2⟩ := pe_take hf
      refine Ent.star ?_
      have e1 : Ent [Star (es.map PE.asrt), Blk b (bobj l)] (es.map PE.asrt ++ [Blk b (bobj l)]) := Ent.open_star
      have e2 : Ent (es.map PE.asrt ++ [Blk b (bobj l)]) (rs.map PE.asrt ++ [Blk b (bobj l)]) := Ent.app ((Ent.perm h1).trans Ent.drop)
      exact e1.trans (e2.trans ((Ent.perm List.perm_append_comm).trans (Ent.perm (h2 b l).symm)))

theorem PMok.nil : PMok [] 0 (fun _ => none) := ⟨fun _ => rfl, by simp, by simp, by simp, by simp⟩
theorem PMok.clear {ck : Nat} : PMok [] ck (fun _ => none) := ⟨fun _ => rfl, by simp, by simp, by simp, by simp⟩

/-- A map of pages shut again. -/
theorem PM.shut {m : Nat} {es : List PE} {ck : Nat} {f : Int → Option Bytes} (h : PMok es ck f) : ∀ r, sep [Blk m (.map (pents es) ck), Star (es.map PE.asrt)] r → PM m f r := fun _ hr => ⟨es, ck, h, hr⟩

end Go.Lun

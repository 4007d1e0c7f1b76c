/- copy; maps with whole numbers as keys; strings and bytes. -/
import Derived.Test.YtijahemmbooblaaLib2
namespace Go.Lun

section
variable {P : Program} {n : Nat} {ds : List Deferred} {F : Fr} {L : List Asrt} {env : Env} {Q : Post} {ops : Array Oper} {rest : List Oper}
variable {dt : Option Tmp} {d : Tmp} {ty : TypeId} {pos : String} {af : Array Edge} {g : Option (Nat × Bool)}

/-- copy onto a row that is owned. -/
theorem o_copy {x y : Operand} {t t2 e : TypeId} {z z' : Value} {s1 b1 sz by_ : Nat} {d' : TypeDesc} {b off dl dc k : Nat} {sv : Value} {cs cs' ys : List Value} {T : TypeId} {fz : Nat × Nat} {M : List Asrt}
    [Ty P t (.slice e) z s1 b1] [Ty P e d' z' sz by_] (hx : ev env x = some (.slice (some ⟨b, off, none⟩) dl dc)) (hy : ev env y = some sv) (hsrc : Src P F L sz sv k ys)
    [hb : Find L b true (.cells ⟨cs⟩ T fz)] (hcs : spl cs off (ys.take (min k dl * sz)) = cs') [hu : Upd L b (.cells ⟨cs'⟩ T fz) M] (hroom : off + dl * sz ≤ cs.length) (h1 : ∀ u ∈ ys, u.oneCell' = true)
    (hf : ∀ j, off ≤ j → j < off + dl * sz → frz fz j = false) (hd : fits n dt = true)
    (h : OpsJ P n ds F M (putE env dt (.int .i64 ((min k dl : Nat) : Int))) ops rest Q) : OpsJ P n ds F L env ops (⟨dt, .call ⟨.builtin .copy, #[x, y], #[t, t2]⟩, ty, pos, af, none⟩ :: rest) Q :=
  o_value (X := Unit) (L' := fun _ => M) (v := fun _ => .int .i64 ((min k dl : Nat) : Int)) rfl hd (fun w a s kk => ⟨(), put w b (.cells ⟨cs'⟩ T fz), by
    obtain ⟨hlen, hyl, hfc⟩ := hsrc w s
    have hfc' := hfc (min k dl) (Nat.min_le_left _ _)
    have hle : (ys.take (min k dl * sz)).length ≤ dl * sz := by
      have : min k dl * sz ≤ dl * sz := Nat.mul_le_mul_right _ (Nat.min_le_right _ _)
      simp; omega
    have hst := run_storeCells (P := P) (off := off) (ys.take (min k dl * sz)) 0 w cs (s.find hb) (fun j h1 h2 => hf j (by omega) (by omega)) (by simp only [Nat.add_zero]; omega) (fun u hu => h1 u (List.mem_of_mem_take hu))
    simp only [Nat.add_zero, hcs] at hst
    rw [run_builtin kk (vs := [.slice (some ⟨b, off, none⟩) dl dc, sv]) (by simp [evs, hx, hy])]
    simp only [builtin, Sem.run_bind, Builtin.copy_]
    simp only [List.getElem?_toArray, List.getElem?_cons_zero, List.getElem?_cons_succ, Sem.run_bind, run_und, Result.andThen_ok, run_size, Sem.run_pure, hlen]
    rw [show Nat.min k dl = min k dl from rfl, hfc']
    simp [hst, goInt], s.upd hu⟩) (fun _ => h)

/-! #### Maps with whole numbers as keys -/

def ents (es : List (Int × Value × Nat)) : Array MapEntry := ⟨es.map fun e => ⟨.int .i64 e.1, e.2.1, e.2.2⟩⟩

def mget : List (Int × Value × Nat) → Int → Option Value
  | [], _ => none
  | (k', v, _) :: es, k => if k = k' then some v else mget es k
/-- The first entry of a key anew. -/
def mmod : List (Int × Value × Nat) → Int → Value → List (Int × Value × Nat)
  | [], _, _ => []
  | (k', v', s) :: es, k, v => if k = k' then (k, v, s) :: es else (k', v', s) :: mmod es k v
def mdel : List (Int × Value × Nat) → Int → List (Int × Value × Nat)
  | [], _ => []
  | (k', v', s) :: es, k => if k = k' then es else (k', v', s) :: mdel es k
def mput (es : List (Int × Value × Nat)) (ck : Nat) (k : Int) (v : Value) : Obj :=
  match mget es k with
  | some _ => .map (ents (mmod es k v)) ck
  | none => .map (ents (es ++ [(k, v, ck)])) (ck + 1)

def mfind : List (Int × Value × Nat) → Int → Nat → Option (Nat × Value)
  | [], _, _ => none
  | (k', v, _) :: es, k, i => if k = k' then some (i, v) else mfind es k (i + 1)

theorem findNow_ents {k : Int} : ∀ (es : List (Int × Value × Nat)) (i : Nat), Instr.findNow (.int .i64) (.int .i64 k) (ents es).toList i = some (mfind es k i)
  | [], _ => rfl
  | (k', v, s) :: es, i => by
    have ih := findNow_ents (k := k) es (i + 1)
    simp only [ents] at ih ⊢
    simp only [List.map_cons, Instr.findNow, Instr.sameNow, if_true, mfind]
    by_cases e : k = k'
    · subst e; simp
    · have : (k == k') = false := by simpa using e
      simp only [this, e, if_false]; exact ih

theorem mfind_mget {k : Int} : ∀ (es : List (Int × Value × Nat)) (i : Nat), (mfind es k i).map (·.2) = mget es k
  | [], _ => rfl
  | (k', v, s) :: es, i => by
    simp only [mfind, mget]
    split
    · rfl
    · exact mfind_mget es (i + 1)

theorem mfind_mod {k : Int} {v : Value} : ∀ (es : List (Int × Value × Nat)) (i j : Nat) (u : Value), mfind es k i = some (j, u) → i ≤ j ∧ ∃ e, (es[j - i]?) = some e ∧ e.1 = k ∧
    (ents es).modify (j - i) (fun e => { e with key := .int .i64 k, val := v }) = ents (mmod es k v)
  | [], _, _, _, h => by cases h
  | (k', v', s) :: es, i, j, u, h => by
    simp only [mfind] at h
    by_cases e : k = k'
    · subst e
      simp at h
      obtain ⟨rfl, rfl⟩ := h
      refine ⟨Nat.le_refl _, (k, v', s), by simp, rfl, ?_⟩
      simp only [ents, mmod, if_true, Nat.sub_self]
      apply Array.ext'
      simp [List.modify_zero_cons]
    · simp only [e, if_false] at h
      obtain ⟨h1, e0, h2, h3, h4⟩ := mfind_mod es (i + 1) j u h
      have hj : j - i = (j - (i + 1)) + 1 := by omega
      refine ⟨by omega, e0, by rw [hj]; simpa using h2, h3, ?_⟩
      have h5 := congrArg Array.toList h4
      apply Array.ext'
      simp only [ents, mmod, e, if_false, hj] at h5 ⊢
      simp only [Array.toList_modify] at h5 ⊢
      simp only [List.map_cons, List.modify_succ_cons]
      rw [h5]

section
theorem run_checkKey {K : TypeId} {z0 : Value} {s0 b0 : Nat} {w : World} [hK : Ty P K (.int .i64) z0 s0 b0] {em : Bool} {k : Int} : (Instr.checkKey em 10000 K (.int .i64 k)).run P w = .ok () w := by
  rw [show (10000 : Nat) = 9999 + 1 from rfl, Instr.checkKey]
  simp only [Sem.run_bind, run_und, Result.andThen_ok, Sem.run_pure]
theorem run_findKey {K : TypeId} {z0 : Value} {s0 b0 : Nat} {w : World} [hK : Ty P K (.int .i64) z0 s0 b0] {k : Int} {es : List (Int × Value × Nat)} : (Instr.findKey K (.int .i64 k) (ents es).toList).run P w = .ok (mfind es k 0) w := by
  simp only [Instr.findKey, Sem.run_bind, run_und, Result.andThen_ok, findNow_ents, Sem.run_pure]
end

/-- A key's value, or the nought. -/
theorem y_lookup {t K E : TypeId} {x ix : Operand} {zt zk ze : Value} {s1 b1 s2 b2 s3 b3 : Nat} {de : TypeDesc} {m ck : Nat} {es : List (Int × Value × Nat)} {k : Int} [Ty P t (.map K E) zt s1 b1] [Ty P K (.int .i64) zk s2 b2] [Ty P E de ze s3 b3]
    (hx : ev env x = some (.map (some m))) (hi : ev env ix = some (.int .i64 k)) [hb : Has F L m (.map (ents es) ck)] :
    Yld P n ds F L env ⟨dt, .lookup t x ix false, ty, pos, af, g⟩ ((mget es k).getD ze) := .mk fun w a s kk => by
  have e1 := kk.ev hx
  have e2 := kk.ev hi
  have hw := hb.out w s
  have hg : (getObj m).run P w = .ok (.map (ents es) ck) w := by simp [getObj, Sem.run, hw]
  simp only [execOp, e1, e2, Instr.lookup, Sem.run_bind, run_und, Result.andThen_ok, hg, Sem.run_pure, run_checkKey, run_findKey]
  rw [← mfind_mget es 0]
  cases mfind es k 0 with
  | none => simp [run_zero]
  | some p => simp
theorem y_lookup_ok {t K E : TypeId} {x ix : Operand} {zt zk ze : Value} {s1 b1 s2 b2 s3 b3 : Nat} {de : TypeDesc} {m ck : Nat} {es : List (Int × Value × Nat)} {k : Int} [Ty P t (.map K E) zt s1 b1] [Ty P K (.int .i64) zk s2 b2] [Ty P E de ze s3 b3]
    (hx : ev env x = some (.map (some m))) (hi : ev env ix = some (.int .i64 k)) [hb : Has F L m (.map (ents es) ck)] :
    Yld P n ds F L env ⟨dt, .lookup t x ix true, ty, pos, af, g⟩ (.tuple ⟨[(mget es k).getD ze, .bool (mget es k).isSome]⟩) := .mk fun w a s kk => by
  have e1 := kk.ev hx
  have e2 := kk.ev hi
  have hw := hb.out w s
  have hg : (getObj m).run P w = .ok (.map (ents es) ck) w := by simp [getObj, Sem.run, hw]
  simp only [execOp, e1, e2, Instr.lookup, Sem.run_bind, run_und, Result.andThen_ok, hg, Sem.run_pure, run_checkKey, run_findKey]
  rw [← mfind_mget es 0]
  cases mfind es k 0 with
  | none => simp [run_zero]
  | some p => simp

theorem y_lookup_v {t K E : TypeId} {x ix : Operand} {zt zk ze v : Value} {s1 b1 s2 b2 s3 b3 : Nat} {de : TypeDesc} {m ck : Nat} {es : List (Int × Value × Nat)} {k : Int} [Ty P t (.map K E) zt s1 b1] [Ty P K (.int .i64) zk s2 b2] [Ty P E de ze s3 b3]
    (hx : ev env x = some (.map (some m))) (hi : ev env ix = some (.int .i64 k)) [hb : Has F L m (.map (ents es) ck)] (hv : mget es k = some v) :
    Yld P n ds F L env ⟨dt, .lookup t x ix false, ty, pos, af, g⟩ v := by
  have := y_lookup (P := P) (n := n) (ds := ds) (F := F) (L := L) (dt := dt) (ty := ty) (pos := pos) (af := af) (g := g) (t := t) hx hi
  rwa [hv] at this
theorem y_lookup_z {t K E : TypeId} {x ix : Operand} {zt zk ze : Value} {s1 b1 s2 b2 s3 b3 : Nat} {de : TypeDesc} {m ck : Nat} {es : List (Int × Value × Nat)} {k : Int} [Ty P t (.map K E) zt s1 b1] [Ty P K (.int .i64) zk s2 b2] [Ty P E de ze s3 b3]
    (hx : ev env x = some (.map (some m))) (hi : ev env ix = some (.int .i64 k)) [hb : Has F L m (.map (ents es) ck)] (hv : mget es k = none) :
    Yld P n ds F L env ⟨dt, .lookup t x ix false, ty, pos, af, g⟩ ze := by
  have := y_lookup (P := P) (n := n) (ds := ds) (F := F) (L := L) (dt := dt) (ty := ty) (pos := pos) (af := af) (g := g) (t := t) hx hi
  rwa [hv] at this
theorem y_lookup_okv {t K E : TypeId} {x ix : Operand} {zt zk ze v : Value} {s1 b1 s2 b2 s3 b3 : Nat} {de : TypeDesc} {m ck : Nat} {es : List (Int × Value × Nat)} {k : Int} [Ty P t (.map K E) zt s1 b1] [Ty P K (.int .i64) zk s2 b2] [Ty P E de ze s3 b3]
    (hx : ev env x = some (.map (some m))) (hi : ev env ix = some (.int .i64 k)) [hb : Has F L m (.map (ents es) ck)] (hv : mget es k = some v) :
    Yld P n ds F L env ⟨dt, .lookup t x ix true, ty, pos, af, g⟩ (.tuple ⟨[v, .bool true]⟩) := by
  have := y_lookup_ok (P := P) (n := n) (ds := ds) (F := F) (L := L) (dt := dt) (ty := ty) (pos := pos) (af := af) (g := g) (t := t) hx hi
  rwa [hv] at this
theorem y_lookup_okz {t K E : TypeId} {x ix : Operand} {zt zk ze : Value} {s1 b1 s2 b2 s3 b3 : Nat} {de : TypeDesc} {m ck : Nat} {es : List (Int × Value × Nat)} {k : Int} [Ty P t (.map K E) zt s1 b1] [Ty P K (.int .i64) zk s2 b2] [Ty P E de ze s3 b3]
    (hx : ev env x = some (.map (some m))) (hi : ev env ix = some (.int .i64 k)) [hb : Has F L m (.map (ents es) ck)] (hv : mget es k = none) :
    Yld P n ds F L env ⟨dt, .lookup t x ix true, ty, pos, af, g⟩ (.tuple ⟨[ze, .bool false]⟩) := by
  have := y_lookup_ok (P := P) (n := n) (ds := ds) (F := F) (L := L) (dt := dt) (ty := ty) (pos := pos) (af := af) (g := g) (t := t) hx hi
  rwa [hv] at this

theorem run_setObj {w : World} {m : Nat} {o o' : Obj} (h : w.heap[m]? = some o) (hc : ∀ c e f, o ≠ .cells c e f) : (setObj m o').run P w = .ok () (put w m o') := by
  simp only [setObj, Sem.run, h]
  cases o <;> first | rfl | exact absurd rfl (hc _ _ _)

theorem o_mapUpdate {t K E : TypeId} {x ix y : Operand} {zt zk : Value} {s1 b1 s2 b2 : Nat} {m ck : Nat} {es : List (Int × Value × Nat)} {k : Int} {v : Value} {M : List Asrt} [Ty P t (.map K E) zt s1 b1] [Ty P K (.int .i64) zk s2 b2]
    (hx : ev env x = some (.map (some m))) (hi : ev env ix = some (.int .i64 k)) (hy : ev env y = some v) [hb : Find L m true (.map (ents es) ck)] [hu : Upd L m (mput es ck k v) M]
    (h : OpsJ P n ds F M env ops rest Q) : OpsJ P n ds F L env ops (⟨none, .mapUpdate t x ix y, ty, pos, af, none⟩ :: rest) Q :=
  o_void (X := Unit) (L' := fun _ => M) rfl rfl (fun w a s kk => ⟨(), put w m (mput es ck k v), by
    have e1 := kk.ev hx
    have e2 := kk.ev hi
    have e3 := kk.ev hy
    have hw := s.find hb
    have hg : (getObj m).run P w = .ok (.map (ents es) ck) w := by simp [getObj, Sem.run, hw]
    have hs : ∀ o', (setObj m o').run P w = .ok () (put w m o') := fun o' => run_setObj hw (by intro _ _ _ h; cases h)
    simp only [execOp, e1, e2, e3, Instr.mapUpdate, Sem.run_bind, run_und, Result.andThen_ok, hg, run_checkKey, run_findKey]
    have hfm := mfind_mget (k := k) es 0
    unfold mput
    cases hf : mfind es k 0 with
    | none =>
      rw [hf] at hfm
      rw [← hfm]
      simp only [Option.map_none, hs, Result.andThen_ok, Sem.run_pure]
      have : (ents es).push { key := .int .i64 k, val := v, born := ck } = ents (es ++ [(k, v, ck)]) := by apply Array.ext'; simp [ents]
      rw [this]
    | some p =>
      obtain ⟨j, u⟩ := p
      rw [hf] at hfm
      rw [← hfm]
      obtain ⟨h1, e0, h2, h3, h4⟩ := mfind_mod (v := v) es 0 j u hf
      simp only [Nat.sub_zero] at h2 h4
      have hkey : ((ents es)[j]?).map (·.key) = some (.int .i64 k) := by simp [ents, h2, h3]
      simp only [Option.map_some, hkey, Option.getD_some, Instr.keyThatStays, Instr.sameBits, beq_self_eq_true, Bool.and_self, if_true, Sem.run_bind, Sem.run_pure, Result.andThen_ok, h4, hs], s.upd hu⟩) (fun _ => h)

theorem o_clear {x : Operand} {t K E : TypeId} {zt : Value} {s1 b1 m ck : Nat} {es : Array MapEntry} {M : List Asrt} [Ty P t (.map K E) zt s1 b1] (hx : ev env x = some (.map (some m))) [hb : Find L m true (.map es ck)] [hu : Upd L m (.map #[] ck) M]
    (hd : fits n dt = true) (h : OpsJ P n ds F M (putE env dt (.tuple #[])) ops rest Q) : OpsJ P n ds F L env ops (⟨dt, .call ⟨.builtin .clear, #[x], #[t]⟩, ty, pos, af, none⟩ :: rest) Q :=
  o_value (X := Unit) (L' := fun _ => M) (v := fun _ => .tuple #[]) rfl hd (fun w a s kk => ⟨(), put w m (.map #[] ck), by
    have hw := s.find hb
    have hg : (getObj m).run P w = .ok (.map es ck) w := by simp [getObj, Sem.run, hw]
    have hs : ∀ o', (setObj m o').run P w = .ok () (put w m o') := fun o' => run_setObj hw (by intro _ _ _ h; cases h)
    rw [run_builtin kk (vs := [.map (some m)]) (by simp [evs, hx])]
    simp [builtin, Builtin.clear_, run_und, hg, hs], s.upd hu⟩) (fun _ => h)

/-! #### Texts -/

def byteV (c : UInt8) : Value := .int .u8 (c.toNat : Int)
def str (l : List UInt8) : Value := .string ⟨⟨l⟩⟩

/-- string(b) -/
theorem y_conv_str {src dst e : TypeId} {x : Operand} {zs zd : Value} {s1 b1 s2 b2 : Nat} {ze : Value} {s3 b3 b off len cap : Nat} {cs : List Value} {T : TypeId} {fz : Nat × Nat} {l : List UInt8} [Ty P src (.slice e) zs s1 b1] [Ty P dst .string zd s2 b2] [Ty P e (.int .u8) ze s3 b3]
    (hx : ev env x = some (.slice (some ⟨b, off, none⟩) len cap)) [hb : Has F L b (.cells ⟨cs⟩ T fz)] (hl : getN cs off len = some (l.map byteV)) :
    Yld P n ds F L env ⟨dt, .convert src dst x, ty, pos, af, g⟩ (str l) := .mk fun w a s kk => by
  have e1 := kk.ev hx
  have h1 := run_loadCells (P := P) (hb.out w s) hl
  have h2 := run_bytesToString (P := P) w ⟨b, off, none⟩ len cap (l.map fun c => (c.toNat : Int)) (by rw [h1]; congr 1; apply Array.ext'; simp [byteV, Function.comp_def])
  simp only [execOp, e1, convert, Sem.run_bind, run_und, Result.andThen_ok, h2, Sem.run_pure]
  have : (l.map fun c => (c.toNat : Int)).foldl (fun r n => r.push (UInt8.ofNat n.toNat)) ByteArray.empty = ⟨⟨l⟩⟩ := by
    have gen : ∀ (l : List UInt8) (r : ByteArray), (l.map fun c => (c.toNat : Int)).foldl (fun r n => r.push (UInt8.ofNat n.toNat)) r = ⟨⟨r.data.toList ++ l⟩⟩ := by
      intro l
      induction l with
      | nil => intro r; apply ByteArray.ext; simp
      | cons c l ih => intro r; simp [ih]
    have := gen l ByteArray.empty
    simpa using this
  rw [this]; rfl
theorem y_conv_str_nil {src dst e : TypeId} {x : Operand} {zs zd : Value} {s1 b1 s2 b2 : Nat} {ze : Value} {s3 b3 : Nat} [Ty P src (.slice e) zs s1 b1] [Ty P dst .string zd s2 b2] [Ty P e (.int .u8) ze s3 b3]
    (hx : ev env x = some (.slice none 0 0)) : Yld P n ds F L env ⟨dt, .convert src dst x, ty, pos, af, g⟩ (str []) := .mk fun w a s kk => by
  have e1 := kk.ev hx
  simp [execOp, e1, convert, run_und, Conv.bytesToString]; rfl

/-- []byte(s) -/
theorem o_conv_bytes {src dst e : TypeId} {x : Operand} {zs zd : Value} {s1 b1 s2 b2 : Nat} {ze : Value} {s3 b3 : Nat} {l : List UInt8} [Ty P src .string zs s1 b1] [Ty P dst (.slice e) zd s2 b2] [Ty P e (.int .u8) ze s3 b3]
    (hx : ev env x = some (str l)) (hd : Nat.blt d n = true)
    (h : ∀ b rs cap, l.length + rs.length = cap → OpsJ P n ds F (Blk b (.cells ⟨l.map byteV ++ rs⟩ e (cap, cap + 1)) :: L) ((d, .slice (some ⟨b, 0, none⟩) l.length cap) :: env) ops rest Q) :
    OpsJ P n ds F L env ops (⟨some d, .convert src dst x, ty, pos, af, none⟩ :: rest) Q := by
  refine o_value (X := { p : Nat × List Value × Nat // l.length + p.2.1.length = p.2.2 }) (L' := fun p => Blk p.1.1 (.cells ⟨l.map byteV ++ p.1.2.1⟩ e (p.1.2.2, p.1.2.2 + 1)) :: L) (v := fun p => .slice (some ⟨p.1.1, 0, none⟩) l.length p.1.2.2) rfl hd (fun w a s kk => ?_) (fun p => h _ _ _ p.2)
  have e1 := kk.ev hx
  unfold str at e1
  simp only [execOp, e1, convert, Sem.run_bind, run_und, Result.andThen_ok, Conv.stringToBytes, run_choose, Question.forced, Bool.false_eq_true, if_false]
  have hsz : (⟨⟨l⟩⟩ : ByteArray).size = l.length := rfl
  rw [hsz]
  generalize hq : (Question.appendCap l.length 0 e).cut (w.tape w.drawn (.appendCap l.length 0 e)) = nc
  have hnc : l.length ≤ nc := by rw [← hq]; simp [Question.cut]
  have s' := s.drew (w.drawn + 1)
  generalize ({ w with drawn := w.drawn + 1 } : World) = w' at *
  have hobj : ((⟨⟨l⟩⟩ : ByteArray).data.map (fun b => Value.int .u8 (b.toNat : Int)) ++ Array.replicate (nc - l.length) (Value.int .u8 0)) = ⟨l.map byteV ++ List.replicate (nc - l.length) (.int .u8 0)⟩ := by
    apply Array.ext'; simp [byteV]
  simp only [newRow, Sem.run_bind, run_newObj, Result.andThen_ok, Sem.run_pure, hobj]
  generalize hrs : List.replicate (nc - l.length) (Value.int .u8 0) = rs
  have hrl : l.length + rs.length = nc := by rw [← hrs]; simp; omega
  have s'' := s'.new (.cells ⟨l.map byteV ++ rs⟩ e (nc, nc + 1))
  refine ⟨⟨(w'.heap.size, rs, nc), hrl⟩, { w' with heap := w'.heap.push (.cells ⟨l.map byteV ++ rs⟩ e (nc, nc + 1)) }, ?_, s''⟩
  have hsh : ({ w' with heap := w'.heap.push (.cells ⟨l.map byteV ++ rs⟩ e) } : World).shape? w'.heap.size = some (e, nc) := by simp [World.shape?, hrl]
  have hfr : ({ w' with heap := w'.heap.push (.cells ⟨l.map byteV ++ rs⟩ e) } : World).freeze ⟨w'.heap.size, nc, none⟩ 1 = { w' with heap := w'.heap.push (.cells ⟨l.map byteV ++ rs⟩ e (nc, nc + 1)) } := by
    unfold World.freeze
    simp only [Nat.one_ne_zero, if_false]
    congr 1
    apply Array.ext_getElem?
    intro i
    rw [Array.getElem?_modify]
    by_cases e1 : w'.heap.size = i
    · subst e1; simp
    · simp [e1, Array.getElem?_push, Ne.symm e1]
  simp only [markStringish, Sem.run_bind, run_shape, hsh, Result.andThen_ok, run_freeze, hfr, Sem.run_pure]

theorem y_index_str {t : TypeId} {x ix : Operand} {z : Value} {s1 b1 : Nat} {l : List UInt8} {kd : IntKind} {i0 : Int} (i : Nat) {c : UInt8} [Ty P t .string z s1 b1] (hx : ev env x = some (str l)) (hi : ev env ix = some (.int kd i0)) (h0 : i0 = (i : Int)) (hc : l[i]? = some c) :
    Yld P n ds F L env ⟨dt, .index t x ix, ty, pos, af, g⟩ (byteV c) := .mk fun w a s kk => by
  have e1 := kk.ev hx
  have e2 := kk.ev hi
  subst h0
  have hlt : i < l.length := by
    rcases Nat.lt_or_ge i l.length with h | h
    · exact h
    · rw [List.getElem?_eq_none h] at hc; cases hc
  have hb : (⟨⟨l⟩⟩ : ByteArray)[i]? = some c := by
    have hlt' : i < (⟨⟨l⟩⟩ : ByteArray).size := hlt
    rw [ByteArray.getElem?_lt' _ _ hlt']
    have h3 : l[i]? = some l[i] := List.getElem?_eq_getElem hlt
    rw [h3] at hc
    exact hc
  unfold str at e1
  have h0' : (0 : Int) ≤ (i : Int) := by omega
  simp [execOp, e1, e2, Instr.index, asIntOf, run_und, hb, byteV]

theorem y_eq_str {op : BinOp} {xt yt : TypeId} {x y : Operand} {l m : List UInt8} {c : Bool} (hx : ev env x = some (str l)) (hy : ev env y = some (str m))
    (hop : (match op with | .eql => c = decide (l = m) | .neq => c = !decide (l = m) | _ => False)) : Yld P n ds F L env ⟨dt, .binOp op xt x y yt, ty, pos, af, g⟩ (.bool c) := .mk fun w a s kk => by
  have e1 := kk.ev hx
  have e2 := kk.ev hy
  unfold str at e1 e2
  have hl : (⟨⟨l⟩⟩ : ByteArray).toList = l := by rw [ByteArray.toList_eq]
  have hm : (⟨⟨m⟩⟩ : ByteArray).toList = m := by rw [ByteArray.toList_eq]
  cases op <;> simp at hop <;> subst hop <;> simp [execOp, e1, e2, eqGuard, binOp, Op.stringOp, hl, hm] <;> (rw [Bool.eq_iff_iff]; simp)

theorem y_add_str {xt yt : TypeId} {x y : Operand} {l m : List UInt8} (hx : ev env x = some (str l)) (hy : ev env y = some (str m)) (hs : l.length + m.length ≤ 9223372036854775807) :
    Yld P n ds F L env ⟨dt, .binOp .add xt x y yt, ty, pos, af, g⟩ (str (l ++ m)) := .mk fun w a s kk => by
  have e1 := kk.ev hx
  have e2 := kk.ev hy
  unfold str at e1 e2
  have := run_string_add_sum (P := P) (w := w) ⟨⟨l⟩⟩ ⟨⟨m⟩⟩ hs
  have h3 := ByteArray.mk_append_mk l m
  simp only [execOp, e1, e2, eqGuard, binOp, Sem.run_bind]
  simp [this]
  exact congrArg Value.string h3

/-- s[lo:hi] of a text. -/
theorem y_slice_str {t : TypeId} {x : Operand} {lo hi : Option Operand} {z : Value} {s1 b1 : Nat} {l : List UInt8} (i j : Nat) [Ty P t .string z s1 b1] (hx : ev env x = some (str l)) (hl : bndE env lo 0 = some (i : Int)) (hh : bndE env hi l.length = some (j : Int)) (hij : i ≤ j) (hj : j ≤ l.length) :
    Yld P n ds F L env ⟨dt, .slice t x lo hi none, ty, pos, af, g⟩ (str ((l.take j).drop i)) := .mk fun w a _ k => by
  have e1 := k.ev hx
  have el : ∀ o, lo = some o → ∃ kd, a.eval o = .int kd (i : Int) := fun o ho => by
    subst ho
    simp only [bndE] at hl
    cases hv : ev env o with
    | none => rw [hv] at hl; cases hl
    | some v => rw [hv] at hl; cases v <;> simp at hl; subst hl; exact ⟨_, k.ev hv⟩
  have eh : ∀ o, hi = some o → ∃ kd, a.eval o = .int kd (j : Int) := fun o ho => by
    subst ho
    simp only [bndE] at hh
    cases hv : ev env o with
    | none => rw [hv] at hh; cases hh
    | some v => rw [hv] at hh; cases v <;> simp at hh; subst hh; exact ⟨_, k.ev hv⟩
  have hsz : (⟨⟨l⟩⟩ : ByteArray).size = l.length := rfl
  have key : ∃ m, (Instr.sliceBounds false l.length l.length (lo.map a.eval) (hi.map a.eval) none).run P w = .ok (i, j, m) w := by
    unfold Instr.sliceBounds
    refine ⟨l.length, ?_⟩
    cases hi with
    | none =>
      have : j = l.length := by simp [bndE] at hh; omega
      subst this
      cases lo with
      | none => have : i = 0 := by simp [bndE] at hl; omega
                subst this; simp
      | some o => obtain ⟨kd, e⟩ := el o rfl; simp [e, run_sliceBound hij]
    | some oh =>
      obtain ⟨kh, e'⟩ := eh oh rfl
      cases lo with
      | none => have : i = 0 := by simp [bndE] at hl; omega
                subst this; simp [e', run_sliceBound hj]
      | some o => obtain ⟨kd, e⟩ := el o rfl; simp [e, e', run_sliceBound hj, run_sliceBound hij]
  obtain ⟨m, key⟩ := key
  unfold str at e1
  simp only [execOp, Sem.run_bind, Sem.run_pure, Instr.sliceAt, run_und, Result.andThen_ok, e1, Instr.slice, Option.map_none, Option.isSome_none, Bool.false_eq_true, if_false, hsz, key]
  have : (⟨⟨l⟩⟩ : ByteArray).extract i j = ⟨⟨(l.take j).drop i⟩⟩ := by
    apply ByteArray.ext
    rw [ByteArray.data_extract]
    apply Array.ext'
    simp [List.extract_eq_take_drop]
    rw [List.drop_take]
  rw [this]; rfl

end
end Go.Lun

/- append, copy, maps, strings and bytes. -/
import Derived.Test.YtijahemmbooblaaLib1
import Derived.Laws.BytesString
import Derived.Laws.Strings
import Derived.Laws.Concat
namespace Go.Lun

/-- A slice of the call's own: it begins at its block's head; what its places hold. -/
def Sl (E : TypeId) (sz : Nat) (a : Option Addr) (len cap : Nat) (xs : List Value) : Asrt := fun r =>
  xs.length = len * sz ∧ ((a = none ∧ len = 0 ∧ cap = 0) ∨ ∃ b rest, a = some ⟨b, 0, none⟩ ∧ len ≤ cap ∧ xs.length + rest.length = cap * sz ∧ r b = some (true, .cells ⟨xs ++ rest⟩ E (0, 0)))

theorem growBy_le (need : Nat) : ∀ (r c : Nat), c ≤ 2 * need + 300 → Builtin.growBy need r c ≤ 2 * need + 300
  | 0, c, h => by simpa [Builtin.growBy] using h
  | r + 1, c, h => by
    simp only [Builtin.growBy]
    split
    · exact h
    · exact growBy_le need r _ (by omega)
theorem nsc_le {need old : Nat} (h : old < need) : Builtin.nextslicecap need old ≤ 2 * need + 300 := by
  unfold Builtin.nextslicecap
  split
  · omega
  · split
    · omega
    · exact growBy_le need 4 old (by omega)

theorem spl_end (xs rest ys : List Value) (h : ys.length ≤ rest.length) : spl (xs ++ rest) xs.length ys = xs ++ ys ++ rest.drop ys.length := by
  have := spl_mid ys xs (rest.take ys.length) (rest.drop ys.length) (by simp; omega)
  rw [List.take_append_drop] at this
  rw [this, List.append_assoc]

theorem getN_length {cs vs : List Value} {off k : Nat} (h : getN cs off k = some vs) : vs.length = k := (takeN_get h).1
theorem getN_front (xs rest : List Value) : getN (xs ++ rest) 0 xs.length = some xs := by
  unfold getN
  rw [List.drop_zero, takeN_take (by simp)]
  simp

section
variable {P : Program} {n : Nat} {ds : List Deferred} {F : Fr} {L : List Asrt} {env : Env} {Q : Post} {ops : Array Oper} {rest : List Oper}
variable {dt : Option Tmp} {d : Tmp} {ty : TypeId} {pos : String} {af : Array Edge} {g : Option (Nat × Bool)}

/-- What a slice (or text) that is read holds at its first k places. -/
def Src (P : Program) (F : Fr) (L : List Asrt) (sz : Nat) (v : Value) (k : Nat) (ys : List Value) : Prop :=
  ∀ w, St F L w → (Builtin.lenOf v).run P w = .ok k w ∧ ys.length = k * sz ∧ ∀ j, j ≤ k → (Builtin.firstCells sz j v).run P w = .ok ⟨ys.take (j * sz)⟩ w

theorem Src.nil {sz : Nat} : Src P F L sz (.slice none 0 0) 0 [] := fun w _ => ⟨by simp [Builtin.lenOf], by simp, fun j hj => by simp [Builtin.firstCells]⟩
theorem Src.slice {sz b off k cap : Nat} {cs ys : List Value} {T : TypeId} {fz : Nat × Nat} [hb : Has F L b (.cells ⟨cs⟩ T fz)] (h : getN cs off (k * sz) = some ys) :
    Src P F L sz (.slice (some ⟨b, off, none⟩) k cap) k ys := fun w s => ⟨by simp [Builtin.lenOf], getN_length h, fun j hj => by
  have hle : j * sz ≤ k * sz := Nat.mul_le_mul_right _ hj
  have h2 : getN cs off (j * sz) = some (ys.take (j * sz)) := by
    have h3 : k * sz ≤ (cs.drop off).length ∨ (cs.drop off).length < k * sz := by omega
    have hl := getN_length h
    rcases h3 with h3 | h3
    · unfold getN at h ⊢
      rw [takeN_take h3] at h
      rw [takeN_take (by omega)]
      injection h with h
      rw [← h, List.take_take, Nat.min_eq_left hle]
    · exfalso
      have := (takeN_get h).2
      have h4 := this ((cs.drop off).length) (by omega)
      rw [List.getElem?_eq_none (Nat.le_refl _)] at h4
      rw [List.getElem?_eq_getElem (by omega)] at h4
      cases h4
  simp [Builtin.firstCells, run_loadCells (hb.out w s) h2]⟩

/-- A resource's block written anew, where it is told by an assertion that stands at place. -/
theorem St.upd_at {L R : List Asrt} {A B : Asrt} {w : World} (s : St F L w) (hr : Rem L A R) {b : Nat} {o : Obj} (hA : ∀ r, A r → (∃ o0, r b = some (true, o0)) ∧ B (Res.set r b o)) : St F (B :: R) (put w b o) := by
  obtain ⟨h1, h2, h3, r, hc, hf, hrs, hs⟩ := s
  obtain ⟨u, v, huv, rfl, hAu, hR⟩ := sep_perm hr.perm hs
  obtain ⟨⟨o0, hu⟩, hB⟩ := hA u hAu
  have hb : join u v b = some (true, o0) := join_some hu
  have hlt := lt_of_get (hrs _ _ _ hb)
  refine ⟨h1, h2, by simpa [put] using h3, Res.set (join u v) b o, (hc.symm.set hb).symm, ?_, ?_, Res.set u b o, v, huv.set hu, join_set_l.symm, hB, hR⟩
  · intro x p o' hx
    have hne : x ≠ b := by
      rintro rfl
      have := hc.none_l hb
      rw [this] at hx; cases hx
    rw [put_ne hne]; exact hf x p o' hx
  · intro x p o' hx
    by_cases e : x = b
    · subst e
      simp [Res.set] at hx
      rw [put_get hlt]; exact congrArg _ hx.2
    · simp [Res.set, e] at hx
      rw [put_ne e]; exact hrs x p o' hx

theorem St.look {L R : List Asrt} {A : Asrt} {w : World} (s : St F L w) (hr : Rem L A R) : ∃ r, A r ∧ Sat r w := by
  obtain ⟨h1, h2, h3, r, hc, hf, hrs, hs⟩ := s
  obtain ⟨u, v, huv, rfl, hAu, hR⟩ := sep_perm hr.perm hs
  exact ⟨u, hAu, hrs.left⟩

def isIntD : TypeDesc → Bool
  | .int _ => true
  | _ => false

theorem Sl.cases {E : TypeId} {sz len cap : Nat} {a : Option Addr} {xs : List Value} {r : Res} (h : Sl E sz a len cap xs r) :
    xs.length = len * sz ∧ ((a = none ∧ len = 0 ∧ cap = 0) ∨ ∃ b rs, a = some ⟨b, 0, none⟩ ∧ len ≤ cap ∧ xs.length + rs.length = cap * sz ∧ r b = some (true, .cells ⟨xs ++ rs⟩ E (0, 0))) := h

/-- A slice of the call's own, opened. -/
theorem c_openSl {c : Code} {E : TypeId} {sz len cap : Nat} {a : Option Addr} {xs : List Value} {R : List Asrt} (hr : Rem L (Sl E sz a len cap xs) R)
    (hn : xs.length = len * sz → a = none → len = 0 → cap = 0 → CodeJ P n ds F R env c Q)
    (hs : ∀ b rs, xs.length = len * sz → a = some ⟨b, 0, none⟩ → len ≤ cap → xs.length + rs.length = cap * sz → CodeJ P n ds F (Blk b (.cells ⟨xs ++ rs⟩ E (0, 0)) :: R) env c Q) : CodeJ P n ds F L env c Q := .mk fun w a' s o => by
  obtain ⟨h1, h2, h3, r, hc, hf, hrs, hsp⟩ := s
  obtain ⟨u, v, huv, rfl, hA, hR⟩ := sep_perm hr.perm hsp
  obtain ⟨hl, ⟨e1, e2, e3⟩ | ⟨b, rs, e1, e2, e3, hb⟩⟩ := hA.cases
  · exact (hn hl e1 e2 e3).out w a' ⟨h1, h2, h3, _, hc, hf, hrs, sep_grow huv hR⟩ o
  · exact (hs b rs hl e1 e2 e3).out w a' ⟨h1, h2, h3, _, hc, hf, hrs, u, v, huv, rfl, hb, hR⟩ o
theorem Sl.shut {E : TypeId} {sz len cap b : Nat} {xs rs : List Value} (h1 : xs.length = len * sz) (h2 : len ≤ cap) (h3 : xs.length + rs.length = cap * sz) :
    ∀ r, sep [Blk b (.cells ⟨xs ++ rs⟩ E (0, 0))] r → Sl E sz (some ⟨b, 0, none⟩) len cap xs r := fun r hr => by
  obtain ⟨u, v, huv, rfl, hA, _⟩ := hr
  exact ⟨h1, .inr ⟨b, rs, rfl, h2, h3, join_some hA⟩⟩
theorem Sl.shut_nil {E : TypeId} {sz : Nat} : ∀ r, sep [] r → Sl E sz none 0 0 [] r := fun _ _ => ⟨by simp, .inl ⟨rfl, rfl, rfl⟩⟩

/-- append to a slice of the call's own. -/
theorem o_append {x y : Operand} {t t2 e : TypeId} {z z' : Value} {s1 b1 sz by_ : Nat} {d' : TypeDesc} {e2 : TypeId} {z2 : Value} {s2 b2 : Nat} {a0 : Option Addr} {len cap k : Nat} {sv : Value} {xs ys zs : List Value} {R : List Asrt}
    [Ty P t (.slice e) z s1 b1] [Ty P e d' z' sz by_] [hzc : CellsV z' zs] [hzn : LenL zs sz] [Ty P t2 (.slice e2) z2 s2 b2] (hx : ev env x = some (.slice a0 len cap)) (hy : ev env y = some sv) (hsrc : Src P F L sz sv k ys) (hr : Rem L (Sl e sz a0 len cap xs) R)
    (h1 : ∀ u ∈ ys, u.oneCell' = true) (hroom : (2 * (len + k) + 300) * by_ ≤ 281474976710656) (hby : Nat.ble 1 by_ = true) (hmax : len + k ≤ 9223372036854775807) (hd : Nat.blt d n = true)
    (h : ∀ a' cap', OpsJ P n ds F (Sl e sz a' (len + k) cap' (xs ++ ys) :: R) ((d, .slice a' (len + k) cap') :: env) ops rest Q) :
    OpsJ P n ds F L env ops (⟨some d, .call ⟨.builtin .append, #[x, y], #[t, t2]⟩, ty, pos, af, none⟩ :: rest) Q := by
  have hzs : z'.cells.size = sz := by rw [hzc.out.1]; simpa using hzn.out
  refine o_value (X := Option Addr × Nat) (L' := fun p => Sl e sz p.1 (len + k) p.2 (xs ++ ys) :: R) (v := fun p => .slice p.1 (len + k) p.2) rfl hd (fun w a s kk => ?_) (fun p => h p.1 p.2)
  obtain ⟨hlen, hyl, hfc⟩ := hsrc w s
  obtain ⟨r, ⟨hxl, hA⟩, hsat⟩ := s.look hr
  obtain ⟨inf, hinf, _, _, hib⟩ := run_info (P := P) (t := e) (w := w)
  have hk : (Builtin.firstCells sz k sv).run P w = .ok ⟨ys⟩ w := by
    have := hfc k (Nat.le_refl _)
    rwa [← hyl, List.take_length] at this
  rw [run_builtin kk (vs := [.slice a0 len cap, sv]) (by simp [evs, hx, hy])]
  simp only [builtin, Sem.run_bind, Builtin.append_]
  simp only [List.getElem?_toArray, List.getElem?_cons_zero, List.getElem?_cons_succ, Sem.run_bind, run_und, Result.andThen_ok, run_size, Sem.run_pure]
  simp only [Bool.false_eq_true, if_false, Sem.run_bind, hlen, Result.andThen_ok, Bool.not_false, if_true]
  by_cases hfit : len + k ≤ cap
  · simp only [hfit, if_true, Sem.run_bind, hk, Result.andThen_ok]
    rcases hA with ⟨rfl, rfl, rfl⟩ | ⟨b, rs, rfl, hlc, hrl, hrb⟩
    · have k0 : k = 0 := by omega
      subst k0
      have hy0 : ys = [] := by simpa using hyl
      have hx0 : xs = [] := by simpa using hxl
      subst hy0; subst hx0
      refine ⟨(none, 0), w, by simp, ?_⟩
      obtain ⟨q1, q2, q3, r', q4, q5, q6, q7⟩ := s
      exact ⟨q1, q2, q3, r', q4, q5, q6, sep_perm hr.perm q7⟩
    · have hw : w.heap[b]? = some (.cells ⟨xs ++ rs⟩ e (0, 0)) := hsat b _ _ hrb
      have hyr : ys.length ≤ rs.length := by
        have : (len + k) * sz ≤ cap * sz := Nat.mul_le_mul_right _ hfit
        rw [Nat.add_mul] at this; omega
      have hst := run_storeCells (P := P) (off := len * sz) ys 0 w (xs ++ rs) hw (by simp [frz]) (by simp; omega) h1
      simp only [Nat.add_zero] at hst
      rw [← hxl, spl_end xs rs ys hyr] at hst
      refine ⟨(some ⟨b, 0, none⟩, cap), put w b (.cells ⟨xs ++ ys ++ rs.drop ys.length⟩ e (0, 0)), by simp [add_none, ← hxl, hst], ?_⟩
      refine s.upd_at hr fun r2 hr2 => ?_
      obtain ⟨_, hr2⟩ := hr2
      rcases hr2 with ⟨h0, _⟩ | ⟨b', rs', hb', hlc', hrl', hrb'⟩
      · cases h0
      · injection hb' with hb'; injection hb' with hb'; subst hb'
        refine ⟨⟨_, hrb'⟩, by simp [hxl, hyl, Nat.add_mul], .inr ⟨b, rs.drop ys.length, rfl, hfit, ?_, ?_⟩⟩
        · simp; omega
        · simp [Res.set]
  · have hn1 : ¬ ((((len + k : Nat) : Int) > IntKind.i64.max) ∧ (False ∨ inf.bytes = 0)) := by
      rintro ⟨h9, _⟩
      have e9 : IntKind.i64.max = 9223372036854775807 := by decide
      rw [e9] at h9; omega
    have hn2 : ¬ (Builtin.nextslicecap (len + k) cap * inf.bytes > 2 ^ 48) := by
      have e3 : (2 : Nat) ^ 48 = 281474976710656 := by decide
      have h7 := nsc_le (need := len + k) (old := cap) (by omega)
      have h8 := Nat.mul_le_mul_right by_ h7
      rw [e3, hib]; omega
    have hn1' : ¬ ((((len + k : Nat) : Int) > IntKind.i64.max) ∧ ((false = true) ∨ inf.bytes = 0)) := by simpa using hn1
    simp only [hfit, if_false, Sem.run_bind, hinf, Result.andThen_ok]
    rw [if_neg (by simpa using hn1')]
    simp only [Sem.run_bind, hinf, Result.andThen_ok]
    rw [if_neg hn2]
    simp only [Sem.run_bind, run_choose, Question.forced, Bool.false_eq_true, if_false, Result.andThen_ok, run_askRoom]
    generalize hq : (Question.appendCap (len + k) cap e).cut (w.tape w.drawn (.appendCap (len + k) cap e)) = nc
    have hnc : len + k ≤ nc := by rw [← hq]; simp [Question.cut]
    have s' := s.drew (w.drawn + 1)
    generalize hw' : ({ w with drawn := w.drawn + 1 } : World) = w' at *
    obtain ⟨hlen', hyl', hfc'⟩ := hsrc w' s'
    obtain ⟨r', ⟨hxl', hA'⟩, hsat'⟩ := s'.look hr
    have hk' : (Builtin.firstCells sz k sv).run P w' = .ok ⟨ys⟩ w' := by
      have := hfc' k (Nat.le_refl _)
      rwa [← hyl', List.take_length] at this
    have hold : (Builtin.firstCells sz len (.slice a0 len cap)).run P w' = .ok ⟨xs⟩ w' := by
      rcases hA' with ⟨rfl, rfl, rfl⟩ | ⟨b, rs, rfl, hlc, hrl, hrb⟩
      · have hx0 : xs = [] := by simpa using hxl'
        subst hx0
        simp [Builtin.firstCells]
      · simp only [Builtin.firstCells]
        have := getN_front xs rs
        rw [hxl'] at this
        exact run_loadCells (hsat' b _ _ hrb) this
    obtain ⟨inf', hinf', hiz', _, hib'⟩ := run_info (P := P) (t := e) (w := w')
    simp only [hinf', Result.andThen_ok, hold, hk', run_zero]
    have hzl : (Builtin.zeroCells z'.cells (nc - (len + k))).toList.length = (nc - (len + k)) * sz := by simp [Builtin.zeroCells, hzs]
    have hobj : ((⟨xs⟩ : Array Value) ++ ⟨ys⟩ ++ Builtin.zeroCells z'.cells (nc - (len + k))) = ⟨xs ++ ys ++ (Builtin.zeroCells z'.cells (nc - (len + k))).toList⟩ := by apply Array.ext'; simp
    rw [hobj]
    generalize (Builtin.zeroCells z'.cells (nc - (len + k))).toList = zc at hzl
    refine ⟨(some ⟨w'.heap.size, 0, none⟩, nc), { w' with heap := w'.heap.push (.cells ⟨xs ++ ys ++ zc⟩ e) }, by simp [newRow], ?_⟩
    obtain ⟨q1, q2, q3, r3, q4, q5, q6, q7⟩ := s'.new (.cells ⟨xs ++ ys ++ zc⟩ e)
    refine ⟨q1, q2, q3, r3, q4, q5, q6, ?_⟩
    obtain ⟨u, v, huv, rfl, hu, hv⟩ := q7
    obtain ⟨u2, v2, huv2, rfl, hu2, hv2⟩ := sep_perm hr.perm hv
    refine ⟨u, join u2 v2, huv, rfl, ⟨by simp [hxl, hyl, Nat.add_mul], .inr ⟨_, zc, rfl, hnc, ?_, hu⟩⟩, sep_grow huv2 hv2⟩
    rw [hzl]
    simp only [List.length_append, hxl, hyl]
    rw [← Nat.add_mul, ← Nat.add_mul]; congr 1; omega

end
end Go.Lun

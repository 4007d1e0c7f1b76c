/- Ranging over a map. -/
import Derived.Test.YtijahemmbooblaaLib3
namespace Go.Lun

section
variable {P : Program} {n : Nat} {ds : List Deferred} {F : Fr} {L : List Asrt} {env : Env} {Q : Post} {ops : Array Oper} {rest : List Oper}
variable {dt : Option Tmp} {d : Tmp} {ty : TypeId} {pos : String} {af : Array Edge} {g : Option (Nat × Bool)}

theorem o_range {t K E : TypeId} {x : Operand} {z : Value} {s1 b1 m ck : Nat} {es : Array MapEntry} [Ty P t (.map K E) z s1 b1] (hx : ev env x = some (.map (some m))) [hb : Has F L m (.map es ck)] (hd : Nat.blt d n = true)
    (h : ∀ it, OpsJ P n ds F (Blk it (.mapIter (some m) ck #[] ck) :: L) ((d, .pointer (some ⟨it, 0, none⟩)) :: env) ops rest Q) : OpsJ P n ds F L env ops (⟨some d, .range t x, ty, pos, af, none⟩ :: rest) Q :=
  o_value (X := Nat) (L' := fun b => Blk b (.mapIter (some m) ck #[] ck) :: L) (v := fun b => .pointer (some ⟨b, 0, none⟩)) rfl hd (fun w a s kk => ⟨w.heap.size, { w with heap := w.heap.push (.mapIter (some m) ck #[] ck) }, by
    have e1 := kk.ev hx
    have hg : (getObj m).run P w = .ok (.map es ck) w := by simp [getObj, Sem.run, hb.out w s]
    simp [execOp, e1, Instr.range, run_und, hg], s.new _⟩) h

theorem ents_filter (es : List (Int × Value × Nat)) (p : MapEntry → Bool) : (ents es).filter p = ⟨(es.map fun e => ({ key := .int .i64 e.1, val := e.2.1, born := e.2.2 } : MapEntry)).filter p⟩ := by
  apply Array.ext'; simp [ents]

/-- The next entry, whichever it is; or that there is none left. -/
theorem o_next {x : Operand} {it m ck : Nat} {es : List (Int × Value × Nat)} {seen : List Nat} (hx : ev env x = some (.pointer (some ⟨it, 0, none⟩))) [hi : Find L it true (.mapIter (some m) ck ⟨seen⟩ ck)] [hm : Has F L m (.map (ents es) ck)]
    (hold : ∀ e ∈ es, e.2.2 < ck) (M : (Int × Value × Nat) → List Asrt) [hu : ∀ e, Upd L it (.mapIter (some m) ck ⟨seen ++ [e.2.2]⟩ ck) (M e)] (hd : Nat.blt d n = true)
    (h0 : (∀ e ∈ es, e.2.2 ∈ seen) → OpsJ P n ds F L ((d, .tuple ⟨[.bool false]⟩) :: env) ops rest Q)
    (h1 : ∀ e, e ∈ es → e.2.2 ∉ seen → OpsJ P n ds F (M e) ((d, .tuple ⟨[.bool true, .int .i64 e.1, e.2.1]⟩) :: env) ops rest Q) :
    OpsJ P n ds F L env ops (⟨some d, .next x false, ty, pos, af, none⟩ :: rest) Q := .mk fun w a s k => by
  refine wpList_plain rfl fun K hK => ?_
  have e1 := k.ev hx
  have hwi := s.find hi
  have hwm := hm.out w s
  have hgi : (getObj it).run P w = .ok (.mapIter (some m) ck ⟨seen⟩ ck) w := by simp [getObj, Sem.run, hwi]
  have hgm : (getObj m).run P w = .ok (.map (ents es) ck) w := by simp [getObj, Sem.run, hwm]
  have hall : ((!(⟨seen⟩ : Array Nat).isEmpty && !(ents es).isEmpty && (ents es).all (fun e => decide (e.born ≥ ck)))) = false := by
    cases es with
    | nil => simp [ents]
    | cons e es =>
      have := hold e (by simp)
      simp [ents]; intros; omega
  -- what is left
  let me : (Int × Value × Nat) → MapEntry := fun e => { key := .int .i64 e.1, val := e.2.1, born := e.2.2 }
  let lf := es.filter fun e => !(seen.contains e.2.2)
  have hleft : (ents es).filter (fun e => !(⟨seen⟩ : Array Nat).contains e.born) = ⟨lf.map me⟩ := by
    rw [ents_filter]; congr 1
    rw [List.filter_map]; congr 1
    apply List.filter_congr; intro e _; simp [me]
  have hoo : (⟨lf.map me⟩ : Array MapEntry).filter (fun e => decide (e.born < ck)) = ⟨lf.map me⟩ := by
    apply Array.ext'
    simp only [Array.toList_filter]
    rw [List.filter_eq_self]
    intro e he
    obtain ⟨y, hy, rfl⟩ := List.mem_map.1 he
    have := hold y (List.mem_filter.1 hy).1
    simp [me, this]
  have hnn : (⟨lf.map me⟩ : Array MapEntry).filter (fun e => decide (e.born ≥ ck)) = ⟨[]⟩ := by
    apply Array.ext'
    simp only [Array.toList_filter]
    rw [List.filter_eq_nil_iff]
    intro e he
    obtain ⟨y, hy, rfl⟩ := List.mem_map.1 he
    have := hold y (List.mem_filter.1 hy).1
    simp [me]; omega
  have hset : ∀ (w' : World) o', w'.heap = w.heap → (setObj it o').run P w' = .ok () (put w' it o') := fun w' o' hw' => run_setObj (by rw [hw']; exact hwi) (by intro _ _ _ h; cases h)
  unfold Oper.wp
  cases hl : lf with
  | nil =>
    have hr : (execOp a.eval ⟨some d, .next x false, ty, pos, af, none⟩).run P w = .ok (.value (.tuple ⟨[.bool false]⟩)) w := by
      rw [hl] at hleft hoo hnn
      simp only [execOp, e1, Instr.next, Sem.run_bind, hgi, Result.andThen_ok, hgm, hall, Bool.false_eq_true, if_false, hleft, hoo, hnn]
      simp [Question.forced]
    rw [hr]
    refine hK _ _ ((h0 ?_).out w _ s (k.put (d := some d) hd _))
    intro e he
    have h3 : e ∉ lf := by rw [hl]; simp
    have h4 : ¬ (!(seen.contains e.2.2)) = true := fun h4 => h3 (List.mem_filter.2 ⟨he, h4⟩)
    simpa using h4
  | cons y ys =>
    have hne : lf ≠ [] := by rw [hl]; simp
    have hex : ∃ e w', e ∈ lf ∧ w'.heap = w.heap ∧ w'.os = w.os ∧ w'.output = w.output ∧ (execOp a.eval ⟨some d, .next x false, ty, pos, af, none⟩).run P w = .ok (.value (.tuple ⟨[.bool true, .int .i64 e.1, e.2.1]⟩)) (put w' it (.mapIter (some m) ck ⟨seen ++ [e.2.2]⟩ ck)) := by
      have hemp : (⟨lf.map me⟩ : Array MapEntry).isEmpty = false := by rw [hl]; simp
      have hsz : ((#[] : Array (Option MapEntry)) ++ ((⟨lf.map me⟩ : Array MapEntry) ++ ⟨[]⟩).map some).size = lf.length := by simp
      simp only [execOp, e1, Instr.next, Sem.run_bind, hgi, Result.andThen_ok, hgm, hall, Bool.false_eq_true, if_false, hleft, hoo, hnn, hemp, hsz, run_choose]
      have pick : ∀ j, j < lf.length → ∃ e, e ∈ lf ∧ lf[j]? = some e := fun j hj => ⟨lf[j], List.getElem_mem hj, List.getElem?_eq_getElem hj⟩
      have hpos : 0 < lf.length := by rw [hl]; simp
      by_cases hfo : (Question.mapNext lf.length).forced = true
      · obtain ⟨e, he, hj⟩ := pick 0 hpos
        refine ⟨e, w, he, rfl, rfl, rfl, ?_⟩
        simp [hfo, hj, me, hset w _ rfl]
      · obtain ⟨e, he, hj⟩ := pick ((Question.mapNext lf.length).cut (w.tape w.drawn (.mapNext lf.length))) (by simp only [Question.cut]; exact Nat.mod_lt _ hpos)
        refine ⟨e, { w with drawn := w.drawn + 1 }, he, rfl, rfl, rfl, ?_⟩
        simp [hfo, hj, me]
        rw [hset w.drew _ rfl]
        simp
    obtain ⟨e, w', he, hh, ho, hou, hr⟩ := hex
    rw [hr]
    have he' := List.mem_filter.1 he
    refine hK _ _ ((h1 e he'.1 (by simpa using he'.2)).out _ _ ?_ (k.put (d := some d) hd _))
    have s' : St F L w' := by
      obtain ⟨q1, q2, q3, r, q4, q5, q6, q7⟩ := s
      exact ⟨ho.trans q1, hou.trans q2, by rw [hh]; exact q3, r, q4, fun b p o hb => by rw [hh]; exact q5 b p o hb, fun b p o hb => by rw [hh]; exact q6 b p o hb, q7⟩
    exact s'.upd (hu e)

theorem y_entry {x : Operand} {it m ck since : Nat} {es : List (Int × Value × Nat)} {seen : List Nat} {e : Int × Value × Nat} (hx : ev env x = some (.pointer (some ⟨it, 0, none⟩))) [hi : Has F L it (.mapIter (some m) since ⟨seen ++ [e.2.2]⟩ ck)] [hm : Has F L m (.map (ents es) ck)]
    (he : e ∈ es) (hn : (es.map fun e => e.2.2).Nodup) : Yld P n ds F L env ⟨dt, .entry x, ty, pos, af, g⟩ (.tuple ⟨[.int .i64 e.1, e.2.1]⟩) := .mk fun w a s k => by
  have e1 := k.ev hx
  have hgi : (getObj it).run P w = .ok (.mapIter (some m) since ⟨seen ++ [e.2.2]⟩ ck) w := by simp [getObj, Sem.run, hi.out w s]
  have hgm : (getObj m).run P w = .ok (.map (ents es) ck) w := by simp [getObj, Sem.run, hm.out w s]
  have hb : (⟨seen ++ [e.2.2]⟩ : Array Nat).back? = some e.2.2 := by simp [Array.back?]
  have hf : (ents es).find? (fun y => y.born == e.2.2) = some { key := .int .i64 e.1, val := e.2.1, born := e.2.2 } := by
    simp only [ents]
    rw [List.find?_toArray, List.find?_map]
    have : List.find? ((fun y : MapEntry => y.born == e.2.2) ∘ fun e => ({ key := .int .i64 e.1, val := e.2.1, born := e.2.2 } : MapEntry)) es = some e := by
      clear hm hgm
      induction es with
      | nil => cases he
      | cons y es ih =>
        simp only [List.map_cons, List.nodup_cons] at hn
        rcases List.mem_cons.1 he with rfl | he
        · simp
        · have hne : y.2.2 ≠ e.2.2 := fun h => hn.1 (h ▸ List.mem_map.2 ⟨e, he, rfl⟩)
          have : ((fun y : MapEntry => y.born == e.2.2) ∘ fun e => ({ key := .int .i64 e.1, val := e.2.1, born := e.2.2 } : MapEntry)) y = false := by simpa using hne
          rw [List.find?_cons, this]; exact ih he hn.2
    rw [this]; rfl
  simp only [execOp, e1, Instr.entry, Sem.run_bind, hgi, Result.andThen_ok, hb, hgm, bne_self_eq_false, Bool.false_eq_true, if_false, hf, Sem.run_pure]

end
end Go.Lun

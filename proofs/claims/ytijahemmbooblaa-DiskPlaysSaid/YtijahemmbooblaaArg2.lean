/- Acts and what they keep, out of arguments. -/
import Derived.Test.YtijahemmbooblaaArg
namespace Go.Lun
open Go.Proofs Go.ChangeShapes Go.WideShapes Go.ChangeAt Go.RowKit Go.Deep

theorem cells_int : Try.prog.cellsOf 3 = 1 := by kernel_rfl
theorem cells_u8 : Try.prog.cellsOf 5 = 1 := by kernel_rfl
theorem cells_bool : Try.prog.cellsOf 4 = 1 := by kernel_rfl
theorem cells_string : Try.prog.cellsOf 9 = 1 := by kernel_rfl
theorem cells_torn : Try.prog.cellsOf 33 = 2 := by kernel_rfl
theorem cells_torns : Try.prog.cellsOf 34 = 1 := by kernel_rfl
theorem cells_act : Try.prog.cellsOf 49 = 6 := by kernel_rfl

section
variable {H : Type} {enc : TypeId × Value → H} {W : World} {sp : Nat → Bool} {hd : Bool}
/-- A struct's field of one cell. -/
theorem fld_open {P : Program} {m : Nat} {fs : Array Field} {cs : List Value} {xs : List (DataW H × List MemPlace)} (hxl : xs.length = fs.size)
    (hf : ∀ (i : Nat) (f : Field), fs[i]? = some f → DataW.trod enc P W 0 sp hd m f.type ((cs.drop f.offset).take (P.cellsOf f.type)) = xs[i]?)
    (i : Nat) (t : TypeId) (c : Value) {fl : Field} (h1 : fs[i]? = some fl) (h2 : fl.type = t) (h3 : fl.offset = i) (hc : P.cellsOf t = 1) (h4 : cs[i]? = some c) : ∃ y, DataW.trod enc P W 0 sp hd m t [c] = some y := by
  have h := hf i fl h1
  subst h2
  rw [h3, hc] at h
  have hi : i < fs.size := by
    rcases Nat.lt_or_ge i fs.size with g | g
    · exact g
    · rw [Array.getElem?_eq_none g] at h1; cases h1
  have e : (cs.drop i).take 1 = [c] := by
    have hlt : i < cs.length := by
      rcases Nat.lt_or_ge i cs.length with g | g
      · exact g
      · rw [List.getElem?_eq_none g] at h4; cases h4
    rw [List.getElem?_eq_getElem hlt] at h4
    injection h4 with h4
    rw [List.drop_eq_getElem_cons hlt, h4]
    rfl
  rw [e, List.getElem?_eq_getElem (by omega)] at h
  exact ⟨_, h⟩
end

section
variable {H : Type} {enc : TypeId × Value → H} {W : World} {sp : Nat → Bool} {hd : Bool}

theorem bool_open (n : Nat) (cs : List Value) (y : DataW H × List MemPlace) (h : DataW.trod enc Try.prog W 0 sp hd n 4 cs = some y) : ∃ b : Bool, cs = [.bool b] ∧ True := by
  obtain ⟨b, h1, _⟩ := DataW.trod_bool Try.underlying4 h
  exact ⟨b, h1, trivial⟩

theorem torn_open (n : Nat) (cs : List Value) (y : DataW H × List MemPlace) (h : DataW.trod enc Try.prog W 0 sp hd n 33 cs = some y) : ∃ k : TK, cs = k.cells ∧ k.sec < 256 := by
  obtain ⟨xs, m, _, _, hl, hxl, hf⟩ := DataW.trod_struct Try.underlying33 h
  rw [cells_torn] at hl
  match cs, hl with
  | [c0, c1], _ =>
    obtain ⟨y0, f0⟩ := fld_open hxl hf 0 3 c0 rfl rfl rfl cells_int rfl
    obtain ⟨y1, f1⟩ := fld_open hxl hf 1 5 c1 rfl rfl rfl cells_u8 rfl
    obtain ⟨a, e0, _, _⟩ := DataW.trod_int Try.underlying3 f0
    obtain ⟨s, e1, _, ws⟩ := DataW.trod_int Try.underlying5 f1
    simp only [Lit.wf, Bool.and_eq_true, decide_eq_true_eq] at ws
    have h1 : IntKind.u8.min = 0 := rfl
    have h2 : IntKind.u8.max = 255 := rfl
    injection e0 with e0
    injection e1 with e1
    refine ⟨⟨a, s.toNat⟩, ?_, by dsimp only; omega⟩
    simp only [TK.cells]
    rw [e0, e1]
    have : ((s.toNat : Nat) : Int) = s := by omega
    rw [this]

theorem act_open (n : Nat) (cs : List Value) (y : DataW H × List MemPlace) (h : DataW.trod enc Try.prog W 0 sp hd n 49 cs = some y) : ∃ x : ActM, cs = x.cells ∧ (x.ok ∧ KA x (Fr.all W).res) := by
  obtain ⟨xs, m, _, _, hl, hxl, hf⟩ := DataW.trod_struct Try.underlying49 h
  rw [cells_act] at hl
  match cs, hl with
  | [c0, c1, c2, c3, c4, c5], _ =>
    obtain ⟨y0, f0⟩ := fld_open hxl hf 0 3 c0 rfl rfl rfl cells_int rfl
    obtain ⟨y1, f1⟩ := fld_open hxl hf 1 3 c1 rfl rfl rfl cells_int rfl
    obtain ⟨y2, f2⟩ := fld_open hxl hf 2 3 c2 rfl rfl rfl cells_int rfl
    obtain ⟨y3, f3⟩ := fld_open hxl hf 3 3 c3 rfl rfl rfl cells_int rfl
    obtain ⟨y4, f4⟩ := fld_open hxl hf 4 9 c4 rfl rfl rfl cells_string rfl
    obtain ⟨y5, f5⟩ := fld_open hxl hf 5 34 c5 rfl rfl rfl cells_torns rfl
    obtain ⟨a0, e0, _, _⟩ := DataW.trod_int Try.underlying3 f0
    obtain ⟨a1, e1, _, _⟩ := DataW.trod_int Try.underlying3 f1
    obtain ⟨a2, e2, _, _⟩ := DataW.trod_int Try.underlying3 f2
    obtain ⟨a3, e3, _, _⟩ := DataW.trod_int Try.underlying3 f3
    obtain ⟨s, e4, _, _⟩ := DataW.trod_string Try.underlying9 f4
    obtain ⟨ka, kc, ks, e5, hrow, hq, _, _, _⟩ := row_open TK.cells (fun k => k.sec < 256) (by decide) Try.underlying34 cells_torn torn_open f5
    injection e0 with e0
    injection e1 with e1
    injection e2 with e2
    injection e3 with e3
    injection e4 with e4
    injection e5 with e5
    refine ⟨⟨a0, a1, a2, a3, s.data.toList, ka, kc, ks⟩, ?_, hq, hrow⟩
    simp only [ActM.cells]
    rw [e0, e1, e2, e3, e4, e5]
    rfl
end
end Go.Lun

/- header.Fields, Body; the statements' example of layer 9. -/
import Derived.Test.YthnkgifbbemhfaaGreatDoorH6
import Derived.Test.YthnkgifbbemhfaaGreatDoorEr
set_option linter.unusedVariables false
set_option linter.unusedSimpArgs false
namespace Go.Proofs.YthnkgifbbemhfaaGreatDoor
open Go.RowKit

/-- fields handed back -/
def FieldsP (B : Nat) (fs : List Fld) (w : World) (e : Ending) (w' : World) : Prop := ∃ v, e = .returned (.tuple #[v, .nilIface]) ∧ OwnF w' B v fs ∧ Below B w w'

theorem OwnF.form {w : World} {B : Nat} {v : Value} {fs : List Fld} (h : OwnF w B v fs) : ∃ a n cap, v = .slice a n cap ∧ Hid (n = fs.length) := by
  rcases h.2 with ⟨rfl, h0⟩ | ⟨g, cap, cur, rfl, _⟩
  · exact ⟨none, 0, 0, rfl, h0.symm⟩
  · exact ⟨_, _, _, rfl, rfl⟩

set_option maxRecDepth 100000 in
theorem fields_ok (m : List UInt8) (w : World) (hm : m.length ≤ 1000000000) (hf : (fieldsL m).length ≤ 200) : Calls Tryz.prog 59 #[.string (bs m)] w (FieldsP w.heap.size (fieldsL m) w) := by
  have HM := Lib.hid hm
  obtain ⟨fs, hfs⟩ : ∃ fs, fieldsL m = fs := ⟨_, rfl⟩
  rw [hfs] at hf ⊢
  have HF := Lib.hid hfs
  clear hm hfs
  go_enter Tryz.func59, Tryz.ntmps59
  go_wp2_with fail
  refine (read_any m _ HM.out).mono ?_
  rintro e w1 ⟨v, op, rfl, hk, ho, hB⟩
  rw [HF.out] at ho
  obtain ⟨a, n, cap, rfl, hn⟩ := OwnF.form ho
  have hn2 : n ≤ 200 := by rw [hn.out]; exact hf
  obtain ⟨c0, c1, c2, f0, f1, f2⟩ := hk.cells
  go_wp2
  go_ret2
  exact ⟨_, rfl, ho, hB⟩

set_option maxRecDepth 100000 in
theorem fields_full (m : List UInt8) (w : World) (x : Addr) (hc : w.cell? ⟨0, 0, none⟩ = some (errV x)) (hm : m.length ≤ 1000000000) (hf : 200 < (fieldsL m).length) : Calls Tryz.prog 59 #[.string (bs m)] w fun e w' => e = .returned (.tuple #[.slice none 0 0, errV x]) ∧ Below w.heap.size w w' := by
  have HM := Lib.hid hm
  obtain ⟨fs, hfs⟩ : ∃ fs, fieldsL m = fs := ⟨_, rfl⟩
  rw [hfs] at hf
  have HF := Lib.hid hfs
  clear hm hfs
  go_enter Tryz.func59, Tryz.ntmps59
  go_wp2_with fail
  refine (read_any m _ HM.out).mono ?_
  rintro e w1 ⟨v, op, rfl, hk, ho, hB⟩
  rw [HF.out] at ho
  obtain ⟨a, n, cap, rfl, hn⟩ := OwnF.form ho
  have hn2 : 200 < n := by rw [hn.out]; exact hf
  have hn3 : n ≤ 9223372036854775807 := by
    rcases ho.2 with ⟨h, _⟩ | ⟨g', cap', cur, h, _, _, h1, h2, _⟩
    · simp at h; omega
    · simp at h
      have : cap' ≤ 9223372036854775807 := h2
      rw [← hn.out] at h1
      omega
  have hcx := (hB.cell (cell_lt hc)).trans hc
  obtain ⟨c0, c1, c2, f0, f1, f2⟩ := hk.cells
  go_wp2
  go_quiet (fail)
  go_wp2
  go_ret2
  exact ⟨rfl, below_drewN hB _⟩

set_option maxRecDepth 100000 in
theorem body_any (m : List UInt8) (w : World) (hm : m.length ≤ 1000000000) : Calls Tryz.prog 38 #[.string (bs m)] w fun e w' => e = .returned (.int .i64 (bodyL m)) ∧ Below w.heap.size w w' := by
  have HM := Lib.hid hm
  clear hm
  go_enter Tryz.func38, Tryz.ntmps38
  go_wp2_with fail
  refine (read_any m _ HM.out).mono ?_
  rintro e w1 ⟨v, op, rfl, hk, ho, hB⟩
  obtain ⟨c0, c1, c2, f0, f1, f2⟩ := hk.cells
  go_wp2
  go_ret
  exact ⟨rfl, hB⟩

def exM : List UInt8 := [65, 58, 32, 120, 13, 10, 32, 121, 13, 10, 66, 58, 122, 13, 10, 13, 10, 98, 111, 100, 121]
theorem ex_fields : fieldsL exM = [⟨[65], [120, 32, 121], 0, 10⟩, ⟨[66], [122], 10, 15⟩] := by rfl
theorem ex_body : bodyL exM = 17 := by rfl

end Go.Proofs.YthnkgifbbemhfaaGreatDoor

/- mbox's statements: the chapter's example. -/
import Derived.Test.YtcjnpklmfcbofaaDoorM9
set_option linter.unusedVariables false
set_option linter.unusedSimpArgs false
namespace Go.Proofs.YtcjnpklmfcbofaaDoor
open Go.RowKit Go

theorem tab_of_head {W : World} {rest : List (String × DataW Unit)} (h : laidMet Tryd.prog (("internal/strconv.uint64pow10", Lib.tabData .u64 Lib.pow10Tab) :: rest) W) : Tab W :=
  Lib.tabIs_of_head tabNamed (by kernel_rfl) Tryd.underlying123 Tryd.underlying114 (by kernel_rfl) (by kernel_rfl) h

def exB : List UInt8 := [84, 104, 117, 32, 74, 97, 110, 32, 32, 49, 32, 48, 48, 58, 48, 48, 58, 48, 48, 32, 49, 57, 55, 48]
def exF : List UInt8 := [70, 114, 111, 109, 32, 97, 64, 98, 32, 84, 104, 117, 32, 74, 97, 110, 32, 32, 49, 32, 48, 48, 58, 48, 48, 58, 48, 48, 32, 49, 57, 55, 48, 10, 120, 10]
theorem ex_civ : Cal.civ7 0 1970 1 1 0 0 0 4 := by unfold Cal.civ7 Cal.civ; decide +kernel
theorem ex_box : boxL 1970 1 1 0 0 0 4 = exB := by decide +kernel
theorem ex_file : headL [97, 64, 98] exB ++ encodeL [120] = exF := by decide +kernel
theorem ex_scan : scanL exF = some [⟨0, 34, 36⟩] := by
  have h := scan_rows [(headL [97, 64, 98] exB, [120])] (fun e he => by
    obtain rfl := List.mem_singleton.1 he
    exact head_ok (by decide) (by decide))
  have e : (List.map entL [(headL [97, 64, 98] exB, [120])]).flatten = exF := by decide +kernel
  rw [e] at h
  rw [h]
  rfl

set_option maxRecDepth 100000 in
set_option maxHeartbeats 1000000 in
theorem alive_any (x : Addr) (w : World) (hE : w.cell? ⟨1, 0, none⟩ = some (errV x)) (hT : Tab w) : Calls Tryd.prog 7 #[] w fun e w' => e = .returned (.bool true) ∧ Below w.heap.size w w' := by
  have hen := entry_ok [97, 64, 98] [120] 0 w (by decide) (by decide) (by decide) (by decide) (by decide) hT
  have HE := Lib.hid hE
  clear hE hT
  go_enter Tryd.func7, Tryd.ntmps7
  go_wp2_with fail
  refine hen.mono ?_
  clear hen
  rintro e w1 ⟨y, m, d, h, mi, s, wk, hcv, rfl, hb1⟩
  obtain ⟨rfl, rfl, rfl, rfl, rfl, rfl, rfl⟩ := civ7_eq ex_civ hcv
  rw [ex_box, ex_file]
  clear hcv
  have hsc := scan_any exF x w1 (by decide) ((hb1.cell (p := ⟨1, 0, none⟩) (cell_lt HE.out)).trans HE.out)
  rw [ex_scan] at hsc
  have HSC := Lib.hid hsc
  clear hsc
  go_wp2_with fail
  refine HSC.out.mono ?_
  rintro e w2 ⟨⟨v, rfl, ho⟩, hb2⟩
  obtain ⟨g, cap, rfl, _, hgl⟩ := ho.parts.resolve_left (fun h => by cases h.2)
  have y0 : w2.cell? ⟨g, 0, none⟩ = some (.int .i64 0) := ho.cell 0 0 ⟨0, 34, 36⟩ rfl (by decide)
  have y1 : w2.cell? ⟨g, 1, none⟩ = some (.int .i64 34) := ho.cell 0 1 ⟨0, 34, 36⟩ rfl (by decide)
  have y2 : w2.cell? ⟨g, 2, none⟩ = some (.int .i64 36) := ho.cell 0 2 ⟨0, 34, 36⟩ rfl (by decide)
  clear ho HSC HE
  simp only [List.length_cons, List.length_nil, Nat.zero_add]
  unfold exF
  go_wp2
  go_ret
  exact ⟨by first | rfl | simp, hb1.trans (hb2.mono hb1.size)⟩

end Go.Proofs.YtcjnpklmfcbofaaDoor

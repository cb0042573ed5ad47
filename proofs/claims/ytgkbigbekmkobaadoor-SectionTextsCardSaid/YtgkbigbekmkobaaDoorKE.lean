/- section (plain): both judge the same Specs right. -/
import Derived.Test.YtgkbigbekmkobaaDoorKD
set_option linter.unusedVariables false
set_option linter.unusedSimpArgs false
namespace Go.Proofs.YtgkbigbekmkobaaDoor

set_option maxRecDepth 100000 in
theorem bad_fin : ∀ n : Fin 256, refBad (UInt8.ofNat n.val) = badC (UInt8.ofNat n.val) := by decide +kernel
theorem bad_same (c : UInt8) : refBad c = badC c := by
  have h := bad_fin ⟨c.toNat, c.toNat_lt⟩
  simpa using h
theorem name_same (s : List UInt8) : refName s = nameOk s := by
  unfold refName nameOk
  have : (fun c => !refBad c) = (fun c => !badC c) := by funext c; rw [bad_same]
  rw [this]
theorem right_same (ps : List Int) (wh : List UInt8) (ns : List (List UInt8)) : refRightL ps wh ns = rightL ps wh ns := by
  unfold refRightL rightL
  have hf : (fun n => !refName n) = (fun n => !nameOk n) := by funext n; rw [name_same]
  rw [hf]
  by_cases h1 : 20 < ps.length
  · simp [h1]
  by_cases h2 : 20 < ns.length
  · simp [h2]
  rcases h3 : ps.any badN with _ | _
  case true => simp
  by_cases x0 : wh = []
  · subst x0; cases ns <;> simp_all
  by_cases x1 : wh = tHEADER
  · subst x1; cases ns <;> simp_all
  by_cases x2 : wh = tTEXT
  · subst x2; cases ns <;> simp_all
  by_cases x3 : wh = tMIME
  · subst x3; cases ns <;> cases ps <;> simp_all
  by_cases x4 : wh = tFIELDS
  · subst x4
    rcases h4 : ns.any (fun n => !nameOk n) with _ | _ <;> simp [h1, h2]
  by_cases x5 : wh = tNOT
  · subst x5
    rcases h4 : ns.any (fun n => !nameOk n) with _ | _ <;> simp [h1, h2]
  rcases h4 : ns.any (fun n => !nameOk n) with _ | _ <;> cases ns <;> simp [h1, h2, x0, x1, x2, x3, x4, x5]

end Go.Proofs.YtgkbigbekmkobaaDoor

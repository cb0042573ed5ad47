/- strings.Join with a blank between. -/
import Derived.Test.YthnkgifbbemhfaaGreatDoorSs
import Derived.Test.YthnkgifbbemhfaaGreatDoorGq
set_option linter.unusedVariables false
set_option linter.unusedSimpArgs false
namespace Go.Proofs.YthnkgifbbemhfaaGreatDoor
open Go.RowKit Go

theorem joinBl_any (w : World) (v : Value) (ls : List (List UInt8)) (hv : StrsAt w v ls) (hn : ls.length ≤ 140737488355328) (hl : (joinSp ls).length ≤ 140737488355328) :
    Calls Tryz.prog 27 #[v, .string (bs [32])] w fun e w' => e = .returned (.string (bs (joinSp ls))) ∧ Below w.heap.size w w' := by
  rcases hv with ⟨rfl, rfl⟩ | ⟨b, o, c, rfl, h1, h2, h3⟩
  · exact (Tryz.strings_Join_none none 0 (bs [32]) w).mono fun _ _ ⟨he, hw⟩ => ⟨he, hw ▸ Below.refl _ _⟩
  · have e : (ls.map bs).map (·.data.toList) = ls := by rw [List.map_map]; exact List.map_id ls
    have hj := Tryz.strings_Join b o c (ls.map bs) (bs [32]) w (fun j x hx => by
      rw [List.getElem?_map] at hx
      cases hq : ls[j]? with
      | none => rw [hq] at hx; cases hx
      | some y =>
        rw [hq] at hx
        obtain rfl := Option.some.inj hx
        have hlt := (List.getElem?_eq_some_iff.1 hq).1
        rw [h3 j hlt]
        simp [List.getD, hq]) h2 (by simpa using hn) (by simpa using h1) (by rw [e]; rw [show (bs [32]).data.toList = [32] by simp, joinSp_lib]; exact hl)
    rw [e, show (bs [32]).data.toList = [32] by simp, joinSp_lib, List.length_map] at hj
    exact hj

end Go.Proofs.YthnkgifbbemhfaaGreatDoor

/- strings.Join without a separator, lines.Join. -/
import Derived.Test.YtcjnpklmfcbofaaDoorSs
set_option linter.unusedVariables false
set_option linter.unusedSimpArgs false
namespace Go.Proofs.YtcjnpklmfcbofaaDoor
open Go.RowKit Go

theorem join_flatten (ls : List (List UInt8)) : Lib.join ls [] = ls.flatten := by
  induction ls with
  | nil => rfl
  | cons x r ih =>
    cases r with
    | nil => simp [Lib.join]
    | cons y r =>
      have h : Lib.join (x :: y :: r) [] = x ++ ([] ++ Lib.join (y :: r) []) := rfl
      rw [h, ih]; simp

/-- strings.Join(v, "") -/
theorem join_any (w : World) (v : Value) (ls : List (List UInt8)) (hv : StrsAt w v ls) (hn : ls.length ≤ 140737488355328) (hl : ls.flatten.length ≤ 140737488355328) :
    Calls Tryd.prog 62 #[v, .string (bs [])] w fun e w' => e = .returned (.string (bs ls.flatten)) ∧ Below w.heap.size w w' := by
  rcases hv with ⟨rfl, rfl⟩ | ⟨b, o, c, rfl, h1, h2, h3⟩
  · exact (Tryd.strings_Join_none none 0 (bs []) w).mono fun _ _ ⟨he, hw⟩ => ⟨he, hw ▸ Below.refl _ _⟩
  · have e : (ls.map bs).map (·.data.toList) = ls := by rw [List.map_map]; exact List.map_id ls
    have hj := Tryd.strings_Join b o c (ls.map bs) (bs []) w (fun j x hx => by
      rw [List.getElem?_map] at hx
      cases hq : ls[j]? with
      | none => rw [hq] at hx; cases hx
      | some y =>
        rw [hq] at hx
        obtain rfl := Option.some.inj hx
        have hlt := (List.getElem?_eq_some_iff.1 hq).1
        rw [h3 j hlt]
        simp [List.getD, hq]) h2 (by simpa using hn) (by simpa using h1) (by rw [e, join_flatten]; exact hl)
    rw [e, join_flatten, List.length_map] at hj
    exact hj


theorem lineJoin_any (w : World) (v : Value) (ls : List (List UInt8)) (hv : StrsAt w v ls) (hn : ls.length ≤ 140737488355328) (hl : ls.flatten.length ≤ 140737488355328) :
    Calls Tryd.prog 49 #[v] w fun e w' => e = .returned (.string (bs ls.flatten)) ∧ Below w.heap.size w w' := by
  have HL := Lib.hid hl
  have HN := Lib.hid hn
  clear hl hn
  have HV := Lib.hid hv
  clear hv
  go_enter Tryd.func49, Tryd.ntmps49
  go_wp2_with fail
  refine (join_any _ _ ls HV.out HN.out HL.out).mono ?_
  rintro e w1 ⟨rfl, hb1⟩
  go_wp2
  go_ret
  exact ⟨rfl, hb1⟩

end Go.Proofs.YtcjnpklmfcbofaaDoor

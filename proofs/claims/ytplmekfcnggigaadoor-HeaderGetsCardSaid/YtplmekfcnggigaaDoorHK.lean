/- The law HeaderGets. -/
import Derived.Test.YtplmekfcnggigaaDoorHJ
set_option linter.unusedVariables false
set_option linter.unusedSimpArgs false
namespace Go.Proofs.YtplmekfcnggigaaDoor
open Go.RowKit Go

set_option maxRecDepth 100000 in
set_option maxHeartbeats 2000000 in
theorem headerGets_list (v : Value) (fs : List Fla) (nm : List UInt8) (w : World) (hv : ArgF w v fs) (hnm : nm.length ≤ 9223372036854775807) : Calls Tryd.prog 8 #[v, .string (bs nm)] w fun e w' => e = .returned (.bool true) ∧ Below w.heap.size w w' := by
  have HV := Lib.hid hv
  have key : ∀ w0 v0, ArgF w0 v0 fs → fs.length ≤ 1000 → nm.length ≤ 1000 → (∀ f ∈ fs, f.name.length ≤ 1000) →
      (Calls Tryd.prog 18 #[v0, .string (bs nm)] w0 (Strs w0.heap.size (getL fs nm) w0)) ∧ (Calls Tryd.prog 19 #[v0, .string (bs nm)] w0 (Strs w0.heap.size (getL fs nm) w0)) ∧
      (Calls Tryd.prog 20 #[v0, .string (bs nm)] w0 fun e w' => e = .returned (firstV (getL fs nm)) ∧ Below w0.heap.size w0 w') :=
    fun w0 v0 h a b c => ⟨all_any v0 fs nm w0 h a b c, refGet_any v0 fs nm w0 h a b c, get_any v0 fs nm w0 h a b c⟩
  have hgl := getL_length fs nm
  obtain ⟨G, hG⟩ : ∃ G, getL fs nm = G := ⟨_, rfl⟩
  rw [hG] at key hgl
  have KEY := Lib.hid key
  clear key hG hv
  obtain ⟨a, c, rfl, hform⟩ : ∃ a c, v = .slice a fs.length c ∧ (fs ≠ [] → ∃ b o, a = some ⟨b, o, none⟩) := by
    rcases HV.out.form with ⟨a, c, rfl, rfl⟩ | ⟨b, o, c, rfl, hne⟩
    · exact ⟨a, c, rfl, fun h => absurd rfl h⟩
    · exact ⟨_, c, rfl, fun _ => ⟨b, o, rfl⟩⟩
  go_enter Tryd.func8, Tryd.ntmps8
  go_wp2_with fail
  refine (alive_any _).mono ?_
  rintro e w1 ⟨rfl, hb1⟩
  by_cases hfl : 1000 < fs.length
  · have hfl' : (1000 : Int) < fs.length := by omega
    go_wp2
    go_ret
    exact ⟨rfl, hb1⟩
  have hfl' : ¬ (1000 : Int) < fs.length := by omega
  by_cases hn : 1000 < nm.length
  · have hn' : (1000 : Int) < nm.length := by omega
    go_wp2
    go_ret
    exact ⟨rfl, hb1⟩
  have hn' : ¬ (1000 : Int) < nm.length := by omega
  go_wp2
  go_loopw [23] (fun c wr => ∃ k : Nat, k ≤ fs.length ∧ c = .int .i64 k ∧ Hid (∀ j f, j < k → fs[j]? = some f → f.name.length ≤ 1000) ∧ Below w.heap.size w wr) (fun c _ => fs.length - (intOf c).toNat)
  case atStart => exact ⟨0, Nat.zero_le _, rfl, fun j f h => absurd h (Nat.not_lt_zero _), hb1⟩
  case round =>
    obtain ⟨k, hk, rfl, hjs, hB⟩ := hrel
    have hzr := hB.size
    by_cases hlt : k < fs.length
    · obtain ⟨b, o, rfl⟩ := hform (by rintro rfl; simp at hlt)
      obtain ⟨f, hfk⟩ : ∃ f, fs[k]? = some f := ⟨_, List.getElem?_eq_getElem hlt⟩
      obtain ⟨_, _, hcells⟩ := (HV.out.below hB).at (by rintro rfl; simp at hlt)
      obtain ⟨c0, c1, c2, c3⟩ := hcells k f hfk
      have hlt' : (k : Int) < fs.length := by omega
      have HFK := Lib.hid hfk
      clear hcells hfk hform
      by_cases hf : 1000 < f.name.length
      · have hf' : (1000 : Int) < f.name.length := by omega
        go_wp2
        go_ret
        exact ⟨rfl, hB.alloc hzr _⟩
      · have hf' : ¬ (1000 : Int) < f.name.length := by omega
        go_wp2
        go_roundw
        case rel =>
          refine ⟨k + 1, by omega, by go_num, ?_, hB.alloc hzr _⟩
          intro j g hj hg
          rcases Nat.lt_or_ge j k with h | h
          · exact hjs.out j g h hg
          · obtain rfl : j = k := by omega
            rw [HFK.out] at hg
            obtain rfl := Option.some.inj hg
            omega
        case measure => simp [intOf]; omega
    · obtain rfl : k = fs.length := by omega
      obtain ⟨k1, k2, k3⟩ := KEY.out wr _ (HV.out.below hB) (by omega) (by omega) (fun f hf => by
        obtain ⟨j, hj, rfl⟩ := List.mem_iff_getElem.1 hf
        exact hjs.out j _ hj (List.getElem?_eq_getElem hj))
      clear hform
      go_wp2_with fail
      refine k1.mono ?_
      rintro e w2 ⟨v2, rfl, o2, hb2⟩
      have hB2 := hB.trans (hb2.mono hzr)
      obtain ⟨_, k2', _⟩ := KEY.out w2 _ (HV.out.below hB2) (by omega) (by omega) (fun f hf => by
        obtain ⟨j, hj, rfl⟩ := List.mem_iff_getElem.1 hf
        exact hjs.out j _ hj (List.getElem?_eq_getElem hj))
      clear k1 k2 k3
      go_wp2_with fail
      refine k2'.mono ?_
      rintro e w3 ⟨v3, rfl, o3, hb3⟩
      have hB3 := hB2.trans (hb3.mono hB2.size)
      obtain ⟨_, _, k3'⟩ := KEY.out w3 _ (HV.out.below hB3) (by omega) (by omega) (fun f hf => by
        obtain ⟨j, hj, rfl⟩ := List.mem_iff_getElem.1 hf
        exact hjs.out j _ hj (List.getElem?_eq_getElem hj))
      have o23 := o2.over hb3
      clear k2' o2
      go_wp2_with fail
      refine k3'.mono ?_
      rintro e w4 ⟨rfl, hb4⟩
      have hB4 := hB3.trans (hb4.mono hB3.size)
      have o24 := o23.over hb4
      have o34 := o3.over hb4
      have hG : G.length ≤ 1099511627776 := by omega
      have hsame := fun w0 (h : Below w4.heap.size w4 w0) => same_yes v2 v3 G w0 (o24.over h).strs (o34.over h).strs hG
      have HS := Lib.hid hsame
      clear k3' hsame o23 o3 o24
      cases G with
      | nil =>
        unfold firstV
        obtain ⟨a3, n3, cap3, rfl, hn3⟩ := OwnS.form o34
        obtain rfl : n3 = 0 := hn3.out
        go_wp2_with fail
        refine (HS.out _ (by first | exact Below.refl _ _ | exact below_drewN (Below.refl _ _) _)).mono ?_
        rintro e w5 ⟨rfl, hb5⟩
        go_wp2
        go_ret
        refine ⟨?_, hB4.trans (hb5.mono hB4.size)⟩
        simp
      | cons x G =>
        unfold firstV
        obtain ⟨g, cap, rfl, _⟩ := (OwnS.parts o34).resolve_left (fun h => by cases h.2)
        have hc0 : w4.cell? ⟨g, 0, none⟩ = some (.string (bs x)) := (OwnS.set o34 (k := 0) (by simp) []).1
        have hpos : (0 : Int) < ((x :: G).length : Nat) := by simp
        obtain ⟨n, hn5⟩ : ∃ n, (x :: G).length = n := ⟨_, rfl⟩
        have hpos2 : 0 < n := by rw [← hn5]; simp
        rw [hn5] at hpos HS ⊢
        go_wp2_with fail
        refine (HS.out _ (by first | exact Below.refl _ _ | exact below_drewN (Below.refl _ _) _)).mono ?_
        rintro e w5 ⟨rfl, hb5⟩
        have hc5 : w5.cell? ⟨g, 0, none⟩ = some (.string (bs x)) := (hb5.cell (cell_lt hc0)).trans hc0
        clear hc0
        go_wp2
        go_ret
        exact ⟨rfl, hB4.trans (hb5.mono hB4.size)⟩

theorem headerGets_any (v : Value) (fs : List Fla) (s : ByteArray) (W : World) (hv : ArgF W v fs) (hs : s.size ≤ 9223372036854775807) : Calls Tryd.prog 8 #[v, .string s] W fun e w' => e = .returned (.bool true) ∧ Below W.heap.size W w' :=
  headerGets_list v fs s.data.toList W hv (by simpa using hs)

end Go.Proofs.YtplmekfcnggigaaDoor

/- quote.each, Encode, Decode. -/
import Derived.Test.YtcjnpklmfcbofaaDoorQ1
import Derived.Test.YtcjnpklmfcbofaaDoorLj
import Derived.Test.YtcjnpklmfcbofaaDoorEr
import Derived.Laws.OwnMore
import Derived.LoopTactic
set_option linter.unusedVariables false
set_option linter.unusedSimpArgs false
namespace Go.Proofs.YtcjnpklmfcbofaaDoor
open Go.RowKit Go Go.Shelf

theorem turned_at (f : List UInt8 → List UInt8) (ls : List (List UInt8)) (k : Nat) (hk : k < ls.length) (x : List UInt8) (hx : ls[k]? = some x) : ((ls.take k).map f ++ ls.drop k).getD k [] = x := by
  have hk' : (List.map f (List.take k ls)).length = k := by simp; omega
  rw [List.getD_eq_getElem?_getD, List.getElem?_append_right (by omega), hk', Nat.sub_self, List.getElem?_drop, Nat.add_zero, hx]
  rfl
theorem turned_step (f : List UInt8 → List UInt8) (ls : List (List UInt8)) (k : Nat) (hk : k < ls.length) (x : List UInt8) (hx : ls[k]? = some x) : (((ls.take k).map f ++ ls.drop k)).set k (f x) = (ls.take (k + 1)).map f ++ ls.drop (k + 1) := by
  have hk' : (List.map f (List.take k ls)).length = k := by simp; omega
  rw [List.set_append_right _ _ (by omega), hk', Nat.sub_self]
  obtain ⟨_, he⟩ := List.getElem?_eq_some_iff.1 hx
  rw [List.drop_eq_getElem_cons hk, List.set_cons_zero, List.take_add_one, hx]
  simp

set_option maxRecDepth 100000 in
set_option maxHeartbeats 2000000 in
theorem each_quote (s : List UInt8) (w : World) (hs : s.length ≤ 1099511627776) (hq : ((linesOf s).map quoteL).flatten.length ≤ 140737488355328) : Calls Tryd.prog 37 #[.string (bs s), .func (.func 38) #[] #[]] w fun e w' => e = .returned (.string (bs ((linesOf s).map quoteL).flatten)) ∧ Below w.heap.size w w' := by
  have hll := linesOf_length s
  have hmem : ∀ x ∈ linesOf s, x.length ≤ 140737488355328 := fun x hx => by have := (linesOf_mem hx).2; omega
  have HM := Lib.hid hmem
  have HQ := Lib.hid hq
  have HS := Lib.hid hs
  have hn : (linesOf s).length ≤ 1099511627776 := by omega
  clear hmem hq hll hs
  obtain ⟨ls, hls⟩ : ∃ ls, linesOf s = ls := ⟨_, rfl⟩
  rw [hls] at HM HQ hn ⊢
  have HLS := Lib.hid hls
  clear hls
  go_enter Tryd.func37, Tryd.ntmps37
  go_wp2_with fail
  refine (split_any s _ HS.out).mono ?_
  rintro e w1 ⟨v, rfl, o1, hb1⟩
  rw [HLS.out] at o1
  have hz1 := hb1.size
  rcases o1.parts with ⟨rfl, rfl⟩ | ⟨g, cap, rfl, hg⟩
  · go_wp2
    go_loopw [6, 7, 12] (fun _ _ c wr => c = .int .i64 0 ∧ wr = w1) (fun _ _ _ _ => 0)
    case atStart => exact ⟨rfl, rfl⟩
    case round =>
      obtain ⟨rfl, rfl⟩ := hrel
      go_wp2_with fail
      refine (lineJoin_any _ _ [] (.inl ⟨rfl, rfl⟩) (by decide) (by decide)).mono ?_
      rintro e w2 ⟨rfl, hb2⟩
      go_wp2
      go_ret
      exact ⟨rfl, hb1.trans (hb2.mono hz1)⟩
  · go_wp2
    go_loopw [6, 7, 12] (fun _ _ c wr => ∃ k : Nat, k ≤ ls.length ∧ c = .int .i64 k ∧ OwnS wr w.heap.size (.slice (some ⟨g, 0, none⟩) ls.length cap) ((ls.take k).map quoteL ++ ls.drop k) ∧ Below w.heap.size w wr) (fun _ _ c _ => ls.length - (intOf c).toNat)
    case atStart => exact ⟨0, Nat.zero_le _, rfl, by simpa using o1, hb1⟩
    case round =>
      obtain ⟨k, hk, rfl, hown, hB⟩ := hrel
      have hzr := hB.size
      have hlen : ((ls.take k).map quoteL ++ ls.drop k).length = ls.length := by simp; omega
      by_cases hlt : k < ls.length
      · obtain ⟨x, hx⟩ : ∃ x, ls[k]? = some x := ⟨_, List.getElem?_eq_getElem hlt⟩
        have hxl := HM.out x (List.mem_of_getElem? hx)
        have hlt' : (k : Int) < ls.length := by omega
        obtain ⟨hc, hf, ho2, hb2⟩ := OwnS.set hown (k := k) (by omega) (quoteL x)
        rw [turned_at quoteL ls k hlt x hx] at hc
        rw [turned_step quoteL ls k hlt x hx] at ho2
        have HX := Lib.hid hx
        clear hx hlen
        go_wp2_with fail
        refine (quote_any x _ hxl).mono ?_
        rintro e w' ⟨rfl, rfl⟩
        go_wp2
        go_roundw
        case rel => exact ⟨k + 1, by omega, by go_num, ho2, hb2 _ _ (Nat.le_refl _) hB⟩
        case measure => simp [intOf]; omega
      · obtain rfl : k = ls.length := by omega
        rw [List.take_length, List.drop_length, List.append_nil] at hown
        go_wp2_with fail
        refine (lineJoin_any _ _ _ hown.strs (by simp; omega) HQ.out).mono ?_
        rintro e w2 ⟨rfl, hb2⟩
        go_wp2
        go_ret
        exact ⟨rfl, hB.trans (hb2.mono hzr)⟩

set_option maxRecDepth 100000 in
set_option maxHeartbeats 2000000 in
theorem each_unquote (s : List UInt8) (w : World) (hs : s.length ≤ 1099511627776) (hq : ((linesOf s).map unquoteL).flatten.length ≤ 140737488355328) : Calls Tryd.prog 37 #[.string (bs s), .func (.func 43) #[] #[]] w fun e w' => e = .returned (.string (bs ((linesOf s).map unquoteL).flatten)) ∧ Below w.heap.size w w' := by
  have hll := linesOf_length s
  have hmem : ∀ x ∈ linesOf s, x.length ≤ 140737488355328 := fun x hx => by have := (linesOf_mem hx).2; omega
  have HM := Lib.hid hmem
  have HQ := Lib.hid hq
  have HS := Lib.hid hs
  have hn : (linesOf s).length ≤ 1099511627776 := by omega
  clear hmem hq hll hs
  obtain ⟨ls, hls⟩ : ∃ ls, linesOf s = ls := ⟨_, rfl⟩
  rw [hls] at HM HQ hn ⊢
  have HLS := Lib.hid hls
  clear hls
  go_enter Tryd.func37, Tryd.ntmps37
  go_wp2_with fail
  refine (split_any s _ HS.out).mono ?_
  rintro e w1 ⟨v, rfl, o1, hb1⟩
  rw [HLS.out] at o1
  have hz1 := hb1.size
  rcases o1.parts with ⟨rfl, rfl⟩ | ⟨g, cap, rfl, hg⟩
  · go_wp2
    go_loopw [6, 7, 12] (fun _ _ c wr => c = .int .i64 0 ∧ wr = w1) (fun _ _ _ _ => 0)
    case atStart => exact ⟨rfl, rfl⟩
    case round =>
      obtain ⟨rfl, rfl⟩ := hrel
      go_wp2_with fail
      refine (lineJoin_any _ _ [] (.inl ⟨rfl, rfl⟩) (by decide) (by decide)).mono ?_
      rintro e w2 ⟨rfl, hb2⟩
      go_wp2
      go_ret
      exact ⟨rfl, hb1.trans (hb2.mono hz1)⟩
  · go_wp2
    go_loopw [6, 7, 12] (fun _ _ c wr => ∃ k : Nat, k ≤ ls.length ∧ c = .int .i64 k ∧ OwnS wr w.heap.size (.slice (some ⟨g, 0, none⟩) ls.length cap) ((ls.take k).map unquoteL ++ ls.drop k) ∧ Below w.heap.size w wr) (fun _ _ c _ => ls.length - (intOf c).toNat)
    case atStart => exact ⟨0, Nat.zero_le _, rfl, by simpa using o1, hb1⟩
    case round =>
      obtain ⟨k, hk, rfl, hown, hB⟩ := hrel
      have hzr := hB.size
      have hlen : ((ls.take k).map unquoteL ++ ls.drop k).length = ls.length := by simp; omega
      by_cases hlt : k < ls.length
      · obtain ⟨x, hx⟩ : ∃ x, ls[k]? = some x := ⟨_, List.getElem?_eq_getElem hlt⟩
        have hxl := HM.out x (List.mem_of_getElem? hx)
        have hlt' : (k : Int) < ls.length := by omega
        obtain ⟨hc, hf, ho2, hb2⟩ := OwnS.set hown (k := k) (by omega) (unquoteL x)
        rw [turned_at unquoteL ls k hlt x hx] at hc
        rw [turned_step unquoteL ls k hlt x hx] at ho2
        have HX := Lib.hid hx
        clear hx hlen
        go_wp2_with fail
        refine (unquote_any x _ hxl).mono ?_
        rintro e w' ⟨rfl, rfl⟩
        go_wp2
        go_roundw
        case rel => exact ⟨k + 1, by omega, by go_num, ho2, hb2 _ _ (Nat.le_refl _) hB⟩
        case measure => simp [intOf]; omega
      · obtain rfl : k = ls.length := by omega
        rw [List.take_length, List.drop_length, List.append_nil] at hown
        go_wp2_with fail
        refine (lineJoin_any _ _ _ hown.strs (by simp; omega) HQ.out).mono ?_
        rintro e w2 ⟨rfl, hb2⟩
        go_wp2
        go_ret
        exact ⟨rfl, hB.trans (hb2.mono hzr)⟩

end Go.Proofs.YtcjnpklmfcbofaaDoor

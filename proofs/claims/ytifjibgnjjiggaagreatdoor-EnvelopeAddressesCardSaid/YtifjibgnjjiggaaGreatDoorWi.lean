/- Texts of one walk, merged: XVX XVZ XEl XSh. -/
import Derived.Test.YtifjibgnjjiggaaGreatDoorWh
import Derived.LaidLaws
import Derived.Stop.LaidErr
import Derived.MakeChecks
import Derived.HandedShaped
import Derived.Handed
import Derived.Shelf.Vars

/- The document's Text: the walk. -/
set_option linter.unusedVariables false
set_option linter.unusedSimpArgs false
section
set_option linter.unusedVariables false
set_option linter.unusedSimpArgs false
namespace Go.Proofs.YtifjibgnjjiggaaGreatDoor
open Go.RowKit Go

theorem getL_low (fs : List Fla) {a b : List UInt8} (h : lowL a = lowL b) : getL fs a = getL fs b := by unfold getL; rw [h]
def itemsE (G : List Fla) : List (List UInt8) := [valT (getFn G) nDate, valT (getFn G) nSubject, adr1T (getFn G) nFrom, adr2T (getFn G) nSender nFrom, adr2T (getFn G) nReply nFrom, adr1T (getFn G) nTo, adr1T (getFn G) nCc, adr1T (getFn G) nBcc, valT (getFn G) nInReply, valT (getFn G) nMsgId]
def sT (G : List Fla) (k : Nat) : List UInt8 := [40] ++ joinSp ((itemsE G).take k)
def frT (G : List Fla) (k : Nat) : List UInt8 := if k ≤ 2 then nilL else adr1T (getFn G) nFrom
theorem sT_first (G : List Fla) : sT G 1 = sT G 0 ++ valT (getFn G) nDate := rfl
theorem sT_next (G : List Fla) (k : Nat) (x : List UInt8) (h : (itemsE G)[k]? = some x) (hk : 0 < k) : sT G (k + 1) = sT G k ++ [32] ++ x := by
  unfold sT
  rw [List.take_add_one, h]
  have hne : (itemsE G).take k ≠ [] := by
    have hlt := (List.getElem?_eq_some_iff.1 h).1
    intro e
    have h3 := congrArg List.length e
    rw [List.length_take, List.length_nil] at h3
    omega
  rw [show (itemsE G).take k ++ (some x).toList = (itemsE G).take k ++ [x] from rfl, joinSp_snoc _ _ hne]
  simp
theorem sT_all (G : List Fla) : envT (getFn G) = sT G 10 ++ [41] := rfl
theorem adr1_len {fs : List Fla} (h : ShortA2 1000000 fs) (nm : List UInt8) : (adr1T (getFn fs) nm).length ≤ 400000000 := adrOf_len h nm
theorem frT_len {fs : List Fla} (h : ShortA2 1000000 fs) (k : Nat) : (frT fs k).length ≤ 400000000 := by
  unfold frT
  split
  · simp [nilL]
  · exact adr1_len h _
theorem adr2_len {fs : List Fla} (h : ShortA2 1000000 fs) (a b : List UInt8) : (adr2T (getFn fs) a b).length ≤ 400000000 := by
  unfold adr2T
  split
  · exact adr1_len h _
  · exact adr1_len h _
def valOf : List (List UInt8) → List UInt8
  | [] => nilL
  | x :: _ => qtL x
def adrOfL : List (List UInt8) → List Adr
  | [] => []
  | x :: _ => adrsL x
theorem val_of {G : List Fla} {nm : List UInt8} {L : List (List UInt8)} (h : getL G nm = L) : valT (getFn G) nm = valOf L := by
  unfold valT getFn
  rw [h]
  cases L <;> rfl
theorem adr_of {G : List Fla} {nm : List UInt8} {L : List (List UInt8)} (h : getL G nm = L) : adrOf (getFn G) nm = adrOfL L := by
  unfold adrOf getFn
  rw [h]
  cases L <;> rfl
theorem listT_ne {A : List Adr} (h : A ≠ []) : listT A ≠ nilL := by
  unfold listT
  rw [if_neg h]
  simp [nilL]

theorem cells_names (w : World) (t : TypeId) : ∀ (k : Nat) (y : List UInt8), ([[100, 97, 116, 101], [115, 117, 98, 106, 101, 99, 116], [102, 114, 111, 109], [115, 101, 110, 100, 101, 114], [114, 101, 112, 108, 121, 45, 116, 111], [116, 111], [99, 99], [98, 99, 99], [105, 110, 45, 114, 101, 112, 108, 121, 45, 116, 111], [109, 101, 115, 115, 97, 103, 101, 45, 105, 100]] : List (List UInt8))[k]? = some y → (w.alloc (.cells #[.string { data := #[100, 97, 116, 101] }, .string { data := #[115, 117, 98, 106, 101, 99, 116] }, .string { data := #[102, 114, 111, 109] }, .string { data := #[115, 101, 110, 100, 101, 114] }, .string { data := #[114, 101, 112, 108, 121, 45, 116, 111] }, .string { data := #[116, 111] }, .string { data := #[99, 99] }, .string { data := #[98, 99, 99] }, .string { data := #[105, 110, 45, 114, 101, 112, 108, 121, 45, 116, 111] }, .string { data := #[109, 101, 115, 115, 97, 103, 101, 45, 105, 100] }] t)).cell? ⟨w.heap.size, k, none⟩ = some (.string (bs y)) := by
  intro k y h
  have e : (#[.string { data := #[100, 97, 116, 101] }, .string { data := #[115, 117, 98, 106, 101, 99, 116] }, .string { data := #[102, 114, 111, 109] }, .string { data := #[115, 101, 110, 100, 101, 114] }, .string { data := #[114, 101, 112, 108, 121, 45, 116, 111] }, .string { data := #[116, 111] }, .string { data := #[99, 99] }, .string { data := #[98, 99, 99] }, .string { data := #[105, 110, 45, 114, 101, 112, 108, 121, 45, 116, 111] }, .string { data := #[109, 101, 115, 115, 97, 103, 101, 45, 105, 100] }] : Array Value) = (([[100, 97, 116, 101], [115, 117, 98, 106, 101, 99, 116], [102, 114, 111, 109], [115, 101, 110, 100, 101, 114], [114, 101, 112, 108, 121, 45, 116, 111], [116, 111], [99, 99], [98, 99, 99], [105, 110, 45, 114, 101, 112, 108, 121, 45, 116, 111], [109, 101, 115, 115, 97, 103, 101, 45, 105, 100]] : List (List UInt8)).map fun l => Value.string (bs l)).toArray := rfl
  rw [e]
  have hlt := (List.getElem?_eq_some_iff.1 h).1
  have h2 : ((([[100, 97, 116, 101], [115, 117, 98, 106, 101, 99, 116], [102, 114, 111, 109], [115, 101, 110, 100, 101, 114], [114, 101, 112, 108, 121, 45, 116, 111], [116, 111], [99, 99], [98, 99, 99], [105, 110, 45, 114, 101, 112, 108, 121, 45, 116, 111], [109, 101, 115, 115, 97, 103, 101, 45, 105, 100]] : List (List UInt8)).map fun l => Value.string (bs l)).toArray)[k]? = some (.string (bs y)) := by
    rw [List.getElem?_toArray, List.getElem?_map, h]
    rfl
  simp only [World.cell?_alloc_new] <;> first | exact h2 | simp [h2]


set_option maxRecDepth 100000 in
set_option maxHeartbeats 8000000 in
theorem refEnv_any (msg : List UInt8) (w : World) (hl : msg.length ≤ 900000) : Calls Tryz.prog 12 #[.string (bs msg)] w fun e w' => e = .returned (.string (bs (envT (getFn ((flds200 msg).map flaOf))))) ∧ Below w.heap.size w w' := by
  have hshort := shortA_fla (flds200_short msg) hl
  have hfew := flds200_few msg
  obtain ⟨F, hF0⟩ : ∃ F, flds200 msg = F := ⟨_, rfl⟩
  have HF0 := Lib.hid hF0
  rw [hF0] at hshort hfew ⊢
  obtain ⟨G, hG⟩ : ∃ G, F.map flaOf = G := ⟨_, rfl⟩
  have hgl : G.length ≤ 1000 := by rw [← hG, List.length_map]; omega
  rw [hG] at hshort ⊢
  have hshort6 : ShortA2 1000000 G := fun f hf => ⟨Nat.le_trans (hshort f hf).1 (by omega), Nat.le_trans (hshort f hf).2 (by omega)⟩
  have HS := Lib.hid hshort
  have HS6 := Lib.hid hshort6
  have HG := Lib.hid hG
  clear hF0 hG hshort hshort6 hfew
  go_enter Tryz.func12, Tryz.ntmps12
  go_wp2_with fail
  refine (refHeader_any msg _ (by omega)).mono ?_
  rintro e w1 ⟨v, rfl, ho, hb1⟩
  rw [← (fields_ref msg).1] at ho
  have harg := ho.arg
  obtain ⟨fa, fn, fc, rfl, hn⟩ := ho.form
  have HA := Lib.hid harg
  clear ho harg
  go_upto_if 18 with fail
  go_cut [3] (fun v3 wx => ∃ sa sn sc, v3 = .slice sa sn sc ∧ ArgF wx v3 G ∧ Below w.heap.size w wx)
  case first =>
    by_cases h200 : fn ≤ 200
    · have h2 : (fn : Int) ≤ 200 := by omega
      go_wp2
      go_meet
      case rel =>
        refine ⟨_, _, _, rfl, ?_, hb1⟩
        have e0 : flds200 msg = fieldsL msg := if_neg (by have := hn.out; omega)
        rw [← HG.out, ← HF0.out, e0]
        exact HA.out
    · have h2 : (200 : Int) < fn := by omega
      go_wp2
      go_meet
      case rel =>
        refine ⟨_, _, _, rfl, .inl ⟨_, _, rfl, ?_⟩, hb1⟩
        have e0 : flds200 msg = [] := if_pos (by have := hn.out; omega)
        rw [← HG.out, ← HF0.out, e0]
        rfl
  case rest =>
    obtain ⟨sa, sn, sc, rfl, ha, hB⟩ := hcut
    clear HA hn hb1 HF0 HG
    have hzc := hB.size
    go_wp2
    obtain ⟨W0, hW0⟩ : ∃ W0, wc.alloc (.cells #[.string { data := #[100, 97, 116, 101] }, .string { data := #[115, 117, 98, 106, 101, 99, 116] }, .string { data := #[102, 114, 111, 109] }, .string { data := #[115, 101, 110, 100, 101, 114] }, .string { data := #[114, 101, 112, 108, 121, 45, 116, 111] }, .string { data := #[116, 111] }, .string { data := #[99, 99] }, .string { data := #[98, 99, 99] }, .string { data := #[105, 110, 45, 114, 101, 112, 108, 121, 45, 116, 111] }, .string { data := #[109, 101, 115, 115, 97, 103, 101, 45, 105, 100] }] 9) = W0 := ⟨_, rfl⟩
    have hcn := cells_names wc 9
    have hb0 := (Below.refl _ wc).alloc (Nat.le_refl _) (.cells #[.string { data := #[100, 97, 116, 101] }, .string { data := #[115, 117, 98, 106, 101, 99, 116] }, .string { data := #[102, 114, 111, 109] }, .string { data := #[115, 101, 110, 100, 101, 114] }, .string { data := #[114, 101, 112, 108, 121, 45, 116, 111] }, .string { data := #[116, 111] }, .string { data := #[99, 99] }, .string { data := #[98, 99, 99] }, .string { data := #[105, 110, 45, 114, 101, 112, 108, 121, 45, 116, 111] }, .string { data := #[109, 101, 115, 115, 97, 103, 101, 45, 105, 100] }] 9)
    rw [hW0] at hcn hb0 ⊢
    have ha0 := ha.below hb0
    have hB0 := hB.trans (hb0.mono hzc)
    have hnb : wc.heap.size < W0.heap.size := by rw [← hW0]; simp
    obtain ⟨b, hb9⟩ : ∃ b, wc.heap.size = b := ⟨_, rfl⟩
    rw [hb9] at hcn hnb ⊢
    clear hW0 hb0 ha hb9
    have HC := Lib.hid hcn
    have HA := Lib.hid ha0
    clear hcn ha0
    have hz0 := hB0.size
    go_loopw [5, 6, 21] (fun s fr i wr => ∃ (k : Nat) (S : List UInt8), k ≤ 10 ∧ i = .int .i64 k ∧ s = .string (bs S) ∧ Hid (sT G k = S) ∧ S.length ≤ 1 + k * 400000001 ∧ fr = .string (bs (frT G k)) ∧ Below W0.heap.size W0 wr) (fun _ _ i _ => 10 - (intOf i).toNat)
    case atStart => exact ⟨0, [40], by omega, rfl, rfl, rfl, by simp, rfl, Below.refl _ _⟩
    case round =>
      obtain ⟨k, S, hk, rfl, rfl, hS, hSl, rfl, hBr⟩ := hrel
      have hzr := hBr.size
      have HAr := Lib.hid (HA.out.below hBr)
      have hBw := hB0.trans (hBr.mono hz0)
      rcases (by omega : k = 0 ∨ k = 1 ∨ k = 2 ∨ k = 3 ∨ k = 4 ∨ k = 5 ∨ k = 6 ∨ k = 7 ∨ k = 8 ∨ k = 9 ∨ k = 10) with rfl | rfl | rfl | rfl | rfl | rfl | rfl | rfl | rfl | rfl | rfl
      · obtain ⟨L, hL⟩ : ∃ L, getL G nDate = L := ⟨_, rfl⟩
        have hget := refGet_any (.slice sa sn sc) G [100, 97, 116, 101] wr HAr.out (by omega) (by simp) (fun f hf => (HS6.out f hf).1)
        have hLs := getL_short HS.out nDate
        rw [getL_low G (show lowL [100, 97, 116, 101] = lowL nDate by decide), hL] at hget
        rw [hL] at hLs
        have HGET := Lib.hid hget
        have HLS := Lib.hid hLs
        have cn := (hBr.cell (p := ⟨b, 0, none⟩) hnb).trans (HC.out 0 _ rfl)
        have hitem : (itemsE G)[0]? = some (valT (getFn G) nDate) := rfl
        have hnx := sT_first G
        rw [hS.out] at hnx
        rw [val_of hL] at hnx
        have HNX := Lib.hid hnx
        clear hL hget hLs hS hitem hnx
        go_wp2_with fail
        refine HGET.out.mono ?_
        rintro e w2 ⟨gv, rfl, hgv, hb2⟩
        have hgs := hgv.strs
        have hB2 := hBr.trans (hb2.mono hzr)
        have hz2 := hB2.size
        clear HGET hgv
        cases L with
        | nil =>
          obtain ⟨la, lc, rfl⟩ : ∃ la lc, gv = .slice la 0 lc := by
            rcases hgs with ⟨rfl, _⟩ | ⟨_, _, _, rfl, _⟩
            · exact ⟨_, _, rfl⟩
            · exact ⟨_, _, rfl⟩
          clear hgs
          go_wp2
          go_roundw
          case rel => exact ⟨1, _, by omega, by first | rfl | go_num | trivial, by first | (simp only [bs_append]; done) | (simp only [bs_append]; rfl), HNX.out, by simp only [valOf, nilL, List.length_append, List.length_cons, List.length_nil]; omega, rfl, hB2⟩
          case measure => simp [intOf]
        | cons x r =>
          obtain ⟨lb, lo, lc, rfl, hlc, hlb, hlcell⟩ := hgs.resolve_left (by rintro ⟨_, h⟩; cases h)
          have cx := hlcell 0 (by simp)
          rw [List.getD_cons_zero, Nat.add_zero] at cx
          have hxl := HLS.out x (by simp)
          obtain ⟨n, hn⟩ : ∃ n, (x :: r).length = n := ⟨_, rfl⟩
          have hn0 : (0 : Int) < n := by rw [← hn]; simp only [List.length_cons]; omega
          rw [hn]
          clear hlcell hlc hn HLS
          have hql := qtL_len x (by omega)
          go_wp2_with fail
          refine (refQuote_any x _ (by omega)).mono ?_
          rintro e w3 ⟨rfl, hb3⟩
          have hB3 := hB2.trans (hb3.mono hz2)
          go_wp2
          go_roundw
          case rel => exact ⟨1, _, by omega, by first | rfl | go_num | trivial, by first | (simp only [bs_append]; done) | (simp only [bs_append]; rfl), HNX.out, by simp only [valOf, List.length_append, List.length_cons, List.length_nil]; omega, rfl, hB3⟩
          case measure => simp [intOf]
      · obtain ⟨L, hL⟩ : ∃ L, getL G nSubject = L := ⟨_, rfl⟩
        have hget := refGet_any (.slice sa sn sc) G [115, 117, 98, 106, 101, 99, 116] wr HAr.out (by omega) (by simp) (fun f hf => (HS6.out f hf).1)
        have hLs := getL_short HS.out nSubject
        rw [getL_low G (show lowL [115, 117, 98, 106, 101, 99, 116] = lowL nSubject by decide), hL] at hget
        rw [hL] at hLs
        have HGET := Lib.hid hget
        have HLS := Lib.hid hLs
        have cn := (hBr.cell (p := ⟨b, 1, none⟩) hnb).trans (HC.out 1 _ rfl)
        have hitem : (itemsE G)[1]? = some (valT (getFn G) nSubject) := rfl
        have hnx := sT_next G 1 _ hitem (by omega)
        rw [hS.out] at hnx
        rw [val_of hL] at hnx
        have HNX := Lib.hid hnx
        clear hL hget hLs hS hitem hnx
        go_wp2_with fail
        refine HGET.out.mono ?_
        rintro e w2 ⟨gv, rfl, hgv, hb2⟩
        have hgs := hgv.strs
        have hB2 := hBr.trans (hb2.mono hzr)
        have hz2 := hB2.size
        clear HGET hgv
        cases L with
        | nil =>
          obtain ⟨la, lc, rfl⟩ : ∃ la lc, gv = .slice la 0 lc := by
            rcases hgs with ⟨rfl, _⟩ | ⟨_, _, _, rfl, _⟩
            · exact ⟨_, _, rfl⟩
            · exact ⟨_, _, rfl⟩
          clear hgs
          go_wp2
          go_roundw
          case rel => exact ⟨2, _, by omega, by first | rfl | go_num | trivial, by first | (simp only [bs_append]; done) | (simp only [bs_append]; rfl), HNX.out, by simp only [valOf, nilL, List.length_append, List.length_cons, List.length_nil]; omega, rfl, hB2⟩
          case measure => simp [intOf]
        | cons x r =>
          obtain ⟨lb, lo, lc, rfl, hlc, hlb, hlcell⟩ := hgs.resolve_left (by rintro ⟨_, h⟩; cases h)
          have cx := hlcell 0 (by simp)
          rw [List.getD_cons_zero, Nat.add_zero] at cx
          have hxl := HLS.out x (by simp)
          obtain ⟨n, hn⟩ : ∃ n, (x :: r).length = n := ⟨_, rfl⟩
          have hn0 : (0 : Int) < n := by rw [← hn]; simp only [List.length_cons]; omega
          rw [hn]
          clear hlcell hlc hn HLS
          have hql := qtL_len x (by omega)
          go_wp2_with fail
          refine (refQuote_any x _ (by omega)).mono ?_
          rintro e w3 ⟨rfl, hb3⟩
          have hB3 := hB2.trans (hb3.mono hz2)
          go_wp2
          go_roundw
          case rel => exact ⟨2, _, by omega, by first | rfl | go_num | trivial, by first | (simp only [bs_append]; done) | (simp only [bs_append]; rfl), HNX.out, by simp only [valOf, List.length_append, List.length_cons, List.length_nil]; omega, rfl, hB3⟩
          case measure => simp [intOf]
      · obtain ⟨L, hL⟩ : ∃ L, getL G nFrom = L := ⟨_, rfl⟩
        have hget := refGet_any (.slice sa sn sc) G [102, 114, 111, 109] wr HAr.out (by omega) (by simp) (fun f hf => (HS6.out f hf).1)
        have hLs := getL_short HS.out nFrom
        rw [getL_low G (show lowL [102, 114, 111, 109] = lowL nFrom by decide), hL] at hget
        rw [hL] at hLs
        have HGET := Lib.hid hget
        have HLS := Lib.hid hLs
        have cn := (hBr.cell (p := ⟨b, 2, none⟩) hnb).trans (HC.out 2 _ rfl)
        have hitem : (itemsE G)[2]? = some (adr1T (getFn G) nFrom) := rfl
        have hnx := sT_next G 2 _ hitem (by omega)
        rw [hS.out] at hnx
        have hai := adr_of hL
        unfold adr1T at hnx
        rw [hai] at hnx
        have hfr : frT G 3 = listT (adrOfL L) := by show adr1T (getFn G) nFrom = _; unfold adr1T; rw [hai]
        have HNX := Lib.hid hnx
        clear hL hget hLs hS hitem hnx
        go_wp2_with fail
        refine HGET.out.mono ?_
        rintro e w2 ⟨gv, rfl, hgv, hb2⟩
        have hgs := hgv.strs
        have hB2 := hBr.trans (hb2.mono hzr)
        have hz2 := hB2.size
        clear HGET hgv
        cases L with
        | nil =>
          obtain ⟨la, lc, rfl⟩ : ∃ la lc, gv = .slice la 0 lc := by
            rcases hgs with ⟨rfl, _⟩ | ⟨_, _, _, rfl, _⟩
            · exact ⟨_, _, rfl⟩
            · exact ⟨_, _, rfl⟩
          clear hgs
          go_wp2
          go_roundw
          case rel => exact ⟨3, _, by omega, by first | rfl | go_num | trivial, by first | (simp only [bs_append]; done) | (simp only [bs_append]; rfl), HNX.out, by simp only [adrOfL, listT, if_true, nilL, List.length_append, List.length_cons, List.length_nil]; omega, by rw [hfr]; rfl, hB2⟩
          case measure => simp [intOf]
        | cons x r =>
          obtain ⟨lb, lo, lc, rfl, hlc, hlb, hlcell⟩ := hgs.resolve_left (by rintro ⟨_, h⟩; cases h)
          have cx := hlcell 0 (by simp)
          rw [List.getD_cons_zero, Nat.add_zero] at cx
          have hxl := HLS.out x (by simp)
          obtain ⟨n, hn⟩ : ∃ n, (x :: r).length = n := ⟨_, rfl⟩
          have hn0 : (0 : Int) < n := by rw [← hn]; simp only [List.length_cons]; omega
          rw [hn]
          clear hlcell hlc hn HLS
          go_wp2_with fail
          refine (refAddresses_any x _ (by omega)).mono ?_
          rintro e w3 ⟨⟨av, rfl, hav⟩, hb3⟩
          have hB3 := hB2.trans (hb3.mono hz2)
          have hz3 := hB3.size
          have hadr := hav.adrs
          have hfew := adrsL_few x
          have hsh := adrsL_short x
          have hll := listT_len x (by omega)
          have hfr2 : frT G 3 = listT (adrsL x) := hfr
          have hls := refList_any av (adrsL x) w3 hadr (by omega) (fun a ha => by have := hsh a ha; exact ⟨Nat.le_trans this.1 (by omega), Nat.le_trans this.2.1 (by omega), Nat.le_trans this.2.2 (by omega)⟩)
          have HLL := Lib.hid hls
          clear hls hadr hsh hfew hav
          go_wp2_with fail
          refine HLL.out.mono ?_
          rintro e w4 ⟨rfl, hb4⟩
          have hB4 := hB3.trans (hb4.mono hz3)
          clear HLL
          go_wp2
          go_roundw
          case rel => exact ⟨3, _, by omega, by first | rfl | go_num | trivial, by first | (simp only [bs_append]; done) | (simp only [bs_append]; rfl), HNX.out, by simp only [adrOfL, List.length_append, List.length_cons, List.length_nil]; omega, by rw [hfr2], hB4⟩
          case measure => simp [intOf]
      · obtain ⟨L, hL⟩ : ∃ L, getL G nSender = L := ⟨_, rfl⟩
        have hget := refGet_any (.slice sa sn sc) G [115, 101, 110, 100, 101, 114] wr HAr.out (by omega) (by simp) (fun f hf => (HS6.out f hf).1)
        have hLs := getL_short HS.out nSender
        rw [getL_low G (show lowL [115, 101, 110, 100, 101, 114] = lowL nSender by decide), hL] at hget
        rw [hL] at hLs
        have HGET := Lib.hid hget
        have HLS := Lib.hid hLs
        have cn := (hBr.cell (p := ⟨b, 3, none⟩) hnb).trans (HC.out 3 _ rfl)
        have hitem : (itemsE G)[3]? = some (adr2T (getFn G) nSender nFrom) := rfl
        have hnx := sT_next G 3 _ hitem (by omega)
        rw [hS.out] at hnx
        have hai := adr_of hL
        have hx2 := hnx
        unfold adr2T at hx2
        rw [hai] at hx2
        have ha1 : adr1T (getFn G) nSender = listT (adrOfL L) := by unfold adr1T; rw [hai]
        rw [ha1] at hx2
        have HNX := Lib.hid hnx
        clear hL hget hLs hS hitem hnx
        go_wp2_with fail
        refine HGET.out.mono ?_
        rintro e w2 ⟨gv, rfl, hgv, hb2⟩
        have hgs := hgv.strs
        have hB2 := hBr.trans (hb2.mono hzr)
        have hz2 := hB2.size
        clear HGET hgv
        cases L with
        | nil =>
          obtain ⟨la, lc, rfl⟩ : ∃ la lc, gv = .slice la 0 lc := by
            rcases hgs with ⟨rfl, _⟩ | ⟨_, _, _, rfl, _⟩
            · exact ⟨_, _, rfl⟩
            · exact ⟨_, _, rfl⟩
          clear hgs
          simp only [adrOfL, List.isEmpty_nil, if_true] at hx2
          have HX2 := Lib.hid hx2
          have ha5 := adr1_len HS6.out nFrom
          have ha3 := frT_len HS6.out 3
          clear hx2 HNX
          go_wp2
          go_roundw
          case rel => exact ⟨4, _, by omega, by first | rfl | go_num | trivial, by first | (simp only [bs_append]; done) | (simp only [bs_append]; rfl), HX2.out, by simp only [List.length_append, List.length_cons, List.length_nil]; omega, rfl, hB2⟩
          case measure => simp [intOf]
        | cons x r =>
          obtain ⟨lb, lo, lc, rfl, hlc, hlb, hlcell⟩ := hgs.resolve_left (by rintro ⟨_, h⟩; cases h)
          have cx := hlcell 0 (by simp)
          rw [List.getD_cons_zero, Nat.add_zero] at cx
          have hxl := HLS.out x (by simp)
          obtain ⟨n, hn⟩ : ∃ n, (x :: r).length = n := ⟨_, rfl⟩
          have hn0 : (0 : Int) < n := by rw [← hn]; simp only [List.length_cons]; omega
          rw [hn]
          clear hlcell hlc hn HLS
          go_wp2_with fail
          refine (refAddresses_any x _ (by omega)).mono ?_
          rintro e w3 ⟨⟨av, rfl, hav⟩, hb3⟩
          have hB3 := hB2.trans (hb3.mono hz2)
          have hz3 := hB3.size
          have hadr := hav.adrs
          have hfew := adrsL_few x
          have hsh := adrsL_short x
          have hll := listT_len x (by omega)
          have hls := refList_any av (adrsL x) w3 hadr (by omega) (fun a ha => by have := hsh a ha; exact ⟨Nat.le_trans this.1 (by omega), Nat.le_trans this.2.1 (by omega), Nat.le_trans this.2.2 (by omega)⟩)
          have HLL := Lib.hid hls
          clear hls hadr hsh hfew hav
          go_wp2_with fail
          refine HLL.out.mono ?_
          rintro e w4 ⟨rfl, hb4⟩
          have hB4 := hB3.trans (hb4.mono hz3)
          clear HLL
          obtain ⟨A, hA⟩ : ∃ A, adrsL x = A := ⟨_, rfl⟩
          have e1 : adrOfL (x :: r) = A := hA
          rw [e1] at hx2
          rw [hA] at hll ⊢
          clear e1 hA HNX
          by_cases h0 : A = []
          · subst h0
            have e2 : listT [] = nilL := rfl
            rw [e2]
            simp only [List.isEmpty_nil, if_true] at hx2
            have HX2 := Lib.hid hx2
            have ha5 := adr1_len HS6.out nFrom
            have ha3 := frT_len HS6.out 3
            clear hx2 e2
            go_wp2
            go_roundw
            case rel => exact ⟨4, _, by omega, by first | rfl | go_num | trivial, by first | (simp only [bs_append]; done) | (simp only [bs_append]; rfl), HX2.out, by simp only [List.length_append, List.length_cons, List.length_nil]; omega, rfl, hB4⟩
            case measure => simp [intOf]
          · rw [if_neg (by simpa using h0)] at hx2
            have hne := listT_ne h0
            have HX2 := Lib.hid hx2
            obtain ⟨T, hT⟩ : ∃ T, listT A = T := ⟨_, rfl⟩
            rw [hT] at hne hll HX2 ⊢
            have hne2 : (T == [78, 73, 76]) = false := by simpa [nilL] using hne
            clear hx2 hT h0
            go_wp2
            go_roundw
            case rel => exact ⟨4, _, by omega, by first | rfl | go_num | trivial, by first | (simp only [bs_append]; done) | (simp only [bs_append]; rfl), HX2.out, by simp only [List.length_append, List.length_cons, List.length_nil]; omega, rfl, hB4⟩
            case measure => simp [intOf]
      · obtain ⟨L, hL⟩ : ∃ L, getL G nReply = L := ⟨_, rfl⟩
        have hget := refGet_any (.slice sa sn sc) G [114, 101, 112, 108, 121, 45, 116, 111] wr HAr.out (by omega) (by simp) (fun f hf => (HS6.out f hf).1)
        have hLs := getL_short HS.out nReply
        rw [getL_low G (show lowL [114, 101, 112, 108, 121, 45, 116, 111] = lowL nReply by decide), hL] at hget
        rw [hL] at hLs
        have HGET := Lib.hid hget
        have HLS := Lib.hid hLs
        have cn := (hBr.cell (p := ⟨b, 4, none⟩) hnb).trans (HC.out 4 _ rfl)
        have hitem : (itemsE G)[4]? = some (adr2T (getFn G) nReply nFrom) := rfl
        have hnx := sT_next G 4 _ hitem (by omega)
        rw [hS.out] at hnx
        have hai := adr_of hL
        have hx2 := hnx
        unfold adr2T at hx2
        rw [hai] at hx2
        have ha1 : adr1T (getFn G) nReply = listT (adrOfL L) := by unfold adr1T; rw [hai]
        rw [ha1] at hx2
        have HNX := Lib.hid hnx
        clear hL hget hLs hS hitem hnx
        go_wp2_with fail
        refine HGET.out.mono ?_
        rintro e w2 ⟨gv, rfl, hgv, hb2⟩
        have hgs := hgv.strs
        have hB2 := hBr.trans (hb2.mono hzr)
        have hz2 := hB2.size
        clear HGET hgv
        cases L with
        | nil =>
          obtain ⟨la, lc, rfl⟩ : ∃ la lc, gv = .slice la 0 lc := by
            rcases hgs with ⟨rfl, _⟩ | ⟨_, _, _, rfl, _⟩
            · exact ⟨_, _, rfl⟩
            · exact ⟨_, _, rfl⟩
          clear hgs
          simp only [adrOfL, List.isEmpty_nil, if_true] at hx2
          have HX2 := Lib.hid hx2
          have ha5 := adr1_len HS6.out nFrom
          have ha3 := frT_len HS6.out 4
          clear hx2 HNX
          go_wp2
          go_roundw
          case rel => exact ⟨5, _, by omega, by first | rfl | go_num | trivial, by first | (simp only [bs_append]; done) | (simp only [bs_append]; rfl), HX2.out, by simp only [List.length_append, List.length_cons, List.length_nil]; omega, rfl, hB2⟩
          case measure => simp [intOf]
        | cons x r =>
          obtain ⟨lb, lo, lc, rfl, hlc, hlb, hlcell⟩ := hgs.resolve_left (by rintro ⟨_, h⟩; cases h)
          have cx := hlcell 0 (by simp)
          rw [List.getD_cons_zero, Nat.add_zero] at cx
          have hxl := HLS.out x (by simp)
          obtain ⟨n, hn⟩ : ∃ n, (x :: r).length = n := ⟨_, rfl⟩
          have hn0 : (0 : Int) < n := by rw [← hn]; simp only [List.length_cons]; omega
          rw [hn]
          clear hlcell hlc hn HLS
          go_wp2_with fail
          refine (refAddresses_any x _ (by omega)).mono ?_
          rintro e w3 ⟨⟨av, rfl, hav⟩, hb3⟩
          have hB3 := hB2.trans (hb3.mono hz2)
          have hz3 := hB3.size
          have hadr := hav.adrs
          have hfew := adrsL_few x
          have hsh := adrsL_short x
          have hll := listT_len x (by omega)
          have hls := refList_any av (adrsL x) w3 hadr (by omega) (fun a ha => by have := hsh a ha; exact ⟨Nat.le_trans this.1 (by omega), Nat.le_trans this.2.1 (by omega), Nat.le_trans this.2.2 (by omega)⟩)
          have HLL := Lib.hid hls
          clear hls hadr hsh hfew hav
          go_wp2_with fail
          refine HLL.out.mono ?_
          rintro e w4 ⟨rfl, hb4⟩
          have hB4 := hB3.trans (hb4.mono hz3)
          clear HLL
          obtain ⟨A, hA⟩ : ∃ A, adrsL x = A := ⟨_, rfl⟩
          have e1 : adrOfL (x :: r) = A := hA
          rw [e1] at hx2
          rw [hA] at hll ⊢
          clear e1 hA HNX
          by_cases h0 : A = []
          · subst h0
            have e2 : listT [] = nilL := rfl
            rw [e2]
            simp only [List.isEmpty_nil, if_true] at hx2
            have HX2 := Lib.hid hx2
            have ha5 := adr1_len HS6.out nFrom
            have ha3 := frT_len HS6.out 4
            clear hx2 e2
            go_wp2
            go_roundw
            case rel => exact ⟨5, _, by omega, by first | rfl | go_num | trivial, by first | (simp only [bs_append]; done) | (simp only [bs_append]; rfl), HX2.out, by simp only [List.length_append, List.length_cons, List.length_nil]; omega, rfl, hB4⟩
            case measure => simp [intOf]
          · rw [if_neg (by simpa using h0)] at hx2
            have hne := listT_ne h0
            have HX2 := Lib.hid hx2
            obtain ⟨T, hT⟩ : ∃ T, listT A = T := ⟨_, rfl⟩
            rw [hT] at hne hll HX2 ⊢
            have hne2 : (T == [78, 73, 76]) = false := by simpa [nilL] using hne
            clear hx2 hT h0
            go_wp2
            go_roundw
            case rel => exact ⟨5, _, by omega, by first | rfl | go_num | trivial, by first | (simp only [bs_append]; done) | (simp only [bs_append]; rfl), HX2.out, by simp only [List.length_append, List.length_cons, List.length_nil]; omega, rfl, hB4⟩
            case measure => simp [intOf]
      · obtain ⟨L, hL⟩ : ∃ L, getL G nTo = L := ⟨_, rfl⟩
        have hget := refGet_any (.slice sa sn sc) G [116, 111] wr HAr.out (by omega) (by simp) (fun f hf => (HS6.out f hf).1)
        have hLs := getL_short HS.out nTo
        rw [getL_low G (show lowL [116, 111] = lowL nTo by decide), hL] at hget
        rw [hL] at hLs
        have HGET := Lib.hid hget
        have HLS := Lib.hid hLs
        have cn := (hBr.cell (p := ⟨b, 5, none⟩) hnb).trans (HC.out 5 _ rfl)
        have hitem : (itemsE G)[5]? = some (adr1T (getFn G) nTo) := rfl
        have hnx := sT_next G 5 _ hitem (by omega)
        rw [hS.out] at hnx
        have hai := adr_of hL
        unfold adr1T at hnx
        rw [hai] at hnx
        have HNX := Lib.hid hnx
        clear hL hget hLs hS hitem hnx
        go_wp2_with fail
        refine HGET.out.mono ?_
        rintro e w2 ⟨gv, rfl, hgv, hb2⟩
        have hgs := hgv.strs
        have hB2 := hBr.trans (hb2.mono hzr)
        have hz2 := hB2.size
        clear HGET hgv
        cases L with
        | nil =>
          obtain ⟨la, lc, rfl⟩ : ∃ la lc, gv = .slice la 0 lc := by
            rcases hgs with ⟨rfl, _⟩ | ⟨_, _, _, rfl, _⟩
            · exact ⟨_, _, rfl⟩
            · exact ⟨_, _, rfl⟩
          clear hgs
          go_wp2
          go_roundw
          case rel => exact ⟨6, _, by omega, by first | rfl | go_num | trivial, by first | (simp only [bs_append]; done) | (simp only [bs_append]; rfl), HNX.out, by simp only [adrOfL, listT, if_true, nilL, List.length_append, List.length_cons, List.length_nil]; omega, rfl, hB2⟩
          case measure => simp [intOf]
        | cons x r =>
          obtain ⟨lb, lo, lc, rfl, hlc, hlb, hlcell⟩ := hgs.resolve_left (by rintro ⟨_, h⟩; cases h)
          have cx := hlcell 0 (by simp)
          rw [List.getD_cons_zero, Nat.add_zero] at cx
          have hxl := HLS.out x (by simp)
          obtain ⟨n, hn⟩ : ∃ n, (x :: r).length = n := ⟨_, rfl⟩
          have hn0 : (0 : Int) < n := by rw [← hn]; simp only [List.length_cons]; omega
          rw [hn]
          clear hlcell hlc hn HLS
          go_wp2_with fail
          refine (refAddresses_any x _ (by omega)).mono ?_
          rintro e w3 ⟨⟨av, rfl, hav⟩, hb3⟩
          have hB3 := hB2.trans (hb3.mono hz2)
          have hz3 := hB3.size
          have hadr := hav.adrs
          have hfew := adrsL_few x
          have hsh := adrsL_short x
          have hll := listT_len x (by omega)
          have hls := refList_any av (adrsL x) w3 hadr (by omega) (fun a ha => by have := hsh a ha; exact ⟨Nat.le_trans this.1 (by omega), Nat.le_trans this.2.1 (by omega), Nat.le_trans this.2.2 (by omega)⟩)
          have HLL := Lib.hid hls
          clear hls hadr hsh hfew hav
          go_wp2_with fail
          refine HLL.out.mono ?_
          rintro e w4 ⟨rfl, hb4⟩
          have hB4 := hB3.trans (hb4.mono hz3)
          clear HLL
          go_wp2
          go_roundw
          case rel => exact ⟨6, _, by omega, by first | rfl | go_num | trivial, by first | (simp only [bs_append]; done) | (simp only [bs_append]; rfl), HNX.out, by simp only [adrOfL, List.length_append, List.length_cons, List.length_nil]; omega, rfl, hB4⟩
          case measure => simp [intOf]
      · obtain ⟨L, hL⟩ : ∃ L, getL G nCc = L := ⟨_, rfl⟩
        have hget := refGet_any (.slice sa sn sc) G [99, 99] wr HAr.out (by omega) (by simp) (fun f hf => (HS6.out f hf).1)
        have hLs := getL_short HS.out nCc
        rw [getL_low G (show lowL [99, 99] = lowL nCc by decide), hL] at hget
        rw [hL] at hLs
        have HGET := Lib.hid hget
        have HLS := Lib.hid hLs
        have cn := (hBr.cell (p := ⟨b, 6, none⟩) hnb).trans (HC.out 6 _ rfl)
        have hitem : (itemsE G)[6]? = some (adr1T (getFn G) nCc) := rfl
        have hnx := sT_next G 6 _ hitem (by omega)
        rw [hS.out] at hnx
        have hai := adr_of hL
        unfold adr1T at hnx
        rw [hai] at hnx
        have HNX := Lib.hid hnx
        clear hL hget hLs hS hitem hnx
        go_wp2_with fail
        refine HGET.out.mono ?_
        rintro e w2 ⟨gv, rfl, hgv, hb2⟩
        have hgs := hgv.strs
        have hB2 := hBr.trans (hb2.mono hzr)
        have hz2 := hB2.size
        clear HGET hgv
        cases L with
        | nil =>
          obtain ⟨la, lc, rfl⟩ : ∃ la lc, gv = .slice la 0 lc := by
            rcases hgs with ⟨rfl, _⟩ | ⟨_, _, _, rfl, _⟩
            · exact ⟨_, _, rfl⟩
            · exact ⟨_, _, rfl⟩
          clear hgs
          go_wp2
          go_roundw
          case rel => exact ⟨7, _, by omega, by first | rfl | go_num | trivial, by first | (simp only [bs_append]; done) | (simp only [bs_append]; rfl), HNX.out, by simp only [adrOfL, listT, if_true, nilL, List.length_append, List.length_cons, List.length_nil]; omega, rfl, hB2⟩
          case measure => simp [intOf]
        | cons x r =>
          obtain ⟨lb, lo, lc, rfl, hlc, hlb, hlcell⟩ := hgs.resolve_left (by rintro ⟨_, h⟩; cases h)
          have cx := hlcell 0 (by simp)
          rw [List.getD_cons_zero, Nat.add_zero] at cx
          have hxl := HLS.out x (by simp)
          obtain ⟨n, hn⟩ : ∃ n, (x :: r).length = n := ⟨_, rfl⟩
          have hn0 : (0 : Int) < n := by rw [← hn]; simp only [List.length_cons]; omega
          rw [hn]
          clear hlcell hlc hn HLS
          go_wp2_with fail
          refine (refAddresses_any x _ (by omega)).mono ?_
          rintro e w3 ⟨⟨av, rfl, hav⟩, hb3⟩
          have hB3 := hB2.trans (hb3.mono hz2)
          have hz3 := hB3.size
          have hadr := hav.adrs
          have hfew := adrsL_few x
          have hsh := adrsL_short x
          have hll := listT_len x (by omega)
          have hls := refList_any av (adrsL x) w3 hadr (by omega) (fun a ha => by have := hsh a ha; exact ⟨Nat.le_trans this.1 (by omega), Nat.le_trans this.2.1 (by omega), Nat.le_trans this.2.2 (by omega)⟩)
          have HLL := Lib.hid hls
          clear hls hadr hsh hfew hav
          go_wp2_with fail
          refine HLL.out.mono ?_
          rintro e w4 ⟨rfl, hb4⟩
          have hB4 := hB3.trans (hb4.mono hz3)
          clear HLL
          go_wp2
          go_roundw
          case rel => exact ⟨7, _, by omega, by first | rfl | go_num | trivial, by first | (simp only [bs_append]; done) | (simp only [bs_append]; rfl), HNX.out, by simp only [adrOfL, List.length_append, List.length_cons, List.length_nil]; omega, rfl, hB4⟩
          case measure => simp [intOf]
      · obtain ⟨L, hL⟩ : ∃ L, getL G nBcc = L := ⟨_, rfl⟩
        have hget := refGet_any (.slice sa sn sc) G [98, 99, 99] wr HAr.out (by omega) (by simp) (fun f hf => (HS6.out f hf).1)
        have hLs := getL_short HS.out nBcc
        rw [getL_low G (show lowL [98, 99, 99] = lowL nBcc by decide), hL] at hget
        rw [hL] at hLs
        have HGET := Lib.hid hget
        have HLS := Lib.hid hLs
        have cn := (hBr.cell (p := ⟨b, 7, none⟩) hnb).trans (HC.out 7 _ rfl)
        have hitem : (itemsE G)[7]? = some (adr1T (getFn G) nBcc) := rfl
        have hnx := sT_next G 7 _ hitem (by omega)
        rw [hS.out] at hnx
        have hai := adr_of hL
        unfold adr1T at hnx
        rw [hai] at hnx
        have HNX := Lib.hid hnx
        clear hL hget hLs hS hitem hnx
        go_wp2_with fail
        refine HGET.out.mono ?_
        rintro e w2 ⟨gv, rfl, hgv, hb2⟩
        have hgs := hgv.strs
        have hB2 := hBr.trans (hb2.mono hzr)
        have hz2 := hB2.size
        clear HGET hgv
        cases L with
        | nil =>
          obtain ⟨la, lc, rfl⟩ : ∃ la lc, gv = .slice la 0 lc := by
            rcases hgs with ⟨rfl, _⟩ | ⟨_, _, _, rfl, _⟩
            · exact ⟨_, _, rfl⟩
            · exact ⟨_, _, rfl⟩
          clear hgs
          go_wp2
          go_roundw
          case rel => exact ⟨8, _, by omega, by first | rfl | go_num | trivial, by first | (simp only [bs_append]; done) | (simp only [bs_append]; rfl), HNX.out, by simp only [adrOfL, listT, if_true, nilL, List.length_append, List.length_cons, List.length_nil]; omega, rfl, hB2⟩
          case measure => simp [intOf]
        | cons x r =>
          obtain ⟨lb, lo, lc, rfl, hlc, hlb, hlcell⟩ := hgs.resolve_left (by rintro ⟨_, h⟩; cases h)
          have cx := hlcell 0 (by simp)
          rw [List.getD_cons_zero, Nat.add_zero] at cx
          have hxl := HLS.out x (by simp)
          obtain ⟨n, hn⟩ : ∃ n, (x :: r).length = n := ⟨_, rfl⟩
          have hn0 : (0 : Int) < n := by rw [← hn]; simp only [List.length_cons]; omega
          rw [hn]
          clear hlcell hlc hn HLS
          go_wp2_with fail
          refine (refAddresses_any x _ (by omega)).mono ?_
          rintro e w3 ⟨⟨av, rfl, hav⟩, hb3⟩
          have hB3 := hB2.trans (hb3.mono hz2)
          have hz3 := hB3.size
          have hadr := hav.adrs
          have hfew := adrsL_few x
          have hsh := adrsL_short x
          have hll := listT_len x (by omega)
          have hls := refList_any av (adrsL x) w3 hadr (by omega) (fun a ha => by have := hsh a ha; exact ⟨Nat.le_trans this.1 (by omega), Nat.le_trans this.2.1 (by omega), Nat.le_trans this.2.2 (by omega)⟩)
          have HLL := Lib.hid hls
          clear hls hadr hsh hfew hav
          go_wp2_with fail
          refine HLL.out.mono ?_
          rintro e w4 ⟨rfl, hb4⟩
          have hB4 := hB3.trans (hb4.mono hz3)
          clear HLL
          go_wp2
          go_roundw
          case rel => exact ⟨8, _, by omega, by first | rfl | go_num | trivial, by first | (simp only [bs_append]; done) | (simp only [bs_append]; rfl), HNX.out, by simp only [adrOfL, List.length_append, List.length_cons, List.length_nil]; omega, rfl, hB4⟩
          case measure => simp [intOf]
      · obtain ⟨L, hL⟩ : ∃ L, getL G nInReply = L := ⟨_, rfl⟩
        have hget := refGet_any (.slice sa sn sc) G [105, 110, 45, 114, 101, 112, 108, 121, 45, 116, 111] wr HAr.out (by omega) (by simp) (fun f hf => (HS6.out f hf).1)
        have hLs := getL_short HS.out nInReply
        rw [getL_low G (show lowL [105, 110, 45, 114, 101, 112, 108, 121, 45, 116, 111] = lowL nInReply by decide), hL] at hget
        rw [hL] at hLs
        have HGET := Lib.hid hget
        have HLS := Lib.hid hLs
        have cn := (hBr.cell (p := ⟨b, 8, none⟩) hnb).trans (HC.out 8 _ rfl)
        have hitem : (itemsE G)[8]? = some (valT (getFn G) nInReply) := rfl
        have hnx := sT_next G 8 _ hitem (by omega)
        rw [hS.out] at hnx
        rw [val_of hL] at hnx
        have HNX := Lib.hid hnx
        clear hL hget hLs hS hitem hnx
        go_wp2_with fail
        refine HGET.out.mono ?_
        rintro e w2 ⟨gv, rfl, hgv, hb2⟩
        have hgs := hgv.strs
        have hB2 := hBr.trans (hb2.mono hzr)
        have hz2 := hB2.size
        clear HGET hgv
        cases L with
        | nil =>
          obtain ⟨la, lc, rfl⟩ : ∃ la lc, gv = .slice la 0 lc := by
            rcases hgs with ⟨rfl, _⟩ | ⟨_, _, _, rfl, _⟩
            · exact ⟨_, _, rfl⟩
            · exact ⟨_, _, rfl⟩
          clear hgs
          go_wp2
          go_roundw
          case rel => exact ⟨9, _, by omega, by first | rfl | go_num | trivial, by first | (simp only [bs_append]; done) | (simp only [bs_append]; rfl), HNX.out, by simp only [valOf, nilL, List.length_append, List.length_cons, List.length_nil]; omega, rfl, hB2⟩
          case measure => simp [intOf]
        | cons x r =>
          obtain ⟨lb, lo, lc, rfl, hlc, hlb, hlcell⟩ := hgs.resolve_left (by rintro ⟨_, h⟩; cases h)
          have cx := hlcell 0 (by simp)
          rw [List.getD_cons_zero, Nat.add_zero] at cx
          have hxl := HLS.out x (by simp)
          obtain ⟨n, hn⟩ : ∃ n, (x :: r).length = n := ⟨_, rfl⟩
          have hn0 : (0 : Int) < n := by rw [← hn]; simp only [List.length_cons]; omega
          rw [hn]
          clear hlcell hlc hn HLS
          have hql := qtL_len x (by omega)
          go_wp2_with fail
          refine (refQuote_any x _ (by omega)).mono ?_
          rintro e w3 ⟨rfl, hb3⟩
          have hB3 := hB2.trans (hb3.mono hz2)
          go_wp2
          go_roundw
          case rel => exact ⟨9, _, by omega, by first | rfl | go_num | trivial, by first | (simp only [bs_append]; done) | (simp only [bs_append]; rfl), HNX.out, by simp only [valOf, List.length_append, List.length_cons, List.length_nil]; omega, rfl, hB3⟩
          case measure => simp [intOf]
      · obtain ⟨L, hL⟩ : ∃ L, getL G nMsgId = L := ⟨_, rfl⟩
        have hget := refGet_any (.slice sa sn sc) G [109, 101, 115, 115, 97, 103, 101, 45, 105, 100] wr HAr.out (by omega) (by simp) (fun f hf => (HS6.out f hf).1)
        have hLs := getL_short HS.out nMsgId
        rw [getL_low G (show lowL [109, 101, 115, 115, 97, 103, 101, 45, 105, 100] = lowL nMsgId by decide), hL] at hget
        rw [hL] at hLs
        have HGET := Lib.hid hget
        have HLS := Lib.hid hLs
        have cn := (hBr.cell (p := ⟨b, 9, none⟩) hnb).trans (HC.out 9 _ rfl)
        have hitem : (itemsE G)[9]? = some (valT (getFn G) nMsgId) := rfl
        have hnx := sT_next G 9 _ hitem (by omega)
        rw [hS.out] at hnx
        rw [val_of hL] at hnx
        have HNX := Lib.hid hnx
        clear hL hget hLs hS hitem hnx
        go_wp2_with fail
        refine HGET.out.mono ?_
        rintro e w2 ⟨gv, rfl, hgv, hb2⟩
        have hgs := hgv.strs
        have hB2 := hBr.trans (hb2.mono hzr)
        have hz2 := hB2.size
        clear HGET hgv
        cases L with
        | nil =>
          obtain ⟨la, lc, rfl⟩ : ∃ la lc, gv = .slice la 0 lc := by
            rcases hgs with ⟨rfl, _⟩ | ⟨_, _, _, rfl, _⟩
            · exact ⟨_, _, rfl⟩
            · exact ⟨_, _, rfl⟩
          clear hgs
          go_wp2
          go_roundw
          case rel => exact ⟨10, _, by omega, by first | rfl | go_num | trivial, by first | (simp only [bs_append]; done) | (simp only [bs_append]; rfl), HNX.out, by simp only [valOf, nilL, List.length_append, List.length_cons, List.length_nil]; omega, rfl, hB2⟩
          case measure => simp [intOf]
        | cons x r =>
          obtain ⟨lb, lo, lc, rfl, hlc, hlb, hlcell⟩ := hgs.resolve_left (by rintro ⟨_, h⟩; cases h)
          have cx := hlcell 0 (by simp)
          rw [List.getD_cons_zero, Nat.add_zero] at cx
          have hxl := HLS.out x (by simp)
          obtain ⟨n, hn⟩ : ∃ n, (x :: r).length = n := ⟨_, rfl⟩
          have hn0 : (0 : Int) < n := by rw [← hn]; simp only [List.length_cons]; omega
          rw [hn]
          clear hlcell hlc hn HLS
          have hql := qtL_len x (by omega)
          go_wp2_with fail
          refine (refQuote_any x _ (by omega)).mono ?_
          rintro e w3 ⟨rfl, hb3⟩
          have hB3 := hB2.trans (hb3.mono hz2)
          go_wp2
          go_roundw
          case rel => exact ⟨10, _, by omega, by first | rfl | go_num | trivial, by first | (simp only [bs_append]; done) | (simp only [bs_append]; rfl), HNX.out, by simp only [valOf, List.length_append, List.length_cons, List.length_nil]; omega, rfl, hB3⟩
          case measure => simp [intOf]
      · go_wp2
        go_ret
        exact ⟨by rw [sT_all, hS.out, bs_append]; rfl, hBw⟩

end Go.Proofs.YtifjibgnjjiggaaGreatDoor
end

/- EnvelopeTexts, EnvelopeAddresses: the laws. -/
set_option linter.unusedVariables false
set_option linter.unusedSimpArgs false
section
namespace Go.Proofs.YtifjibgnjjiggaaGreatDoor
open Go.RowKit Go

set_option maxRecDepth 100000 in
theorem envelopeTexts_list (l : List UInt8) (m : Int) (a : Addr) (w : World) (h : EnvW w m a) : Calls Tryz.prog 4 #[.string (bs l)] w fun e w' => e = .returned (.bool true) ∧ Below w.heap.size w w' := by
  have H := Lib.hid h
  clear h
  go_enter Tryz.func4, Tryz.ntmps4
  go_wp2_with fail
  refine (envAlive_any m a _ H.out.max H.out.tab H.out.err).mono ?_
  rintro e w1 ⟨rfl, hb1⟩
  have H1 := Lib.hid (H.out.below hb1)
  by_cases hl : l.length ≤ 10000
  · have hl2 : (l.length : Int) ≤ 10000 := by omega
    go_wp2_with fail
    refine (envText_any l m a _ (by omega) H1.out.max H1.out.tab H1.out.err).mono ?_
    rintro e w2 ⟨rfl, hb2⟩
    go_wp2_with fail
    refine (refEnv_any l _ (by omega)).mono ?_
    rintro e w3 ⟨rfl, hb3⟩
    go_wp2
    go_ret
    exact ⟨rfl, hb1.trans ((hb2.trans (hb3.mono hb2.size)).mono hb1.size)⟩
  · have hl2 : (10000 : Int) < l.length := by omega
    go_wp2
    go_ret
    exact ⟨rfl, hb1⟩

set_option maxRecDepth 100000 in
theorem envelopeAddresses_list (l : List UInt8) (m : Int) (a : Addr) (w : World) (h : EnvW w m a) : Calls Tryz.prog 3 #[.string (bs l)] w fun e w' => e = .returned (.bool true) ∧ Below w.heap.size w w' := by
  have H := Lib.hid h
  clear h
  go_enter Tryz.func3, Tryz.ntmps3
  go_wp2_with fail
  refine (envAlive_any m a _ H.out.max H.out.tab H.out.err).mono ?_
  rintro e w1 ⟨rfl, hb1⟩
  have H1 := Lib.hid (H.out.below hb1)
  by_cases hl : l.length ≤ 5000
  · have hl2 : (l.length : Int) ≤ 5000 := by omega
    have hfew := adrsL_few l
    have hsh := adrsL_short l
    obtain ⟨A, hA⟩ : ∃ A, adrsL l = A := ⟨_, rfl⟩
    have HA := Lib.hid hA
    rw [hA] at hfew hsh
    have HSH := Lib.hid (show ShortA A from fun x hx => ⟨Nat.le_trans (hsh x hx).1 (by omega), Nat.le_trans (hsh x hx).2.1 (by omega), Nat.le_trans (hsh x hx).2.2 (by omega)⟩)
    clear hA hsh
    go_wp2_with fail
    refine (addresses_any l _ (by omega)).mono ?_
    rintro e w2 ⟨⟨x, rfl, hx⟩, hb2⟩
    rw [HA.out] at hx
    have hxa := hx.adrs
    go_wp2_with fail
    refine (refAddresses_any l _ (by omega)).mono ?_
    rintro e w3 ⟨⟨y, rfl, hy⟩, hb3⟩
    rw [HA.out] at hy
    have hya := hy.adrs
    have hxb := hxa.below hb3
    clear hx hy
    go_wp2_with fail
    refine (refSame11_yes x y A _ hxb hya (by omega)).mono ?_
    rintro e w4 ⟨rfl, hb4⟩
    have H4 := ((H1.out.below hb2).below hb3).below hb4
    have hxc := hxb.below hb4
    have hyc := hya.below hb4
    have hB4 := hb1.trans ((hb2.trans ((hb3.trans (hb4.mono hb3.size)).mono hb2.size)).mono hb1.size)
    have hz4 := hB4.size
    have L1 := Lib.hid (list_any x A m _ H4.max H4.tab hxc (by omega) HSH.out)
    have L2 := Lib.hid (fun u (hu : Below w4.heap.size w4 u) => refList_any y A u (hyc.below hu) (by omega) HSH.out)
    clear H4 hxc hyc hxb hya hxa hb2 hb3 hb4
    go_wp2_with fail
    refine L1.out.mono ?_
    rintro e w5 ⟨rfl, hb5⟩
    have L3 := Lib.hid (L2.out w5 hb5)
    clear L1 L2
    go_wp2_with fail
    refine L3.out.mono ?_
    rintro e w6 ⟨rfl, hb6⟩
    go_wp2
    go_ret
    exact ⟨rfl, hB4.trans ((hb5.trans (hb6.mono hb5.size)).mono hz4)⟩
  · have hl2 : (5000 : Int) < l.length := by omega
    go_wp2
    go_ret
    exact ⟨rfl, hb1⟩

abbrev Tab (w : World) : Prop := TabQ w
theorem tab_of_head {W : World} {rest : List (String × DataW Unit)} (h : laidMet Tryz.prog (("internal/strconv.uint64pow10", Lib.tabData .u64 Lib.pow10Tab) :: rest) W) : Tab W :=
  Lib.tabIs_of_head tabQNamed (by kernel_rfl) Tryz.underlying120 Tryz.underlying108 (by kernel_rfl) (by kernel_rfl) h

theorem envelopeTexts_any (s : ByteArray) (w : World) (_ : s.size ≤ 9223372036854775807) (a : Addr) (hE : w.cell? ⟨0, 0, none⟩ = some (errV a)) (hT : Tab w) (m : Int) (hm : w.cell? ⟨1, 0, none⟩ = some (.int .i64 m)) :
    Calls Tryz.prog 4 #[.string s] w fun e w' => e = .returned (.bool true) ∧ Below w.heap.size w w' :=
  envelopeTexts_list s.data.toList m a w ⟨hm, hT, hE⟩
theorem envelopeAddresses_any (s : ByteArray) (w : World) (_ : s.size ≤ 9223372036854775807) (a : Addr) (hE : w.cell? ⟨0, 0, none⟩ = some (errV a)) (hT : Tab w) (m : Int) (hm : w.cell? ⟨1, 0, none⟩ = some (.int .i64 m)) :
    Calls Tryz.prog 3 #[.string s] w fun e w' => e = .returned (.bool true) ∧ Below w.heap.size w w' :=
  envelopeAddresses_list s.data.toList m a w ⟨hm, hT, hE⟩

end Go.Proofs.YtifjibgnjjiggaaGreatDoor
end

/- From 'the listed variables hold these data' to 'ErrFull holds an error'. -/
set_option linter.unusedVariables false
set_option linter.unusedSimpArgs false
section
namespace Go.Proofs.YtifjibgnjjiggaaGreatDoor
open Go.RowKit Go.ChangeShapes

/-- the error's text -/
def errText (_ : Nat) : List UInt8 := [112, 111, 115, 116, 98, 97, 103, 58, 32, 102, 117, 108, 108]
def errG (_ : Nat) : Nat := 0
/-- its name -/
def errName (_ : Nat) : String := "postbag/api.ErrFull"
def errDatum (k : Nat) : DataW Unit := .iface "*errors.errorString" (.ptr (.agg [.lit (.string (errText k))]))
theorem errNamed (k : Nat) (_ : k < 13) : Tryz.prog.globalNamed (errName k) = some (errG k) := by unfold errName errG; kernel_rfl
theorem errTyped (k : Nat) (_ : k < 13) : (Tryz.prog.globals[errG k]?).map (·.type) = some 42 := by unfold errG; kernel_rfl
theorem errStar : "*" ++ "errors.errorString" = "*errors.errorString" := by decide
theorem errRow (u : TypeId) (h : Tryz.prog.typeName? 3 u = some "*errors.errorString") : u = 129 :=
  typeName_ptr_named (nm := "errors.errorString") (by rw [errStar]; kernel_rfl) (by kernel_rfl) (by decide) u (by rw [errStar]; exact h)
theorem errCellsE : Tryz.prog.cellsOf 144 = 1 := by kernel_rfl
theorem errCellsS : Tryz.prog.cellsOf 9 = 1 := by kernel_rfl

theorem laid_err_any {P : Program} {laid : List (String × DataW Unit)} {W : World} {n nm : String} {g : Nat} {text : List UInt8} {ti tp te ts : TypeId} {ms : Array (String × TypeId)} {f : Field}
    (h : laidMet P laid W) (hm : (n, DataW.iface nm (.ptr (.agg [.lit (.string text)]))) ∈ laid)
    (hg : P.globalNamed n = some g) (ht : (P.globals[g]?).map (·.type) = some ti) (hi : P.underlying ti = some (.interface ms)) (hrow : ∀ u, P.typeName? 3 u = some nm → u = tp)
    (hp : P.underlying tp = some (.pointer te)) (he : P.underlying te = some (.struct #[f])) (hft : f.type = ts) (hfo : f.offset = 0) (hs : P.underlying ts = some .string) (hc : P.cellsOf te = 1) (hcs : P.cellsOf ts = 1) :
    ∃ a : Addr, W.cell? ⟨g, 0, none⟩ = some (.iface tp (.pointer (some a))) ∧ (∃ s : ByteArray, W.cell? a = some (.string s) ∧ s.data.toList = text) ∧ ∃ c t, W.heap[a.block]? = some (.cells c t (0, 0)) := by
  induction laid with
  | nil => cases hm
  | cons x r ih =>
    rcases List.mem_cons.1 hm with e | e
    · subst e
      obtain ⟨ps, ⟨g0, t0, cs0, f0, p0, q0, hg0, ht0, hv0, hd0, _, e0⟩, _, hrows⟩ := h
      obtain rfl := Option.some.inj (hg.symm.trans hg0)
      obtain rfl := Option.some.inj (ht.symm.trans ht0)
      subst e0
      obtain ⟨l0⟩ := cs0
      have ok0 : ∀ u v, l0 = [.iface u v] → Value.okWide P W .any 0 u v := fun u v e => by
        subst e
        exact (hrows g 0 (by simp [MemPlace.row])).2 u v (by simpa using World.var?_cell hg0 hv0 0)
      obtain ⟨a0, s0, rfl, hc0, hs0, _, rfl⟩ := errorString_of_trod hi hrow hp he hft hfo hs hc hcs hd0 ok0
      obtain ⟨c0, t0, hb0⟩ := (hrows a0.block a0.off (by simp [MemPlace.row])).1
      exact ⟨a0, by simpa using World.var?_cell hg0 hv0 0, ⟨s0, hc0, hs0⟩, c0, t0, hb0⟩
    · exact ih h.tail e

theorem laid_err {laid : List (String × DataW Unit)} {W : World} {n : String} {g : Nat} {text : List UInt8} (hgn : Tryz.prog.globalNamed n = some g) (hgt : (Tryz.prog.globals[g]?).map (·.type) = some 42)
    (h : laidMet Tryz.prog laid W) (hm : (n, DataW.iface "*errors.errorString" (.ptr (.agg [.lit (.string text)]))) ∈ laid) :
    ∃ a : Addr, W.cell? ⟨g, 0, none⟩ = some (errV a) ∧ (∃ s : ByteArray, W.cell? a = some (.string s) ∧ s.data.toList = text) ∧ ∃ c t, W.heap[a.block]? = some (.cells c t (0, 0)) :=
  laid_err_any h hm hgn hgt Tryz.underlying42 errRow Tryz.underlying129 Tryz.underlying144 rfl rfl Tryz.underlying9 errCellsE errCellsS

/-- one of the thirteen alone -/
theorem err_of_laid {laid : List (String × DataW Unit)} {W : World} (hn : (laid.all fun x => x.2.handleName?.isNone) = true) (h : laidMetH Tryz.prog laid W) (k : Nat) (hk : k < 13) (hm : (errName k, errDatum k) ∈ laid) : ∃ a, W.cell? ⟨errG k, 0, none⟩ = some (errV a) := by
  rw [MakeChecks.laidMetH_plain _ _ _ hn] at h
  obtain ⟨a, ha⟩ := laid_err (errNamed k hk) (errTyped k hk) h hm
  exact ⟨a, ha.1⟩

end Go.Proofs.YtifjibgnjjiggaaGreatDoor
end

/- The wrap that hands the walk both: what the listed variables hold, and the world's shape. -/
set_option linter.unusedVariables false
set_option linter.unusedSimpArgs false
section
namespace Go
variable {H : Type} {enc : TypeId × Value → H}

theorem Proofs.YtifjibgnjjiggaaGreatDoor.handed_and_shaped {a : Assume} {C : Checked} {os : Os} {f : FuncId} {fn : Func} {s : ChangeSpec} {conds : List PathCond} {apart fresh handsOn again : Bool} {X : World → Array Value → Prop}
    (hX : ∀ (w w' : World) (args : Array Value), w.heap = w'.heap → X w args → X w' args)
    (own : ownKnob C.prog.godebug = none) (started : os.Started) (noInit : C.prog.inits.idxOf? f = none) (hfn : C.prog.funcs[f]? = some fn)
    (witness : ∃ (w : World) (tape : Tape) (i : Input), w.os = os ∧ (w.forCall tape i).Shaped C.prog ∧ i.vars = [] ∧ Input.okWide C.prog (w.forCall tape i) .any w.heap.size f i ∧
      ((s.pre enc C.prog fn conds apart (w.forCall tape i).memory i.args ∧ X (w.forCall tape i).memory i.args) ∧ sizedMet enc C.prog fn (OpenSpec.ofChange s) apart (w.forCall tape i).memory i.args) ∧ a.holds C.prog (lone (Frame.enter C.prog f i.args .normal) [] (w.forCall tape i)))
    (contract : ∀ (W : World) (base : Nat) (args : Array Value) (ds gs : List (DataW H)) (before : List MemPlace),
      (∀ (j : Nat) t v, fn.params[j]? = some t → args[j]? = some v → Value.okWide C.prog W .any base t v) →
      DataW.Whole enc C.prog fn.params.toList s.vars apart W args.toList ds gs before →
      conds.all (PathCond.test C.prog ⟨fn.params.toList, ds, s.plain.varTypes C.prog, gs⟩) = true →
      (DataW.weightsEach C.prog (fn.params.toList ++ s.plain.varTypes C.prog) (ds ++ gs)).all (· ≤ reachBytes) = true → X W args → W.ShapedOpen C.prog →
      a.holds C.prog (lone (Frame.enter C.prog f args .normal) [] W) →
      Calls C.prog f args W fun e W' => ∃ v, e = .returned v ∧ s.post enc C.prog fn apart fresh handsOn again W args v W') :
    ReturnsInHanded a C os f .any (fun w args => (s.pre enc C.prog fn conds apart w args ∧ X w args) ∧ sizedMet enc C.prog fn (OpenSpec.ofChange s) apart w args) (s.post enc C.prog fn apart fresh handsOn again) := by
  refine returnsInHanded_of_calls own started noInit witness ?_
  intro w tape i _ hsh _ hok hpre hholds
  obtain ⟨_, _, _, fn', hfn', _, _, _, _, hval⟩ := hok
  have e : fn' = fn := Option.some.inj (hfn'.symm.trans hfn)
  subst e
  obtain ⟨⟨⟨ds, gs, before, hw, hc⟩, hx⟩, hz⟩ := hpre
  have hw' := DataW.Whole.of_heap (w' := w.forCall tape i) (by rfl) hw
  refine (contract (w.forCall tape i) w.heap.size i.args ds gs before hval hw' hc (hz.weights hw) (hX _ _ _ (by rfl) hx) hsh hholds).mono fun e W' ⟨v, he, hp⟩ => ?_
  subst he
  exact ChangeSpec.post_blind hp

/-- the library's variable holds some number -/
theorem Proofs.YtifjibgnjjiggaaGreatDoor.maxLen_of {W : World} (h : W.ShapedOpen Tryz.prog) : ∃ m, W.cell? ⟨1, 0, none⟩ = some (.int .i64 m) :=
  Go.Proofs.cell_of_shapedOpen_int (zero := #[.int .i64 0]) (t := 3) h (of_decide_eq_true (by kernel_rfl)) (by kernel_rfl) rfl (by kernel_rfl) (by kernel_rfl) Tryz.underlying3

end Go
end

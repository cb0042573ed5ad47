/- Texts of one walk, merged: XVW XVY XOw XVa XVc XVb. -/
import Derived.Test.YtifjibgnjjiggaaDoorWf
import Derived.Deep.Slices
import Derived.Deep.Fields
import Derived.ChangeArms
import Derived.ChangeOld
import Derived.WideShapes
import Derived.SizedLaws
import Derived.BigRegion

/- envelope.Text: the walk. -/
set_option linter.unusedVariables false
set_option linter.unusedSimpArgs false
section
set_option linter.unusedVariables false
set_option linter.unusedSimpArgs false
namespace Go.Proofs.YtifjibgnjjiggaaDoor
open Go.RowKit Go

theorem strs_lit (w : World) (ls : List (List UInt8)) : StrsAt (w.alloc (.cells ((ls.map fun l => .string (bs l)).toArray) 9)) (.slice (some ⟨w.heap.size, 0, none⟩) ls.length ls.length) ls := by
  refine .inr ⟨w.heap.size, 0, ls.length, rfl, Nat.le_refl _, by simp, fun j hj => ?_⟩
  rw [Nat.zero_add]
  simp [hj, List.getD]
theorem cell_lit1 (w : World) (x : List UInt8) : ∀ (k : Nat) (y : List UInt8), [x][k]? = some y → (w.alloc (.cells #[.string (bs x)] 9)).cell? ⟨w.heap.size, k, none⟩ = some (.string (bs y)) := by
  intro k y h
  match k, h with
  | 0, h => obtain rfl : x = y := by simpa using h
            simp
  | n + 1, h => simp at h
theorem cell_lit2 (w : World) (x z : List UInt8) : ∀ (k : Nat) (y : List UInt8), [x, z][k]? = some y → (w.alloc (.cells #[.string (bs x), .string (bs z)] 9)).cell? ⟨w.heap.size, k, none⟩ = some (.string (bs y)) := by
  intro k y h
  match k, h with
  | 0, h => obtain rfl : x = y := by simpa using h
            simp
  | 1, h => obtain rfl : z = y := by simpa using h
            simp
  | n + 2, h => simp at h

theorem valT_len {fs : List Fla} (h : ShortA2 1000000 fs) (nm : List UInt8) : (valT (getFn fs) nm).length ≤ 3000000 := by
  unfold valT
  split
  · simp [nilL]
  · rename_i v hv
    have h1 := getFn_short h hv
    have := qtL_len v (by omega)
    omega
theorem flat_len {l : List Adr} {n : Nat} (h : ∀ a ∈ l, (adrT a).length ≤ n) : (l.map adrT).flatten.length ≤ l.length * n := by
  induction l with
  | nil => simp
  | cons a r ih =>
    have h1 := h a (by simp)
    have h2 := ih (fun b hb => h b (List.mem_cons_of_mem _ hb))
    simp only [List.map_cons, List.flatten_cons, List.length_append, List.length_cons, Nat.add_mul]
    omega
theorem listT_len (v : List UInt8) (h : v.length ≤ 1000000) : (listT (adrsL v)).length ≤ 400000000 := by
  have h1 := adrsL_few v
  have h2 := adrsL_short v
  have h3 := flat_len (l := adrsL v) (n := 7000000) (fun a ha => adrT_len ⟨Nat.le_trans (h2 a ha).1 h, Nat.le_trans (h2 a ha).2.1 h, Nat.le_trans (h2 a ha).2.2 h⟩)
  unfold listT
  split
  · simp [nilL]
  · simp only [List.length_append, List.length_cons, List.length_nil]
    omega
theorem adrOf_len {fs : List Fla} (h : ShortA2 1000000 fs) (nm : List UInt8) : (listT (adrOf (getFn fs) nm)).length ≤ 400000000 := by
  unfold adrOf
  refine listT_len _ ?_
  cases hv : getFn fs nm with
  | none => simp
  | some v => exact getFn_short h hv
theorem addrs_len {fs : List Fla} (h : ShortA2 1000000 fs) : ∀ ns : List (List UInt8), (addrsGo (getFn fs) ns).length ≤ 400000000
  | [] => by simp [addrsGo, nilL]
  | nm :: r => by
    unfold addrsGo
    split
    · exact addrs_len h r
    · exact adrOf_len h nm

theorem text2_one (x : List UInt8) (g : Nat) (fs : List Fla) (m : Int) (w : World) (h : EnvAt w g fs m) (hl : fs.length ≤ 1000) (hs : ShortA2 1000000 fs) (hn : x.length ≤ 1000) :
    Calls Tryd.prog 24 #[.slice (some ⟨w.heap.size, 0, none⟩) 1 1, .pointer (some ⟨g, 0, none⟩)] (w.alloc (.cells #[.string (bs x)] 9)) fun e w' => e = .returned (.string (bs (addrsGo (getFn fs) [x]))) ∧ Below w.heap.size w w' := by
  have hb := (Below.refl _ w).alloc (Nat.le_refl _) (.cells #[.string (bs x)] 9)
  exact (text2_any [x] w.heap.size 1 g fs m _ (h.below hb) hl hs (by simpa using hn) (by simp) (by simp) (cell_lit1 w x)).mono fun e w' ⟨he, hw⟩ => ⟨he, hb.trans (hw.mono hb.size)⟩
theorem text2_two (x z : List UInt8) (g : Nat) (fs : List Fla) (m : Int) (w : World) (h : EnvAt w g fs m) (hl : fs.length ≤ 1000) (hs : ShortA2 1000000 fs) (hn : x.length ≤ 1000) (hz : z.length ≤ 1000) :
    Calls Tryd.prog 24 #[.slice (some ⟨w.heap.size, 0, none⟩) 2 2, .pointer (some ⟨g, 0, none⟩)] (w.alloc (.cells #[.string (bs x), .string (bs z)] 9)) fun e w' => e = .returned (.string (bs (addrsGo (getFn fs) [x, z]))) ∧ Below w.heap.size w w' := by
  have hb := (Below.refl _ w).alloc (Nat.le_refl _) (.cells #[.string (bs x), .string (bs z)] 9)
  exact (text2_any [x, z] w.heap.size 2 g fs m _ (h.below hb) hl hs (by simp; omega) (by simp) (by simp) (cell_lit2 w x z)).mono fun e w' ⟨he, hw⟩ => ⟨he, hb.trans (hw.mono hb.size)⟩

theorem shortA_fla {n : Nat} {fs : List Fld} (h : ShortF n fs) {k : Nat} (hk : n ≤ k) : ShortA2 k (fs.map flaOf) := by
  intro f hf
  obtain ⟨x, hx, rfl⟩ := List.mem_map.1 hf
  exact ⟨Nat.le_trans (h x hx).1 hk, Nat.le_trans (h x hx).2 hk⟩

set_option maxRecDepth 100000 in
set_option maxHeartbeats 4000000 in
theorem envText_any (msg : List UInt8) (m : Int) (a : Addr) (w : World) (hl : msg.length ≤ 1000000) (hm : w.cell? ⟨1, 0, none⟩ = some (.int .i64 m)) (hT : TabQ w) (hE : w.cell? ⟨0, 0, none⟩ = some (errV a)) :
    Calls Tryd.prog 11 #[.string (bs msg)] w fun e w' => e = .returned (.string (bs (envT (getFn ((flds200 msg).map flaOf))))) ∧ Below w.heap.size w w' := by
  have hmf : ∀ (fn : Fn) (first cap : Array Value) (w : World), (Instr.makeFunc fn first cap).run Tryd.prog w = .ok (.func fn first cap) w := fun _ _ _ _ => rfl
  have hfew := flds200_few msg
  have hshort := shortA_fla (flds200_short msg) hl
  have hF : Calls Tryd.prog 21 #[.string (bs msg)] w fun e w' => ∃ sa sn sc x, e = .returned (.tuple #[.slice sa sn sc, x]) ∧ ((x = .nilIface ∧ ArgF w' (.slice sa sn sc) ((flds200 msg).map flaOf)) ∨ (x = errV a ∧ flds200 msg = [])) ∧ Below w.heap.size w w' := by
    by_cases h : (fieldsL msg).length ≤ 200
    · refine (fields_ok msg w (by omega) h).mono ?_
      rintro e w' ⟨v, rfl, ho, hb⟩
      have e0 : flds200 msg = fieldsL msg := if_neg (by omega)
      obtain ⟨sa, sn, sc, rfl, _⟩ := ho.form
      exact ⟨sa, sn, sc, _, rfl, .inl ⟨rfl, by rw [e0]; exact ho.arg⟩, hb⟩
    · refine (fields_full msg w a hE (by omega) (by omega)).mono ?_
      rintro e w' ⟨rfl, hb⟩
      exact ⟨none, 0, 0, _, rfl, .inr ⟨rfl, if_pos (by omega)⟩, hb⟩
  have HF := Lib.hid hF
  obtain ⟨F, hF0⟩ : ∃ F, flds200 msg = F := ⟨_, rfl⟩
  rw [hF0] at hfew hshort HF ⊢
  obtain ⟨G, hG⟩ : ∃ G, F.map flaOf = G := ⟨_, rfl⟩
  have hgl : G.length ≤ 1000 := by rw [← hG, List.length_map]; omega
  rw [hG] at hshort ⊢
  have HS := Lib.hid hshort
  have hF2 := HF.out
  rw [hG] at hF2
  clear HF
  have HF := Lib.hid hF2
  clear hF2
  have HG := Lib.hid hG
  have HM := Lib.hid hm
  have HT := Lib.hid hT
  clear hF hF0 hfew hshort hG hE hm hT
  go_enter Tryd.func11, Tryd.ntmps11
  go_wp2_with fail
  refine HF.out.mono ?_
  rintro e w1 ⟨sa, sn, sc, x, rfl, hx, hb1⟩
  clear HF
  have hz1 := hb1.size
  have hE1 : ∀ (sa : Option Addr) (sn sc : Nat), ArgF w1 (.slice sa sn sc) G → EnvAt (w1.alloc (.cells #[.slice sa sn sc] 46)) w1.heap.size G m ∧ Below w.heap.size w (w1.alloc (.cells #[.slice sa sn sc] 46)) := by
    intro sa sn sc h
    have hb := (Below.refl _ w1).alloc (Nat.le_refl _) (.cells #[.slice sa sn sc] 46)
    refine ⟨⟨⟨.slice sa sn sc, by simp, h.below hb⟩, ?_, ?_⟩, hb1.trans (hb.mono hz1)⟩
    · exact (hb.cell (p := ⟨1, 0, none⟩) (cell_lt ((hb1.cell (p := ⟨1, 0, none⟩) (cell_lt HM.out)).trans HM.out))).trans ((hb1.cell (p := ⟨1, 0, none⟩) (cell_lt HM.out)).trans HM.out)
    · exact TabQ.below (TabQ.below HT.out hb1) hb
  have HE1 := Lib.hid hE1
  have henv : envT (getFn G) = [40] ++ joinSp [valT (getFn G) nDate, valT (getFn G) nSubject, addrsGo (getFn G) [nFrom], addrsGo (getFn G) [nSender, nFrom], addrsGo (getFn G) [nReply, nFrom], addrsGo (getFn G) [nTo], addrsGo (getFn G) [nCc], addrsGo (getFn G) [nBcc], valT (getFn G) nInReply, valT (getFn G) nMsgId] ++ [41] := by simp only [addrsGo_one, addrsGo_two]; rfl
  have HENV := Lib.hid henv
  clear hE1 henv hb1 hz1
  rcases hx with ⟨rfl, ha⟩ | ⟨rfl, h0⟩
  · obtain ⟨hE0, hB0⟩ := HE1.out _ _ _ ha
    have HE0 := Lib.hid hE0
    clear hE0 ha HE1
    go_wp2_with fail
    obtain ⟨W0, hW0⟩ : ∃ W0, w1.alloc (.cells #[.slice sa sn sc] 46) = W0 := ⟨_, rfl⟩
    rw [hW0] at HE0 hB0 ⊢
    clear hW0
    refine (text1_any nDate _ G m _ HE0.out hgl HS.out (by decide)).mono ?_
    rintro e w2 ⟨rfl, hb2⟩
    have HE1 := Lib.hid (HE0.out.below hb2)
    have hB1 := hB0.trans (hb2.mono hB0.size)
    clear HE0 hB0 hb2
    go_wp2_with fail
    refine (text1_any nSubject _ G m _ HE1.out hgl HS.out (by decide)).mono ?_
    rintro e w3 ⟨rfl, hb3⟩
    have HE2 := Lib.hid (HE1.out.below hb3)
    have hB2 := hB1.trans (hb3.mono hB1.size)
    clear HE1 hB1 hb3
    go_wp2_with fail
    refine (text2_one nFrom _ G m _ HE2.out hgl HS.out (by decide)).mono ?_
    rintro e w4 ⟨rfl, hb4⟩
    have HE3 := Lib.hid (HE2.out.below hb4)
    have hB3 := hB2.trans (hb4.mono hB2.size)
    clear HE2 hB2 hb4
    go_wp2_with fail
    refine (text2_two nSender nFrom _ G m _ HE3.out hgl HS.out (by decide) (by decide)).mono ?_
    rintro e w5 ⟨rfl, hb5⟩
    have HE4 := Lib.hid (HE3.out.below hb5)
    have hB4 := hB3.trans (hb5.mono hB3.size)
    clear HE3 hB3 hb5
    go_wp2_with fail
    refine (text2_two nReply nFrom _ G m _ HE4.out hgl HS.out (by decide) (by decide)).mono ?_
    rintro e w6 ⟨rfl, hb6⟩
    have HE5 := Lib.hid (HE4.out.below hb6)
    have hB5 := hB4.trans (hb6.mono hB4.size)
    clear HE4 hB4 hb6
    go_wp2_with fail
    refine (text2_one nTo _ G m _ HE5.out hgl HS.out (by decide)).mono ?_
    rintro e w7 ⟨rfl, hb7⟩
    have HE6 := Lib.hid (HE5.out.below hb7)
    have hB6 := hB5.trans (hb7.mono hB5.size)
    clear HE5 hB5 hb7
    go_wp2_with fail
    refine (text2_one nCc _ G m _ HE6.out hgl HS.out (by decide)).mono ?_
    rintro e w8 ⟨rfl, hb8⟩
    have HE7 := Lib.hid (HE6.out.below hb8)
    have hB7 := hB6.trans (hb8.mono hB6.size)
    clear HE6 hB6 hb8
    go_wp2_with fail
    refine (text2_one nBcc _ G m _ HE7.out hgl HS.out (by decide)).mono ?_
    rintro e w9 ⟨rfl, hb9⟩
    have HE8 := Lib.hid (HE7.out.below hb9)
    have hB8 := hB7.trans (hb9.mono hB7.size)
    clear HE7 hB7 hb9
    go_wp2_with fail
    refine (text1_any nInReply _ G m _ HE8.out hgl HS.out (by decide)).mono ?_
    rintro e w10 ⟨rfl, hb10⟩
    have HE9 := Lib.hid (HE8.out.below hb10)
    have hB9 := hB8.trans (hb10.mono hB8.size)
    clear HE8 hB8 hb10
    go_wp2_with fail
    refine (text1_any nMsgId _ G m _ HE9.out hgl HS.out (by decide)).mono ?_
    rintro e w11 ⟨rfl, hb11⟩
    have HE10 := Lib.hid (HE9.out.below hb11)
    have hB10 := hB9.trans (hb11.mono hB9.size)
    clear HE9 hB9 hb11
    go_wp2_with fail
    have hJ : (joinSp [valT (getFn G) nDate, valT (getFn G) nSubject, addrsGo (getFn G) [nFrom], addrsGo (getFn G) [nSender, nFrom], addrsGo (getFn G) [nReply, nFrom], addrsGo (getFn G) [nTo], addrsGo (getFn G) [nCc], addrsGo (getFn G) [nBcc], valT (getFn G) nInReply, valT (getFn G) nMsgId]).length ≤ 9000000000 := by
      have hj := joinSp_len [valT (getFn G) nDate, valT (getFn G) nSubject, addrsGo (getFn G) [nFrom], addrsGo (getFn G) [nSender, nFrom], addrsGo (getFn G) [nReply, nFrom], addrsGo (getFn G) [nTo], addrsGo (getFn G) [nCc], addrsGo (getFn G) [nBcc], valT (getFn G) nInReply, valT (getFn G) nMsgId]
      have a0 := valT_len HS.out nDate
      have a1 := valT_len HS.out nSubject
      have a2 := addrs_len HS.out [nFrom]
      have a3 := addrs_len HS.out [nSender, nFrom]
      have a4 := addrs_len HS.out [nReply, nFrom]
      have a5 := addrs_len HS.out [nTo]
      have a6 := addrs_len HS.out [nCc]
      have a7 := addrs_len HS.out [nBcc]
      have a8 := valT_len HS.out nInReply
      have a9 := valT_len HS.out nMsgId
      simp only [List.flatten_cons, List.flatten_nil, List.length_append, List.length_nil, List.length_cons] at hj
      omega
    refine (joinBl_any _ _ [valT (getFn G) nDate, valT (getFn G) nSubject, addrsGo (getFn G) [nFrom], addrsGo (getFn G) [nSender, nFrom], addrsGo (getFn G) [nReply, nFrom], addrsGo (getFn G) [nTo], addrsGo (getFn G) [nCc], addrsGo (getFn G) [nBcc], valT (getFn G) nInReply, valT (getFn G) nMsgId] (strs_lit w11 [valT (getFn G) nDate, valT (getFn G) nSubject, addrsGo (getFn G) [nFrom], addrsGo (getFn G) [nSender, nFrom], addrsGo (getFn G) [nReply, nFrom], addrsGo (getFn G) [nTo], addrsGo (getFn G) [nCc], addrsGo (getFn G) [nBcc], valT (getFn G) nInReply, valT (getFn G) nMsgId]) (by simp) (by omega)).mono ?_
    rintro e w12 ⟨rfl, hb12⟩
    have hb13 := (Below.refl _ w11).alloc (Nat.le_refl _) (.cells (([valT (getFn G) nDate, valT (getFn G) nSubject, addrsGo (getFn G) [nFrom], addrsGo (getFn G) [nSender, nFrom], addrsGo (getFn G) [nReply, nFrom], addrsGo (getFn G) [nTo], addrsGo (getFn G) [nCc], addrsGo (getFn G) [nBcc], valT (getFn G) nInReply, valT (getFn G) nMsgId].map fun l => Value.string (bs l)).toArray) 9)
    have hB11 := hB10.trans ((hb13.trans (hb12.mono hb13.size)).mono hB10.size)
    clear hb12 hb13 hB10
    go_wp2
    go_ret
    exact ⟨by rw [HENV.out, bs_append, bs_append]; rfl, hB11⟩
  · have hG0 : G = [] := by rw [← HG.out, h0]; rfl
    obtain ⟨hE0, hB0⟩ := HE1.out none 0 0 (.inl ⟨_, _, rfl, hG0⟩)
    have HE0 := Lib.hid hE0
    clear hE0 HE1 hG0
    unfold errV
    go_wp2_with fail
    obtain ⟨W0, hW0⟩ : ∃ W0, w1.alloc (.cells #[.slice none 0 0] 46) = W0 := ⟨_, rfl⟩
    rw [hW0] at HE0 hB0 ⊢
    clear hW0
    refine (text1_any nDate _ G m _ HE0.out hgl HS.out (by decide)).mono ?_
    rintro e w2 ⟨rfl, hb2⟩
    have HE1 := Lib.hid (HE0.out.below hb2)
    have hB1 := hB0.trans (hb2.mono hB0.size)
    clear HE0 hB0 hb2
    go_wp2_with fail
    refine (text1_any nSubject _ G m _ HE1.out hgl HS.out (by decide)).mono ?_
    rintro e w3 ⟨rfl, hb3⟩
    have HE2 := Lib.hid (HE1.out.below hb3)
    have hB2 := hB1.trans (hb3.mono hB1.size)
    clear HE1 hB1 hb3
    go_wp2_with fail
    refine (text2_one nFrom _ G m _ HE2.out hgl HS.out (by decide)).mono ?_
    rintro e w4 ⟨rfl, hb4⟩
    have HE3 := Lib.hid (HE2.out.below hb4)
    have hB3 := hB2.trans (hb4.mono hB2.size)
    clear HE2 hB2 hb4
    go_wp2_with fail
    refine (text2_two nSender nFrom _ G m _ HE3.out hgl HS.out (by decide) (by decide)).mono ?_
    rintro e w5 ⟨rfl, hb5⟩
    have HE4 := Lib.hid (HE3.out.below hb5)
    have hB4 := hB3.trans (hb5.mono hB3.size)
    clear HE3 hB3 hb5
    go_wp2_with fail
    refine (text2_two nReply nFrom _ G m _ HE4.out hgl HS.out (by decide) (by decide)).mono ?_
    rintro e w6 ⟨rfl, hb6⟩
    have HE5 := Lib.hid (HE4.out.below hb6)
    have hB5 := hB4.trans (hb6.mono hB4.size)
    clear HE4 hB4 hb6
    go_wp2_with fail
    refine (text2_one nTo _ G m _ HE5.out hgl HS.out (by decide)).mono ?_
    rintro e w7 ⟨rfl, hb7⟩
    have HE6 := Lib.hid (HE5.out.below hb7)
    have hB6 := hB5.trans (hb7.mono hB5.size)
    clear HE5 hB5 hb7
    go_wp2_with fail
    refine (text2_one nCc _ G m _ HE6.out hgl HS.out (by decide)).mono ?_
    rintro e w8 ⟨rfl, hb8⟩
    have HE7 := Lib.hid (HE6.out.below hb8)
    have hB7 := hB6.trans (hb8.mono hB6.size)
    clear HE6 hB6 hb8
    go_wp2_with fail
    refine (text2_one nBcc _ G m _ HE7.out hgl HS.out (by decide)).mono ?_
    rintro e w9 ⟨rfl, hb9⟩
    have HE8 := Lib.hid (HE7.out.below hb9)
    have hB8 := hB7.trans (hb9.mono hB7.size)
    clear HE7 hB7 hb9
    go_wp2_with fail
    refine (text1_any nInReply _ G m _ HE8.out hgl HS.out (by decide)).mono ?_
    rintro e w10 ⟨rfl, hb10⟩
    have HE9 := Lib.hid (HE8.out.below hb10)
    have hB9 := hB8.trans (hb10.mono hB8.size)
    clear HE8 hB8 hb10
    go_wp2_with fail
    refine (text1_any nMsgId _ G m _ HE9.out hgl HS.out (by decide)).mono ?_
    rintro e w11 ⟨rfl, hb11⟩
    have HE10 := Lib.hid (HE9.out.below hb11)
    have hB10 := hB9.trans (hb11.mono hB9.size)
    clear HE9 hB9 hb11
    go_wp2_with fail
    have hJ : (joinSp [valT (getFn G) nDate, valT (getFn G) nSubject, addrsGo (getFn G) [nFrom], addrsGo (getFn G) [nSender, nFrom], addrsGo (getFn G) [nReply, nFrom], addrsGo (getFn G) [nTo], addrsGo (getFn G) [nCc], addrsGo (getFn G) [nBcc], valT (getFn G) nInReply, valT (getFn G) nMsgId]).length ≤ 9000000000 := by
      have hj := joinSp_len [valT (getFn G) nDate, valT (getFn G) nSubject, addrsGo (getFn G) [nFrom], addrsGo (getFn G) [nSender, nFrom], addrsGo (getFn G) [nReply, nFrom], addrsGo (getFn G) [nTo], addrsGo (getFn G) [nCc], addrsGo (getFn G) [nBcc], valT (getFn G) nInReply, valT (getFn G) nMsgId]
      have a0 := valT_len HS.out nDate
      have a1 := valT_len HS.out nSubject
      have a2 := addrs_len HS.out [nFrom]
      have a3 := addrs_len HS.out [nSender, nFrom]
      have a4 := addrs_len HS.out [nReply, nFrom]
      have a5 := addrs_len HS.out [nTo]
      have a6 := addrs_len HS.out [nCc]
      have a7 := addrs_len HS.out [nBcc]
      have a8 := valT_len HS.out nInReply
      have a9 := valT_len HS.out nMsgId
      simp only [List.flatten_cons, List.flatten_nil, List.length_append, List.length_nil, List.length_cons] at hj
      omega
    refine (joinBl_any _ _ [valT (getFn G) nDate, valT (getFn G) nSubject, addrsGo (getFn G) [nFrom], addrsGo (getFn G) [nSender, nFrom], addrsGo (getFn G) [nReply, nFrom], addrsGo (getFn G) [nTo], addrsGo (getFn G) [nCc], addrsGo (getFn G) [nBcc], valT (getFn G) nInReply, valT (getFn G) nMsgId] (strs_lit w11 [valT (getFn G) nDate, valT (getFn G) nSubject, addrsGo (getFn G) [nFrom], addrsGo (getFn G) [nSender, nFrom], addrsGo (getFn G) [nReply, nFrom], addrsGo (getFn G) [nTo], addrsGo (getFn G) [nCc], addrsGo (getFn G) [nBcc], valT (getFn G) nInReply, valT (getFn G) nMsgId]) (by simp) (by omega)).mono ?_
    rintro e w12 ⟨rfl, hb12⟩
    have hb13 := (Below.refl _ w11).alloc (Nat.le_refl _) (.cells (([valT (getFn G) nDate, valT (getFn G) nSubject, addrsGo (getFn G) [nFrom], addrsGo (getFn G) [nSender, nFrom], addrsGo (getFn G) [nReply, nFrom], addrsGo (getFn G) [nTo], addrsGo (getFn G) [nCc], addrsGo (getFn G) [nBcc], valT (getFn G) nInReply, valT (getFn G) nMsgId].map fun l => Value.string (bs l)).toArray) 9)
    have hB11 := hB10.trans ((hb13.trans (hb12.mono hb13.size)).mono hB10.size)
    clear hb12 hb13 hB10
    go_wp2
    go_ret
    exact ⟨by rw [HENV.out, bs_append, bs_append]; rfl, hB11⟩

end Go.Proofs.YtifjibgnjjiggaaDoor
end

/- envelope: alive; EnvelopeTexts, EnvelopeAddresses. -/
set_option linter.unusedVariables false
set_option linter.unusedSimpArgs false
section
namespace Go.Proofs.YtifjibgnjjiggaaDoor
open Go.RowKit Go

def exA : List UInt8 := [65, 110, 110, 32, 60, 97, 64, 98, 62, 44, 32, 99, 64, 100]
theorem exA_adrs : adrsL exA = [⟨[65, 110, 110], [97], [98]⟩, ⟨[], [99], [100]⟩] := by rfl
theorem ex_env : envT (getFn ((flds200 []).map flaOf)) = [40, 78, 73, 76, 32, 78, 73, 76, 32, 78, 73, 76, 32, 78, 73, 76, 32, 78, 73, 76, 32, 78, 73, 76, 32, 78, 73, 76, 32, 78, 73, 76, 32, 78, 73, 76, 32, 78, 73, 76, 41] := by rfl

set_option maxRecDepth 100000 in
set_option maxHeartbeats 2000000 in
theorem envAlive_any (m : Int) (a : Addr) (w : World) (hm : w.cell? ⟨1, 0, none⟩ = some (.int .i64 m)) (hT : TabQ w) (hE : w.cell? ⟨0, 0, none⟩ = some (errV a)) :
    Calls Tryd.prog 6 #[] w fun e w' => e = .returned (.bool true) ∧ Below w.heap.size w w' := by
  have HX := Lib.hid exA_adrs
  have HV := Lib.hid ex_env
  have HM := Lib.hid hm
  have HT := Lib.hid hT
  have HE := Lib.hid hE
  clear hm hT hE
  go_enter Tryd.func6, Tryd.ntmps6
  go_wp2_with fail
  refine (addresses_any exA _ (by decide)).mono ?_
  rintro e w1 ⟨⟨x, rfl, hx⟩, hb1⟩
  rw [HX.out] at hx
  have hadr := hx.adrs
  obtain ⟨b, o, c, rfl, _, hg, hc⟩ := hadr.resolve_left (by rintro ⟨_, _, _, h⟩; cases h)
  obtain ⟨a0, a1, a2⟩ := hc 0 _ rfl
  obtain ⟨b0, b1, b2⟩ := hc 1 _ rfl
  simp only [Nat.zero_mul, Nat.add_zero, Nat.one_mul] at a0 a1 a2 b0 b1 b2
  have hm1 := (hb1.cell (p := ⟨1, 0, none⟩) (cell_lt HM.out)).trans HM.out
  have hE1 := (hb1.cell (p := ⟨0, 0, none⟩) (cell_lt HE.out)).trans HE.out
  have hT1 := TabQ.below HT.out hb1
  have HR0 := Lib.hid (envText_any [] m a w1 (by simp) hm1 hT1 hE1)
  clear hx hc hm1 hE1 hT1
  go_wp2_with fail
  refine HR0.out.mono ?_
  rintro e w2 ⟨rfl, hb2⟩
  rw [HV.out]
  go_wp2
  go_ret
  exact ⟨rfl, hb1.trans (hb2.mono hb1.size)⟩

/-- what envelope's laws ask of a world -/
structure EnvW (w : World) (m : Int) (a : Addr) : Prop where
  max : w.cell? ⟨1, 0, none⟩ = some (.int .i64 m)
  tab : TabQ w
  err : w.cell? ⟨0, 0, none⟩ = some (errV a)
theorem EnvW.below {w w' : World} {m : Int} {a : Addr} (h : EnvW w m a) (hb : Below w.heap.size w w') : EnvW w' m a :=
  ⟨(hb.cell (p := ⟨1, 0, none⟩) (cell_lt h.max)).trans h.max, TabQ.below h.tab hb, (hb.cell (p := ⟨0, 0, none⟩) (cell_lt h.err)).trans h.err⟩

end Go.Proofs.YtifjibgnjjiggaaDoor
end

/- A slice of addresses that came in. -/
set_option linter.unusedVariables false
set_option linter.unusedSimpArgs false
section
namespace Go.Proofs.YtifjibgnjjiggaaDoor
open Go.RowKit Go.Deep Go.WideShapes Go.ChangeShapes

section
variable {H : Type} {enc : TypeId × Value → H} {W : World}

theorem weightsAll_mem {e : TypeId} {d : DataW H} : ∀ {ds : List (DataW H)}, d ∈ ds → ∀ n ∈ d.weights Tryd.prog e, n ∈ DataW.weightsAll Tryd.prog e ds
  | [], h, _, _ => by cases h
  | d0 :: ds, h, n, hn => by
    rcases List.mem_cons.1 h with rfl | h
    · exact List.mem_append_left _ hn
    · exact List.mem_append_right _ (weightsAll_mem h n hn)

set_option maxRecDepth 100000 in
theorem open_sss {t : TypeId} {f0 f1 f2 : Field} {n : Nat} {cs : List Value} {x : DataW H × List MemPlace} (hs : Tryd.prog.underlying t = some (.struct #[f0, f1, f2])) (hone : oneCellFields Tryd.prog #[f0, f1, f2] = true) (hC : Tryd.prog.cellsOf t = 3)
    (t0 : f0.type = 9) (t1 : f1.type = 9) (t2 : f2.type = 9) (h : DataW.trod enc Tryd.prog W 0 (fun _ => true) true n t cs = some x) :
    ∃ a : Adr, cs = cellsAdr a ∧ ∀ M, (∀ z ∈ x.1.weights Tryd.prog t, z ≤ M) → ShortN M a := by
  obtain ⟨xs, m, _, hx, hl, hlen, hf⟩ := DataW.trod_struct hs h
  rw [hC] at hl
  match cs, hl, xs, hlen with
  | [c0, c1, c2], _, [y0, y1, y2], _ =>
    obtain ⟨o0, k0⟩ := hone_of hone 0 f0 rfl
    obtain ⟨o1, k1⟩ := hone_of hone 1 f1 rfl
    obtain ⟨o2, k2⟩ := hone_of hone 2 f2 rfl
    have h0 := hf 0 f0 rfl
    have h1 := hf 1 f1 rfl
    have h2 := hf 2 f2 rfl
    rw [o0, k0, t0] at h0
    rw [o1, k1, t1] at h1
    rw [o2, k2, t2] at h2
    obtain ⟨s0, e0, d0, z0⟩ := DataW.trod_string Tryd.underlying9 h0
    obtain ⟨s1, e1, d1, z1⟩ := DataW.trod_string Tryd.underlying9 h1
    obtain ⟨s2, e2, d2, z2⟩ := DataW.trod_string Tryd.underlying9 h2
    simp at e0 e1 e2
    subst e0 e1 e2 d0 d1 d2
    refine ⟨⟨s0.data.toList, s1.data.toList, s2.data.toList⟩, by simp [cellsAdr, ba_data], fun M hM => ?_⟩
    have hw : ∀ z ∈ DataW.weightsEach Tryd.prog [f0.type, f1.type, f2.type] [DataW.lit (H := H) (.string s0.data.toList), .lit (.string s1.data.toList), .lit (.string s2.data.toList)], z ≤ M := fun z hz => hM z (by
      rw [hx]
      unfold DataW.weights
      rw [hs]
      exact hz)
    rw [t0, t1, t2] at hw
    refine ⟨hw _ (List.mem_append_left _ (List.mem_singleton.2 rfl)), hw _ (List.mem_append_right _ (List.mem_append_left _ (List.mem_singleton.2 rfl))), hw _ (List.mem_append_right _ (List.mem_append_right _ (List.mem_append_left _ (List.mem_singleton.2 rfl))))⟩
set_option maxRecDepth 100000 in
theorem open_adr {n : Nat} {cs : List Value} {x : DataW H × List MemPlace} (h : DataW.trod enc Tryd.prog W 0 (fun _ => true) true n 25 cs = some x) :
    ∃ a : Adr, cs = cellsAdr a ∧ ∀ M, (∀ z ∈ x.1.weights Tryd.prog 25, z ≤ M) → ShortN M a :=
  open_sss Tryd.underlying25 (by kernel_rfl) (by kernel_rfl) rfl rfl rfl h

set_option maxRecDepth 100000 in
theorem arg_adrs {t : TypeId} (ht : Tryd.prog.underlying t = some (.slice 25)) {a0 : Option Addr} {len cap : Nat} {d : DataW H} {p : List MemPlace}
    (h0 : DataW.Trod enc Tryd.prog W 0 (fun _ => true) true t (.slice a0 len cap) d p) : ∃ l, AdrsAt W (.slice a0 len cap) l ∧ (∀ M, (∀ z ∈ d.weights Tryd.prog t, z ≤ M) → ∀ a ∈ l, ShortN M a) ∧ l.length ≤ maxLen := by
  obtain ⟨fuel, hf⟩ := h0
  have hlt := DataW.trod_lt _ _ _ _ hf
  have hC : Tryd.prog.cellsOf 25 = 3 := by kernel_rfl
  rcases open_slice ht hf with ⟨hcs, hx⟩ | ⟨a, len', cap', m, n, D, Pl, hcs, _, hl, hm, hmm, hx, hel⟩
  · simp [Value.cells] at hcs
    obtain ⟨rfl, rfl, rfl⟩ := hcs
    exact ⟨[], .inl ⟨_, _, rfl, rfl⟩, by simp, by simp⟩
  · simp [Value.cells] at hcs
    obtain ⟨rfl, rfl, rfl⟩ := hcs
    simp only [Prod.mk.injEq] at hx
    obtain ⟨rfl, rfl⟩ := hx
    simp only [if_true] at hmm
    subst hmm
    rw [hC] at hel
    by_cases h1 : len = 0
    · subst h1
      exact ⟨[], .inl ⟨_, _, rfl, rfl⟩, by simp, by simp⟩
    · have key : ∀ i, i < m → ∃ f : Adr, W.cells? 0 (a.add (i * 3)) 3 = some (cellsAdr f) ∧ ∀ M, (∀ z ∈ (D i).weights Tryd.prog 25, z ≤ M) → ShortN M f := fun i hi => by
        obtain ⟨cs', h1, h2⟩ := hel i hi
        obtain ⟨f, rfl, h3⟩ := open_adr h2
        exact ⟨f, h1, h3⟩
      haveI : Inhabited Adr := ⟨⟨[], [], []⟩⟩
      obtain ⟨F, hF⟩ := choose_lt key
      obtain ⟨b, off, spot⟩ := a
      have hcell0 := (World.cells?_some (hF 0 (by omega)).1).2.2 0 (by decide)
      have hspot : spot = none := by simpa [Addr.add] using World.cell?_spot hcell0
      subst hspot
      have hlen : ((List.range len).map F).length = len := by simp
      refine ⟨(List.range len).map F, .inr ⟨b, off, m, by rw [hlen], by intro e; rw [e] at hlen; simp at hlen; omega, ?_, fun j f hj => ?_⟩, ?_, by rw [hlen]; omega⟩
      · exact hlt (.cell b off) (List.mem_append_left _ (MemPlace.mem_row.2 ⟨0, by rw [hC]; omega, by simp⟩))
      · obtain ⟨hj1, hj2⟩ := List.getElem?_eq_some_iff.1 hj
        rw [hlen] at hj1
        simp only [List.getElem_map, List.getElem_range] at hj2
        subst hj2
        have hat := (World.cells?_some (hF j (by omega)).1).2.2
        have q0 := hat 0 (by decide)
        have q1 := hat 1 (by decide)
        have q2 := hat 2 (by decide)
        rw [add_add, add_plain] at q0 q1 q2
        exact ⟨q0, q1, q2⟩
      · intro M hM op hop
        obtain ⟨j, hj, rfl⟩ := List.mem_map.1 hop
        have hjl := List.mem_range.1 hj
        refine (hF j (by omega)).2 M fun z hz => hM z ?_
        unfold DataW.weights
        rw [ht]
        exact List.mem_cons_of_mem _ (List.mem_append_left _ (weightsAll_mem (List.mem_map.2 ⟨j, hj, rfl⟩) z hz))
theorem adrs_sized {ts : List TypeId} {ds : List (DataW H)} {t : TypeId} {d : DataW H} {l : List Adr} (h : (DataW.weightsEach Tryd.prog ts ds).all (· ≤ reachBytes) = true) (j : Nat) (ht : ts[j]? = some t) (hd : ds[j]? = some d) (g : ∀ M, (∀ z ∈ d.weights Tryd.prog t, z ≤ M) → ∀ a ∈ l, ShortN M a) : ∀ a ∈ l, ShortN 140737488351232 a :=
  g _ fun z hz => by
    have := List.all_eq_true.1 h _ (DataW.weights_mem_each ht hd z hz)
    exact Nat.le_trans (of_decide_eq_true this) (by decide)
end

end Go.Proofs.YtifjibgnjjiggaaDoor
end

/- EnvelopeLists: the law. -/
set_option linter.unusedVariables false
set_option linter.unusedSimpArgs false
section
namespace Go.Proofs.YtifjibgnjjiggaaDoor
open Go.RowKit Go

set_option maxRecDepth 100000 in
set_option maxHeartbeats 2000000 in
theorem envelopeLists_list (v : Value) (l : List Adr) (m : Int) (a : Addr) (w : World) (h : EnvW w m a) (hv : AdrsAt w v l) (hn : ∀ x ∈ l, ShortN 140737488351232 x) : Calls Tryd.prog 3 #[v] w fun e w' => e = .returned (.bool true) ∧ Below w.heap.size w w' := by
  have H := Lib.hid h
  have HV := Lib.hid hv
  have HN := Lib.hid hn
  clear h hv hn
  go_enter Tryd.func3, Tryd.ntmps3
  go_wp2_with fail
  refine (envAlive_any m a _ H.out.max H.out.tab H.out.err).mono ?_
  rintro e w1 ⟨rfl, hb1⟩
  have H1 := Lib.hid (H.out.below hb1)
  have hv1 := HV.out.below hb1
  have HV1 := Lib.hid hv1
  have hz1 := hb1.size
  rcases hv1 with ⟨a0, ca, rfl, rfl⟩ | ⟨b, o, ca, rfl, hne, hg, hc⟩
  · have HL := Lib.hid (list_any _ [] m w1 H1.out.max H1.out.tab HV1.out (by simp) (by intro x hx; cases hx))
    have HR := Lib.hid (fun u (hu : Below w1.heap.size w1 u) => refList_any _ [] u (HV1.out.below hu) (by simp) (by intro x hx; cases hx))
    clear HV HV1
    go_wp2
    go_loopw [10] (fun i wr => i = .int .i64 0 ∧ wr = w1) (fun _ _ => 0)
    case atStart => exact ⟨rfl, rfl⟩
    case round =>
      obtain ⟨rfl, rfl⟩ := hrel
      go_wp2_with fail
      refine HL.out.mono ?_
      rintro e w2 ⟨rfl, hb2⟩
      have HR2 := Lib.hid (HR.out w2 hb2)
      clear HR HL
      go_wp2_with fail
      refine HR2.out.mono ?_
      rintro e w3 ⟨rfl, hb3⟩
      go_wp2
      go_ret
      exact ⟨rfl, hb1.trans ((hb2.trans (hb3.mono hb2.size)).mono hz1)⟩
  · have HC := Lib.hid hc
    clear hc HV hne
    go_wp2
    go_loopw [3, 10] (fun n i wr => ∃ (k N : Nat), k ≤ l.length ∧ i = .int .i64 k ∧ n = .int .i64 N ∧ k ≤ N ∧ N ≤ 10000 ∧ Hid (∀ x ∈ l.take k, ShortN N x) ∧ Below w1.heap.size w1 wr) (fun _ i _ => l.length - (intOf i).toNat)
    case atStart => exact ⟨0, 0, Nat.zero_le _, rfl, rfl, Nat.le_refl _, Nat.zero_le _, by show ∀ x ∈ _, _; simp, Below.refl _ _⟩
    case round =>
      obtain ⟨k, N, hk, rfl, rfl, hkN, hN, hs, hB⟩ := hrel
      have hzr := hB.size
      by_cases hlt : k < l.length
      · obtain ⟨f, hf⟩ : ∃ f, l[k]? = some f := ⟨_, List.getElem?_eq_getElem hlt⟩
        obtain ⟨a0, a1, a2⟩ := HC.out k f hf
        have a0 := (hB.cell (p := ⟨b, o + k * 3, none⟩) hg).trans a0
        have a1 := (hB.cell (p := ⟨b, o + k * 3 + 1, none⟩) hg).trans a1
        have a2 := (hB.cell (p := ⟨b, o + k * 3 + 2, none⟩) hg).trans a2
        obtain ⟨s1, s2, s3⟩ := HN.out f (List.mem_of_getElem? hf)
        have hlt' : (k : Int) < l.length := by omega
        have htk : l.take (k + 1) = l.take k ++ [f] := by rw [List.take_add_one, hf]; rfl
        have HTK := Lib.hid htk
        clear hf htk
        by_cases hb : N + (1 + f.name.length + f.loc.length + f.dom.length) ≤ 10000
        · have hb2 : (N : Int) + (1 + f.name.length + f.loc.length + f.dom.length) ≤ 10000 := by omega
          have hs2 : Hid (∀ x ∈ l.take (k + 1), ShortN (N + (1 + f.name.length + f.loc.length + f.dom.length)) x) := by
            show ∀ x ∈ _, _
            rw [HTK.out]
            intro x hx
            rcases List.mem_append.1 hx with hx | hx
            · obtain ⟨t1, t2, t3⟩ := hs.out x hx
              exact ⟨by omega, by omega, by omega⟩
            · obtain rfl : x = f := by simpa using hx
              exact ⟨by omega, by omega, by omega⟩
          clear HTK hs
          go_wp2
          go_roundw
          case rel => exact ⟨k + 1, N + (1 + f.name.length + f.loc.length + f.dom.length), by omega, by go_num, by first | go_num | (congr 1; omega), by omega, by omega, hs2, hB.alloc hzr _⟩
          case measure => simp [intOf]; omega
        · have hb2 : (10000 : Int) < N + (1 + f.name.length + f.loc.length + f.dom.length) := by omega
          clear HTK hs
          go_wp2
          go_ret
          exact ⟨rfl, hb1.trans ((hB.alloc hzr _).mono hz1)⟩
      · obtain rfl : k = l.length := by omega
        have hs2 := hs.out
        rw [List.take_length] at hs2
        have hsa : ShortA l := fun x hx => ⟨Nat.le_trans (hs2 x hx).1 (by omega), Nat.le_trans (hs2 x hx).2.1 (by omega), Nat.le_trans (hs2 x hx).2.2 (by omega)⟩
        have H2 := H1.out.below hB
        have HL := Lib.hid (list_any _ l m wr H2.max H2.tab (HV1.out.below hB) (by omega) hsa)
        have HR := Lib.hid (fun u (hu : Below wr.heap.size wr u) => refList_any _ l u ((HV1.out.below hB).below hu) (by omega) hsa)
        clear H2 hs hs2 hsa HV1
        go_wp2_with fail
        refine HL.out.mono ?_
        rintro e w2 ⟨rfl, hb2⟩
        have HR2 := Lib.hid (HR.out w2 hb2)
        clear HR HL
        go_wp2_with fail
        refine HR2.out.mono ?_
        rintro e w3 ⟨rfl, hb3⟩
        go_wp2
        go_ret
        exact ⟨rfl, hb1.trans ((hB.trans ((hb2.trans (hb3.mono hb2.size)).mono hzr)).mono hz1)⟩

theorem envelopeLists_any (v : Value) (l : List Adr) (w : World) (hv : AdrsAt w v l) (hn : ∀ x ∈ l, ShortN 140737488351232 x) (a : Addr) (hE : w.cell? ⟨0, 0, none⟩ = some (errV a)) (hT : TabQ w) (m : Int) (hm : w.cell? ⟨1, 0, none⟩ = some (.int .i64 m)) :
    Calls Tryd.prog 3 #[v] w fun e w' => e = .returned (.bool true) ∧ Below w.heap.size w w' :=
  envelopeLists_list v l m a w ⟨hm, hT, hE⟩ hv hn

end Go.Proofs.YtifjibgnjjiggaaDoor
end

/- EnvelopeSubjects: the law. -/
set_option linter.unusedVariables false
set_option linter.unusedSimpArgs false
section
namespace Go.Proofs.YtifjibgnjjiggaaDoor
open Go.RowKit Go

theorem subj_env (s : List UInt8) (h10 : (10 : UInt8) ∉ s) (he : edgeB s = true) : envT (getFn ((flds200 (subjT s)).map flaOf)) = [40] ++ nilL ++ [32] ++ qtL s ++ [32] ++ nilL ++ [32] ++ nilL ++ [32] ++ nilL ++ [32] ++ nilL ++ [32] ++ nilL ++ [32] ++ nilL ++ [32] ++ nilL ++ [32] ++ nilL ++ [41] := by
  obtain ⟨q, hq⟩ := subj_fields s h10 he
  have hf : flds200 (subjT s) = [⟨nSubject, s, 0, q⟩] := by
    unfold flds200
    rw [hq]
    rfl
  rw [hf]
  refine env_subject s _ rfl ?_
  intro nm hm
  simp only [List.mem_cons, List.not_mem_nil, or_false] at hm
  rcases hm with rfl | rfl | rfl | rfl | rfl | rfl | rfl | rfl | rfl <;> rfl
theorem subj_sum (s : List UInt8) : ({ data := #[83, 117, 98, 106, 101, 99, 116, 58, 32] } : ByteArray) ++ bs s ++ { data := #[13, 10, 13, 10, 98, 111, 100, 121] } = bs (subjT s) := by
  unfold subjT
  simp only [bs_append]
  rfl
theorem quot_list (q : List UInt8) : ([40, 78, 73, 76, 32] : List UInt8) ++ q ++ [32, 78, 73, 76, 32, 78, 73, 76, 32, 78, 73, 76, 32, 78, 73, 76, 32, 78, 73, 76, 32, 78, 73, 76, 32, 78, 73, 76, 32, 78, 73, 76, 41] = [40] ++ nilL ++ [32] ++ q ++ [32] ++ nilL ++ [32] ++ nilL ++ [32] ++ nilL ++ [32] ++ nilL ++ [32] ++ nilL ++ [32] ++ nilL ++ [32] ++ nilL ++ [32] ++ nilL ++ [41] := by
  simp only [nilL, List.append_assoc, List.cons_append, List.nil_append]
theorem quot_sum (q : List UInt8) : ({ data := #[40, 78, 73, 76, 32] } : ByteArray) ++ bs q ++ { data := #[32, 78, 73, 76, 32, 78, 73, 76, 32, 78, 73, 76, 32, 78, 73, 76, 32, 78, 73, 76, 32, 78, 73, 76, 32, 78, 73, 76, 32, 78, 73, 76, 41] } = bs ([40] ++ nilL ++ [32] ++ q ++ [32] ++ nilL ++ [32] ++ nilL ++ [32] ++ nilL ++ [32] ++ nilL ++ [32] ++ nilL ++ [32] ++ nilL ++ [32] ++ nilL ++ [32] ++ nilL ++ [41]) := by
  rw [← quot_list]
  simp only [bs_append]
theorem subj_len (s : List UInt8) : (subjT s).length = s.length + 17 := by simp [subjT, nSubject]

set_option maxRecDepth 100000 in
set_option maxHeartbeats 2000000 in
theorem envelopeSubjects_list (l : List UInt8) (m : Int) (a : Addr) (w : World) (h : EnvW w m a) : Calls Tryd.prog 5 #[.string (bs l)] w fun e w' => e = .returned (.bool true) ∧ Below w.heap.size w w' := by
  have H := Lib.hid h
  clear h
  go_enter Tryd.func5, Tryd.ntmps5
  go_wp2_with fail
  refine (envAlive_any m a _ H.out.max H.out.tab H.out.err).mono ?_
  rintro e w1 ⟨rfl, hb1⟩
  have H1 := Lib.hid (H.out.below hb1)
  by_cases hl : 2000 < l.length
  · have hl2 : (2000 : Int) < l.length := by omega
    go_wp2
    go_ret
    exact ⟨rfl, hb1⟩
  have hl2 : (l.length : Int) ≤ 2000 := by omega
  by_cases h0 : l.length = 0
  · have hl3 : (l.length : Int) < 1 := by omega
    clear h0
    go_wp2
    go_ret
    exact ⟨rfl, hb1⟩
  have hl3 : (1 : Int) ≤ l.length := by omega
  have hlp : 0 < l.length := by omega
  obtain ⟨c, hc⟩ : ∃ c, (bs l)[0]'(by rw [bs_size]; exact hlp) = c := ⟨_, rfl⟩
  obtain ⟨d, hd⟩ : ∃ d, (bs l)[l.length - 1]'(by rw [bs_size]; omega) = d := ⟨_, rfl⟩
  clear h0
  by_cases c32 : c = 32
  · subst c32
    go_wp2
    go_ret
    exact ⟨rfl, hb1⟩
  by_cases c9 : c = 9
  · subst c9
    go_wp2
    go_ret
    exact ⟨rfl, hb1⟩
  obtain ⟨n1, n2⟩ := chr_ne (d := 32) (n := 32) rfl c32
  obtain ⟨n3, n4⟩ := chr_ne (d := 9) (n := 9) rfl c9
  have HC := Lib.hid (And.intro c32 c9)
  clear c32 c9
  by_cases d32 : d = 32
  · subst d32
    go_wp2
    go_ret
    exact ⟨rfl, hb1⟩
  by_cases d9 : d = 9
  · subst d9
    go_wp2
    go_ret
    exact ⟨rfl, hb1⟩
  obtain ⟨m1, m2⟩ := chr_ne (d := 32) (n := 32) rfl d32
  obtain ⟨m3, m4⟩ := chr_ne (d := 9) (n := 9) rfl d9
  have he : edgeB l = true := by
    obtain ⟨h1, h2⟩ := HC.out
    unfold edgeB
    rw [List.head?_eq_getElem?, List.getLast?_eq_getElem?]
    have e1 : l[0]? = some c := List.getElem?_eq_some_iff.2 ⟨hlp, hc⟩
    have e2 : l[l.length - 1]? = some d := List.getElem?_eq_some_iff.2 ⟨by omega, hd⟩
    rw [e1, e2]
    simp [h1, h2, d32, d9]
  have HE := Lib.hid he
  clear d32 d9 HC he
  go_wp2
  go_loopw [42] (fun i wr => ∃ k : Nat, k ≤ l.length ∧ i = .int .i64 k ∧ Hid ((10 : UInt8) ∉ l.take k) ∧ wr = w1) (fun i _ => l.length - (intOf i).toNat)
  case atStart => exact ⟨0, Nat.zero_le _, rfl, by show _ ∉ _; simp, rfl⟩
  case round =>
    clear hc hd n1 n2 n3 n4 m1 m2 m3 m4
    obtain ⟨k, hk, rfl, hn, rfl⟩ := hrel
    by_cases hlt : k < l.length
    · obtain ⟨x, hx⟩ : ∃ x, (bs l)[k]'(by rw [bs_size]; exact hlt) = x := ⟨_, rfl⟩
      have hx' : l[k]? = some x := List.getElem?_eq_some_iff.2 ⟨hlt, hx⟩
      have hlt' : (k : Int) < l.length := by omega
      by_cases x10 : x = 10
      · subst x10
        clear hx'
        go_wp2
        go_ret
        exact ⟨rfl, hb1⟩
      by_cases x13 : x = 13
      · subst x13
        clear hx' x10
        go_wp2
        go_ret
        exact ⟨rfl, hb1⟩
      obtain ⟨p1, p2⟩ := chr_ne (d := 10) (n := 10) rfl x10
      obtain ⟨p3, p4⟩ := chr_ne (d := 13) (n := 13) rfl x13
      have hn2 : Hid ((10 : UInt8) ∉ l.take (k + 1)) := by
        show _ ∉ _
        rw [List.take_add_one, hx']
        intro hm
        rcases List.mem_append.1 hm with hm | hm
        · exact hn.out hm
        · simp at hm; exact x10 hm.symm
      clear hx' x10 x13
      go_wp2
      go_roundw
      case rel => exact ⟨k + 1, by omega, by go_num, hn2, by trivial⟩
      case measure => simp [intOf]; omega
    · obtain rfl : k = l.length := by omega
      have hn2 := hn.out
      rw [List.take_length] at hn2
      have HSE := Lib.hid (subj_env l hn2 HE.out)
      have hsl := subj_len l
      have HTX := Lib.hid (envText_any (subjT l) m a wr (by omega) H1.out.max H1.out.tab H1.out.err)
      have hq := qtL_len l (by omega)
      clear hn hn2 hsl
      go_wp2_with fail
      rw [subj_sum]
      refine HTX.out.mono ?_
      rintro e w2 ⟨rfl, hb2⟩
      clear HTX
      go_wp2_with fail
      refine (refQuote_any l _ (by omega)).mono ?_
      rintro e w3 ⟨rfl, hb3⟩
      rw [HSE.out]
      have hqs := quot_sum (qtL l)
      obtain ⟨Z, hZ⟩ : ∃ Z, ([40] ++ nilL ++ [32] ++ qtL l ++ [32] ++ nilL ++ [32] ++ nilL ++ [32] ++ nilL ++ [32] ++ nilL ++ [32] ++ nilL ++ [32] ++ nilL ++ [32] ++ nilL ++ [32] ++ nilL ++ [41]) = Z := ⟨_, rfl⟩
      rw [hZ] at hqs ⊢
      go_wp2
      go_ret
      exact ⟨rfl, hb1.trans ((hb2.trans (hb3.mono hb2.size)).mono hb1.size)⟩

abbrev Tab (w : World) : Prop := TabQ w
theorem tab_of_head {W : World} {rest : List (String × DataW Unit)} (h : laidMet Tryd.prog (("internal/strconv.uint64pow10", Lib.tabData .u64 Lib.pow10Tab) :: rest) W) : Tab W :=
  Lib.tabIs_of_head tabQNamed (by kernel_rfl) Tryd.underlying114 Tryd.underlying99 (by kernel_rfl) (by kernel_rfl) h
theorem envelopeSubjects_any (s : ByteArray) (w : World) (_ : s.size ≤ 9223372036854775807) (a : Addr) (hE : w.cell? ⟨0, 0, none⟩ = some (errV a)) (hT : Tab w) (m : Int) (hm : w.cell? ⟨1, 0, none⟩ = some (.int .i64 m)) :
    Calls Tryd.prog 5 #[.string s] w fun e w' => e = .returned (.bool true) ∧ Below w.heap.size w w' :=
  envelopeSubjects_list s.data.toList m a w ⟨hm, hT, hE⟩

end Go.Proofs.YtifjibgnjjiggaaDoor
end

/- EnvelopeRows: the law. -/
set_option linter.unusedVariables false
set_option linter.unusedSimpArgs false
section
namespace Go.Proofs.YtifjibgnjjiggaaDoor
open Go.RowKit Go

theorem rowT_app : ∀ (l : List Adr) (i : Nat) (a : Adr), rowT i (l ++ [a]) = rowT i l ++ ((if i + l.length = 0 then [] else [32, 44, 32]) ++ itemT (i + l.length) a)
  | [], i, a => by simp [rowT]
  | b :: l, i, a => by
    rw [List.cons_append, rowT, rowT_app l (i + 1) a, rowT, List.length_cons, show i + 1 + l.length = i + (l.length + 1) by omega, if_neg (show ¬ i + (l.length + 1) = 0 by omega)]
    simp
theorem rowT_take (l : List Adr) (k : Nat) (a : Adr) (h : l[k]? = some a) : rowT 0 (l.take (k + 1)) = rowT 0 (l.take k) ++ ((if k = 0 then [] else [32, 44, 32]) ++ itemT k a) := by
  have hlt := (List.getElem?_eq_some_iff.1 h).1
  rw [List.take_add_one, h, show (some a).toList = [a] from rfl, rowT_app]
  have : (l.take k).length = k := by rw [List.length_take]; omega
  rw [Nat.zero_add, this]
theorem par2 (k : Nat) : (k : Int).tmod 2 = 0 ∧ k % 2 = 0 ∨ (k : Int).tmod 2 = 1 ∧ ¬ k % 2 = 0 := by
  have h : (k : Int).tmod 2 = ((k % 2 : Nat) : Int) := by rw [Int.tmod_eq_emod_of_nonneg (by omega)]; omega
  rw [h]
  omega
theorem itemT_len (k : Nat) (a : Adr) : (itemT k a).length ≤ a.name.length + a.loc.length + a.dom.length + 10 := by
  unfold itemT nameT
  split <;> simp <;> omega
theorem word_num {c : UInt8} (h : wordC c = true) : (97 ≤ (c.toNat : Int) ∧ (c.toNat : Int) ≤ 122) ∨ (48 ≤ (c.toNat : Int) ∧ (c.toNat : Int) ≤ 57) := by
  unfold wordC at h
  simp only [Bool.or_eq_true, Bool.and_eq_true, decide_eq_true_eq] at h
  omega
theorem word_not {c : UInt8} (h : ¬ wordC c = true) : (c.toNat : Int) < 48 ∨ (57 < (c.toNat : Int) ∧ (c.toNat : Int) < 97) ∨ 122 < (c.toNat : Int) := by
  unfold wordC at h
  simp only [Bool.or_eq_true, Bool.and_eq_true, decide_eq_true_eq] at h
  omega
theorem cells_three (w : World) (x y z : List UInt8) (t : TypeId) : ∀ (k : Nat) (u : List UInt8), [x, y, z][k]? = some u → (w.alloc (.cells #[.string (bs x), .string (bs y), .string (bs z)] t)).cell? ⟨w.heap.size, k, none⟩ = some (.string (bs u)) := by
  intro k u h
  match k, h with
  | 0, h => obtain rfl : x = u := by simpa using h
            simp
  | 1, h => obtain rfl : y = u := by simpa using h
            simp
  | 2, h => obtain rfl : z = u := by simpa using h
            simp
  | n + 3, h => simp at h

set_option maxRecDepth 100000 in
set_option maxHeartbeats 4000000 in
theorem envelopeRows_list (v : Value) (l : List Adr) (m : Int) (a : Addr) (w : World) (h : EnvW w m a) (hv : AdrsAt w v l) : Calls Tryd.prog 4 #[v] w fun e w' => e = .returned (.bool true) ∧ Below w.heap.size w w' := by
  have H := Lib.hid h
  have HV := Lib.hid hv
  clear h hv
  go_enter Tryd.func4, Tryd.ntmps4
  go_wp2_with fail
  refine (envAlive_any m a _ H.out.max H.out.tab H.out.err).mono ?_
  rintro e w1 ⟨rfl, hb1⟩
  have H1 := Lib.hid (H.out.below hb1)
  have hv1 := HV.out.below hb1
  have HV1 := Lib.hid hv1
  have hz1 := hb1.size
  have hform : ∃ sa sc, v = .slice sa l.length sc := by
    rcases hv1 with ⟨a0, ca, rfl, rfl⟩ | ⟨b, o, ca, rfl, _⟩
    · exact ⟨_, _, rfl⟩
    · exact ⟨_, _, rfl⟩
  obtain ⟨sa, sc, rfl⟩ := hform
  have hcell : l ≠ [] → ∃ b o, sa = some ⟨b, o, none⟩ ∧ b < w1.heap.size ∧ ∀ (k : Nat) (a : Adr), l[k]? = some a → w1.cell? ⟨b, o + k * 3, none⟩ = some (.string (bs a.name)) ∧ w1.cell? ⟨b, o + k * 3 + 1, none⟩ = some (.string (bs a.loc)) ∧ w1.cell? ⟨b, o + k * 3 + 2, none⟩ = some (.string (bs a.dom)) := by
    intro hne
    rcases hv1 with ⟨a0, ca, e, rfl⟩ | ⟨b, o, ca, e, _, hg, hc⟩
    · exact absurd rfl hne
    · simp at e
      exact ⟨b, o, e.1, hg, hc⟩
  have HC := Lib.hid hcell
  clear hv1 hcell HV
  by_cases h50 : 50 < l.length
  · have h51 : (50 : Int) < l.length := by omega
    go_wp2
    go_ret
    exact ⟨rfl, hb1⟩
  have h51 : (l.length : Int) ≤ 50 := by omega
  go_wp2
  go_loopw [3, 16] (fun s i wr => ∃ (k : Nat) (S : List UInt8), k ≤ l.length ∧ i = .int .i64 k ∧ s = .string (bs S) ∧ Hid (rowT 0 (l.take k) = S) ∧ S.length ≤ k * 320 ∧ Hid (∀ x ∈ l.take k, AdrP x) ∧ Below w1.heap.size w1 wr) (fun _ i _ => l.length - (intOf i).toNat)
  case atStart => exact ⟨0, [], Nat.zero_le _, rfl, rfl, rfl, by simp, by show ∀ x ∈ _, _; simp, Below.refl _ _⟩
  case round =>
    obtain ⟨k, S, hk, rfl, rfl, hS, hSl, hp, hB⟩ := hrel
    have hzr := hB.size
    by_cases hlt : k < l.length
    · obtain ⟨b, o, rfl, hg, hc⟩ := HC.out (by rintro rfl; simp at hlt)
      obtain ⟨f, hf⟩ : ∃ f, l[k]? = some f := ⟨_, List.getElem?_eq_getElem hlt⟩
      obtain ⟨a0, a1, a2⟩ := hc k f hf
      have a0 := (hB.cell (p := ⟨b, o + k * 3, none⟩) hg).trans a0
      have a1 := (hB.cell (p := ⟨b, o + k * 3 + 1, none⟩) hg).trans a1
      have a2 := (hB.cell (p := ⟨b, o + k * 3 + 2, none⟩) hg).trans a2
      have hlt' : (k : Int) < l.length := by omega
      have htk : l.take (k + 1) = l.take k ++ [f] := by rw [List.take_add_one, hf]; rfl
      have HTK := Lib.hid htk
      have HRT := Lib.hid (rowT_take l k f hf)
      obtain ⟨nm, lc, dm⟩ := f
      clear hf htk hc
      go_wp2
      obtain ⟨W1, hW1⟩ : ∃ W1, wr.alloc (.cells #[.string (bs nm), .string (bs lc), .string (bs dm)] 25) = W1 := ⟨_, rfl⟩
      have hB1 : Below w1.heap.size w1 W1 := by rw [← hW1]; exact hB.alloc hzr _
      have hz2 := hB1.size
      obtain ⟨g, hg9⟩ : ∃ g, wr.heap.size = g := ⟨_, rfl⟩
      have hA1 : AdrAt W1 g ⟨nm, lc, dm⟩ := by rw [← hW1, ← hg9]; exact heap_new _ _
      have hb9 := (Below.refl _ W1).alloc (Nat.le_refl _) (.cells #[.string (bs nm), .string (bs lc), .string (bs dm)] 9)
      have hA2 := hA1.below hb9
      have hts := cells_three W1 nm lc dm 9
      rw [hW1, hg9]
      obtain ⟨W2, hW2⟩ : ∃ W2, W1.alloc (.cells #[.string (bs nm), .string (bs lc), .string (bs dm)] 9) = W2 := ⟨_, rfl⟩
      rw [hW2] at hb9 hA2 hts ⊢
      have hB2 := hB1.trans (hb9.mono hz2)
      have eg : W1.heap.size = g + 1 := by rw [← hW1, ← hg9]; simp
      rw [eg] at hts
      obtain ⟨g2, hg2⟩ : ∃ x, g + 1 = x := ⟨_, rfl⟩
      rw [hg2] at hts ⊢
      obtain ⟨c0, c1, c2, _⟩ := hA2.cells
      have HTS := Lib.hid hts
      clear hts hW1 hW2 hA1 hb9 hA2 hg2 a0 a1 a2 eg
      have hlen3 : ([nm, lc, dm] : List (List UInt8)).length = 3 := rfl
      go_loopw [29] (fun j wm => ∃ q : Nat, q ≤ 3 ∧ j = .int .i64 q ∧ Hid (∀ x ∈ ([nm, lc, dm] : List (List UInt8)).take q, wordP x ∧ x.length ≤ 100) ∧ wm = W2) (fun j _ => 3 - (intOf j).toNat)
      case atStart => exact ⟨0, by omega, rfl, by show ∀ x ∈ _, _; simp, rfl⟩
      case round =>
        obtain ⟨q, hq, rfl, hw, hWm⟩ := hrel
        subst hWm
        by_cases hq3 : q < 3
        · obtain ⟨t, ht⟩ : ∃ t, ([nm, lc, dm] : List (List UInt8))[q]? = some t := ⟨_, List.getElem?_eq_getElem (by rw [hlen3]; exact hq3)⟩
          have ct := HTS.out q t ht
          have hq3' : (q : Int) < 3 := by omega
          have htq : ([nm, lc, dm] : List (List UInt8)).take (q + 1) = ([nm, lc, dm] : List (List UInt8)).take q ++ [t] := by rw [List.take_add_one, ht]; rfl
          have HTQ := Lib.hid htq
          clear ht htq hlen3
          by_cases hlen : 100 < t.length
          · have hl2 : (100 : Int) < t.length := by omega
            go_wp2
            go_ret
            exact ⟨rfl, hb1.trans (hB2.mono hz1)⟩
          have hl2 : (t.length : Int) ≤ 100 := by omega
          by_cases hne : t = []
          · subst hne
            go_wp2
            go_ret
            exact ⟨rfl, hb1.trans (hB2.mono hz1)⟩
          have e1 : (t == []) = false := by simpa using hne
          have HNE := Lib.hid hne
          clear hne
          go_wp2
          go_loopw [42] (fun i wi => ∃ p : Nat, p ≤ t.length ∧ i = .int .i64 p ∧ Hid ((t.take p).all wordC = true) ∧ wi = wr) (fun i _ => t.length - (intOf i).toNat)
          case atStart => exact ⟨0, Nat.zero_le _, rfl, by show _ = _; simp, rfl⟩
          case round =>
            obtain ⟨p, hpt, rfl, hall, hWi⟩ := hrel
            subst hWi
            by_cases hpl : p < t.length
            · obtain ⟨c, hc⟩ : ∃ c, (bs t)[p]'(by rw [bs_size]; exact hpl) = c := ⟨_, rfl⟩
              have hc' : t[p]? = some c := List.getElem?_eq_some_iff.2 ⟨hpl, hc⟩
              have hpl' : (p : Int) < t.length := by omega
              by_cases hwc : wordC c = true
              · have hall2 : Hid ((t.take (p + 1)).all wordC = true) := by
                  show _ = _
                  rw [List.take_add_one, hc', List.all_append, hall.out]
                  simp [hwc]
                rcases word_num hwc with ⟨x1, x2⟩ | ⟨x1, x2⟩
                · clear hall hc' hwc
                  go_wp2
                  go_roundw
                  case rel => exact ⟨p + 1, by omega, by go_num, hall2, by trivial⟩
                  case measure => simp [intOf]; omega
                · have x3 : (c.toNat : Int) < 97 := by omega
                  clear hall hc' hwc
                  go_wp2
                  go_roundw
                  case rel => exact ⟨p + 1, by omega, by go_num, hall2, by trivial⟩
                  case measure => simp [intOf]; omega
              · rcases word_not hwc with x1 | ⟨x1, x2⟩ | x1
                · have x3 : (c.toNat : Int) < 97 := by omega
                  clear hall hc' hwc
                  go_wp2
                  go_ret
                  exact ⟨rfl, hb1.trans (hB2.mono hz1)⟩
                · have x3 : 48 ≤ (c.toNat : Int) := by omega
                  clear hall hc' hwc
                  go_wp2
                  go_ret
                  exact ⟨rfl, hb1.trans (hB2.mono hz1)⟩
                · have x3 : 97 ≤ (c.toNat : Int) := by omega
                  have x4 : 48 ≤ (c.toNat : Int) := by omega
                  have x5 : 57 < (c.toNat : Int) := by omega
                  clear hall hc' hwc
                  go_wp2
                  go_ret
                  exact ⟨rfl, hb1.trans (hB2.mono hz1)⟩
            · obtain rfl : p = t.length := by omega
              have ha := hall.out
              rw [List.take_length] at ha
              have hw2 : Hid (∀ x ∈ ([nm, lc, dm] : List (List UInt8)).take (q + 1), wordP x ∧ x.length ≤ 100) := by
                show ∀ x ∈ _, _
                rw [HTQ.out]
                intro x hx
                rcases List.mem_append.1 hx with hx | hx
                · exact hw.out x hx
                · obtain rfl : x = t := by simpa using hx
                  exact ⟨⟨HNE.out, ha⟩, by omega⟩
              clear ha hall
              go_wp2
              go_roundw
              case rel => exact ⟨q + 1, by omega, by go_num, hw2, by trivial⟩
              case measure => simp [intOf]; omega
        · obtain rfl : q = 3 := by omega
          obtain ⟨w0, l0⟩ := hw.out nm (by simp)
          obtain ⟨w1', l1⟩ := hw.out lc (by simp)
          obtain ⟨w2', l2⟩ := hw.out dm (by simp)
          have hp2 : Hid (∀ x ∈ l.take (k + 1), AdrP x) := by
            show ∀ x ∈ _, _
            rw [HTK.out]
            intro x hx
            rcases List.mem_append.1 hx with hx | hx
            · exact hp.out x hx
            · obtain rfl : x = ⟨nm, lc, dm⟩ := by simpa using hx
              exact ⟨w0, w1', w2'⟩
          have hrt := HRT.out
          rw [hS.out] at hrt
          have hil := itemT_len k ⟨nm, lc, dm⟩
          simp only at hil
          unfold itemT nameT at hrt
          simp only at hrt
          clear hw hp HTK HRT hS w0 w1' w2' hlen3 HTS
          have hgl : g < wr.heap.size := cell_lt c0
          have hgn : ¬ g = wr.heap.size := by omega
          have hgn2 : ¬ wr.heap.size = g := by omega
          have hz3 : w1.heap.size ≤ wr.heap.size := hB2.size
          rcases par2 k with ⟨t2, p2⟩ | ⟨t2, p2⟩
          · rw [if_pos p2] at hrt
            by_cases hk0 : k = 0
            · rw [if_pos hk0] at hrt
              have HRT := Lib.hid hrt
              have hk1 : (k : Int) ≤ 0 := by omega
              clear hrt hk0 p2
              go_wp2
              go_region
              go_wp2
              go_roundw
              case rel => exact ⟨k + 1, _, by omega, by go_num, by (first | (simp only [bs_append, List.append_assoc, List.nil_append]; done) | (simp only [bs_append, List.append_assoc, List.nil_append]; rfl)), HRT.out, by simp only [List.length_append, List.length_cons, List.length_nil]; omega, hp2, (hB2.alloc hz3 _).drew⟩
              case measure => simp [intOf]; omega
            · rw [if_neg hk0] at hrt
              have HRT := Lib.hid hrt
              have hk1 : (0 : Int) < k := by omega
              clear hrt hk0 p2
              go_wp2
              go_region
              go_wp2
              go_roundw
              case rel => exact ⟨k + 1, _, by omega, by go_num, by (first | (simp only [bs_append, List.append_assoc, List.nil_append]; done) | (simp only [bs_append, List.append_assoc, List.nil_append]; rfl)), HRT.out, by simp only [List.length_append, List.length_cons, List.length_nil]; omega, hp2, (hB2.alloc hz3 _).drew⟩
              case measure => simp [intOf]; omega
          · rw [if_neg p2] at hrt
            by_cases hk0 : k = 0
            · rw [if_pos hk0] at hrt
              have HRT := Lib.hid hrt
              have hk1 : (k : Int) ≤ 0 := by omega
              clear hrt hk0 p2
              go_wp2
              go_region
              go_wp2
              go_roundw
              case rel => exact ⟨k + 1, _, by omega, by go_num, by (first | (simp only [bs_append, List.append_assoc, List.nil_append]; done) | (simp only [bs_append, List.append_assoc, List.nil_append]; rfl)), HRT.out, by simp only [List.length_append, List.length_cons, List.length_nil]; omega, hp2, (hB2.alloc hz3 _).drew⟩
              case measure => simp [intOf]; omega
            · rw [if_neg hk0] at hrt
              have HRT := Lib.hid hrt
              have hk1 : (0 : Int) < k := by omega
              clear hrt hk0 p2
              go_wp2
              go_region
              go_wp2
              go_roundw
              case rel => exact ⟨k + 1, _, by omega, by go_num, by (first | (simp only [bs_append, List.append_assoc, List.nil_append]; done) | (simp only [bs_append, List.append_assoc, List.nil_append]; rfl)), HRT.out, by simp only [List.length_append, List.length_cons, List.length_nil]; omega, hp2, (hB2.alloc hz3 _).drew⟩
              case measure => simp [intOf]; omega
    · obtain rfl : k = l.length := by omega
      have hS2 := hS.out
      have hp2 := hp.out
      rw [List.take_length] at hS2 hp2
      have hback := rows_back l hp2 (by omega)
      rw [hS2] at hback
      have HBK := Lib.hid hback
      have hva := HV1.out.below hB
      have HVA := Lib.hid hva
      clear hS hp hS2 hp2 hback hva HV1 HC
      go_wp2_with fail
      refine (addresses_any S _ (by omega)).mono ?_
      rintro e w2 ⟨⟨x, rfl, hx⟩, hb2⟩
      rw [HBK.out] at hx
      have hxa := hx.adrs
      have hvb := HVA.out.below hb2
      clear hx HVA
      go_wp2_with fail
      refine (refSame11_yes _ _ l _ hxa hvb (by omega)).mono ?_
      rintro e w3 ⟨rfl, hb3⟩
      go_wp2
      go_ret
      exact ⟨rfl, hb1.trans ((hB.trans ((hb2.trans (hb3.mono hb2.size)).mono hzr)).mono hz1)⟩

theorem envelopeRows_any (v : Value) (l : List Adr) (w : World) (hv : AdrsAt w v l) (_ : ∀ x ∈ l, ShortN 140737488351232 x) (a : Addr) (hE : w.cell? ⟨0, 0, none⟩ = some (errV a)) (hT : TabQ w) (m : Int) (hm : w.cell? ⟨1, 0, none⟩ = some (.int .i64 m)) :
    Calls Tryd.prog 4 #[v] w fun e w' => e = .returned (.bool true) ∧ Below w.heap.size w w' :=
  envelopeRows_list v l m a w ⟨hm, hT, hE⟩ hv

end Go.Proofs.YtifjibgnjjiggaaDoor
end

/- Texts of one walk, merged: XVU XJs XVW XVY XHB. -/
import Derived.Test.YtifjibgnjjiggaaGreatDoorWf

/- envelope.Text: what it reads; its closures. -/
set_option linter.unusedVariables false
set_option linter.unusedSimpArgs false
section
set_option linter.unusedVariables false
set_option linter.unusedSimpArgs false
namespace Go.Proofs.YtifjibgnjjiggaaGreatDoor
open Go.RowKit Go

def flaOf (f : Fld) : Fla := ⟨f.name, f.value, f.pos, f.fin⟩
theorem OwnF.arg {w : World} {B : Nat} {v : Value} {fs : List Fld} (h : OwnF w B v fs) : ArgF w v (fs.map flaOf) := by
  rcases h.parts with ⟨rfl, rfl⟩ | ⟨g, cap, rfl, _, hg⟩
  · exact .inl ⟨_, _, rfl, rfl⟩
  · by_cases h0 : fs = []
    · subst h0; exact .inl ⟨_, _, rfl, rfl⟩
    · refine .inr ⟨g, 0, cap, by rw [List.length_map], by rw [List.length_map]; exact List.length_pos_iff.2 h0, hg, fun j f hf i hi => ?_⟩
      rw [List.getElem?_map] at hf
      cases hq : fs[j]? with
      | none => rw [hq] at hf; cases hf
      | some y =>
        rw [hq] at hf
        obtain rfl := Option.some.inj hf
        rw [Nat.zero_add]
        exact h.cell j i y hq hi

/-- the first value of a name -/
def getFn (fs : List Fla) (nm : List UInt8) : Option (List UInt8) := (getL fs nm).head?
def ShortA2 (n : Nat) (fs : List Fla) : Prop := ∀ f ∈ fs, f.name.length ≤ n ∧ f.value.length ≤ n
theorem getL_short {n : Nat} {fs : List Fla} (h : ShortA2 n fs) (nm : List UInt8) : ∀ v ∈ getL fs nm, v.length ≤ n := by
  intro v hv
  unfold getL at hv
  obtain ⟨f, hf, rfl⟩ := List.mem_map.1 hv
  exact (h f (List.mem_filter.1 hf).1).2
theorem getFn_short {n : Nat} {fs : List Fla} (h : ShortA2 n fs) {nm v : List UInt8} (hv : getFn fs nm = some v) : v.length ≤ n :=
  getL_short h nm v (List.mem_of_head? hv)

/-- what envelope.Text reads: fields behind a pointer, a length's bound, the table -/
structure EnvAt (w : World) (g : Nat) (fs : List Fla) (m : Int) : Prop where
  cell : ∃ v, w.cell? ⟨g, 0, none⟩ = some v ∧ ArgF w v fs
  max : w.cell? ⟨1, 0, none⟩ = some (.int .i64 m)
  tab : TabQ w
theorem EnvAt.below {w w' : World} {g : Nat} {fs : List Fla} {m : Int} (h : EnvAt w g fs m) (hb : Below w.heap.size w w') : EnvAt w' g fs m := by
  obtain ⟨v, h1, h2⟩ := h.cell
  exact ⟨⟨v, (hb.cell (cell_lt h1)).trans h1, h2.below hb⟩, (hb.cell (p := ⟨1, 0, none⟩) (cell_lt h.max)).trans h.max, TabQ.below h.tab hb⟩

set_option maxRecDepth 100000 in
theorem text1_any (nm : List UInt8) (g : Nat) (fs : List Fla) (m : Int) (w : World) (h : EnvAt w g fs m) (hl : fs.length ≤ 1000) (hs : ShortA2 1000000 fs) (hn : nm.length ≤ 1000) :
    Calls Tryz.prog 26 #[.string (bs nm), .pointer (some ⟨g, 0, none⟩)] w fun e w' => e = .returned (.string (bs (valT (getFn fs) nm))) ∧ Below w.heap.size w w' := by
  have H := Lib.hid h
  obtain ⟨v, hc, ha⟩ := h.cell
  have hg := get_any v fs nm w ha (by omega) (by omega) (fun f hf => (hs f hf).1)
  have hsh := getL_short hs nm
  unfold valT getFn
  obtain ⟨G, hG⟩ : ∃ G, getL fs nm = G := ⟨_, rfl⟩
  rw [hG] at hg hsh ⊢
  have HG := Lib.hid hg
  clear hg hG ha hs hl hn h
  cases G with
  | nil =>
    show Calls _ _ _ _ fun e w' => e = .returned (.string (bs nilL)) ∧ _
    clear hsh
    go_enter Tryz.func26, Tryz.ntmps26
    go_wp2_with fail
    refine HG.out.mono ?_
    rintro e w1 ⟨rfl, hb1⟩
    unfold firstV
    go_wp2_with fail
    refine (orNil_not [] _).mono ?_
    rintro e w2 ⟨rfl, hb2⟩
    go_wp2
    go_ret
    exact ⟨rfl, hb1.trans (hb2.mono hb1.size)⟩
  | cons x r =>
    show Calls _ _ _ _ fun e w' => e = .returned (.string (bs (qtL x))) ∧ _
    have hx := hsh x (by simp)
    clear hsh
    go_enter Tryz.func26, Tryz.ntmps26
    go_wp2_with fail
    refine HG.out.mono ?_
    rintro e w1 ⟨rfl, hb1⟩
    unfold firstV
    have H1 := H.out.below hb1
    have HH := Lib.hid H1
    clear H1
    go_wp2_with fail
    refine (orNil_any x m _ (by omega) HH.out.max HH.out.tab).mono ?_
    rintro e w2 ⟨rfl, hb2⟩
    go_wp2
    go_ret
    exact ⟨rfl, hb1.trans (hb2.mono hb1.size)⟩

set_option maxRecDepth 100000 in
set_option maxHeartbeats 2000000 in
theorem text2_any (ns : List (List UInt8)) (b c g : Nat) (fs : List Fla) (m : Int) (w : World) (h : EnvAt w g fs m) (hl : fs.length ≤ 1000) (hs : ShortA2 1000000 fs) (hn : ∀ n ∈ ns, n.length ≤ 1000) (hnl : ns.length ≤ 1000)
    (hb : b < w.heap.size) (hcs : ∀ k x, ns[k]? = some x → w.cell? ⟨b, k, none⟩ = some (.string (bs x))) :
    Calls Tryz.prog 28 #[.slice (some ⟨b, 0, none⟩) ns.length c, .pointer (some ⟨g, 0, none⟩)] w fun e w' => e = .returned (.string (bs (addrsGo (getFn fs) ns))) ∧ Below w.heap.size w w' := by
  have H := Lib.hid h
  have HC := Lib.hid hcs
  have HN := Lib.hid hn
  have HS := Lib.hid hs
  obtain ⟨R, hR⟩ : ∃ R, addrsGo (getFn fs) ns = R := ⟨_, rfl⟩
  rw [hR]
  have HR := Lib.hid hR
  clear hR hcs hn hs h
  go_enter Tryz.func28, Tryz.ntmps28
  go_wp2
  go_loopw [11] (fun c wr => ∃ k : Nat, k ≤ ns.length ∧ c = .int .i64 k ∧ Hid (addrsGo (getFn fs) (ns.drop k) = R) ∧ Below w.heap.size w wr) (fun c _ => ns.length - (intOf c).toNat)
  case atStart => exact ⟨0, Nat.zero_le _, rfl, HR.out, Below.refl _ _⟩
  case round =>
    obtain ⟨k, hk, rfl, hr, hB⟩ := hrel
    have hzr := hB.size
    by_cases hlt : k < ns.length
    · obtain ⟨x, hx⟩ : ∃ x, ns[k]? = some x := ⟨_, List.getElem?_eq_getElem hlt⟩
      have cx := (hB.cell (p := ⟨b, k, none⟩) hb).trans (HC.out k x hx)
      have hxl := HN.out x (List.mem_of_getElem? hx)
      have hlt' : (k : Int) < ns.length := by omega
      have hdr : ns.drop k = x :: ns.drop (k + 1) := by
        rw [List.drop_eq_getElem_cons hlt]
        congr 1
        exact (List.getElem?_eq_some_iff.1 hx).2
      have hr2 := hr.out
      rw [hdr] at hr2
      have Hr := H.out.below hB
      obtain ⟨fv, hfc, hfa⟩ := Hr.cell
      have hg := get_any fv fs x wr hfa (by omega) (by omega) (fun f hf => (HS.out f hf).1)
      have HSH := Lib.hid (getL_short HS.out x)
      have HHr := Lib.hid Hr
      unfold addrsGo adrOf getFn at hr2
      obtain ⟨G, hG⟩ : ∃ G, getL fs x = G := ⟨_, rfl⟩
      have hshG := HSH.out
      rw [hG] at hg hshG hr2
      obtain ⟨vv, tt, hvv, hvl⟩ : ∃ (vv : List UInt8) (tt : Bool), firstV G = .tuple #[.string (bs vv), .bool tt] ∧ (G.head?).getD [] = vv ∧ vv.length ≤ 1000000 := by
        cases G with
        | nil => exact ⟨[], false, rfl, rfl, by simp⟩
        | cons y r => exact ⟨y, true, rfl, rfl, hshG y (by simp)⟩
      obtain ⟨hv1, hv2⟩ := hvl
      rw [hv1] at hr2
      rw [hvv] at hg
      have HR2 := Lib.hid hr2
      have HGG := Lib.hid hg
      clear hx hdr hr2 hr Hr hfa hg hG hshG hvv hv1 HSH
      go_wp2_with fail
      refine HGG.out.mono ?_
      rintro e w1 ⟨rfl, hb1⟩
      have H1 := Lib.hid (HHr.out.below hb1)
      have hB1 := hB.trans (hb1.mono hzr)
      have hz1 := hB1.size
      clear HGG
      go_wp2_with fail
      refine (addresses_any vv _ (by omega)).mono ?_
      rintro e w2 ⟨⟨av, rfl, hav⟩, hb2⟩
      have H2 := Lib.hid (H1.out.below hb2)
      have hB2 := hB1.trans (hb2.mono hz1)
      have hz2 := hB2.size
      obtain ⟨oa, oc, rfl⟩ := hav.form
      have hadr := hav.adrs
      have hfew := adrsL_few vv
      have hshort := adrsL_short vv
      obtain ⟨A, hA⟩ : ∃ A, adrsL vv = A := ⟨_, rfl⟩
      have hr3 := HR2.out
      rw [hA] at hadr hfew hshort hr3 ⊢
      clear hA hav HR2 H1
      cases A with
      | nil =>
        rw [List.isEmpty_nil, if_pos rfl] at hr3
        have HR3 := Lib.hid hr3
        clear hr3 hadr hshort
        go_wp2
        go_roundw
        case rel => exact ⟨k + 1, by omega, by go_num, HR3.out, hB2⟩
        case measure => simp [intOf]; omega
      | cons a0 r0 =>
        rw [List.isEmpty_cons, if_neg (by simp)] at hr3
        have HLL := Lib.hid (list_any _ (a0 :: r0) m w2 H2.out.max H2.out.tab hadr (by omega) (fun a ha => by have := hshort a ha; exact ⟨Nat.le_trans this.1 hv2, Nat.le_trans this.2.1 hv2, Nat.le_trans this.2.2 hv2⟩))
        have hpos : (0 : Int) < (a0 :: r0).length := by have : 0 < (a0 :: r0).length := by simp
                                                        omega
        subst hr3
        clear hadr hshort hfew
        go_wp2_with fail
        refine HLL.out.mono ?_
        rintro e w3 ⟨rfl, hb3⟩
        go_wp2
        go_ret
        exact ⟨rfl, hB2.trans (hb3.mono hz2)⟩
    · obtain rfl : k = ns.length := by omega
      have hr2 := hr.out
      rw [List.drop_length] at hr2
      subst hr2
      clear hr
      go_wp2
      go_ret
      exact ⟨rfl, hB⟩

end Go.Proofs.YtifjibgnjjiggaaGreatDoor
end

/- strings.Join with a blank between. -/
set_option linter.unusedVariables false
set_option linter.unusedSimpArgs false
section
namespace Go.Proofs.YtifjibgnjjiggaaGreatDoor
open Go.RowKit Go

theorem joinBl_any (w : World) (v : Value) (ls : List (List UInt8)) (hv : StrsAt w v ls) (hn : ls.length ≤ 140737488355328) (hl : (joinSp ls).length ≤ 140737488355328) :
    Calls Tryz.prog 29 #[v, .string (bs [32])] w fun e w' => e = .returned (.string (bs (joinSp ls))) ∧ Below w.heap.size w w' := by
  rcases hv with ⟨rfl, rfl⟩ | ⟨b, o, c, rfl, h1, h2, h3⟩
  · exact (Tryz.strings_Join_none none 0 (bs [32]) w).mono fun _ _ ⟨he, hw⟩ => ⟨he, hw ▸ Below.refl _ _⟩
  · have e : (ls.map bs).map (·.data.toList) = ls := by rw [List.map_map]; exact List.map_id ls
    have hj := Tryz.strings_Join b o c (ls.map bs) (bs [32]) w (fun j x hx => by
      rw [List.getElem?_map] at hx
      cases hq : ls[j]? with
      | none => rw [hq] at hx; cases hx
      | some y =>
        rw [hq] at hx
        obtain rfl := Option.some.inj hx
        have hlt := (List.getElem?_eq_some_iff.1 hq).1
        rw [h3 j hlt]
        simp [List.getD, hq]) h2 (by simpa using hn) (by simpa using h1) (by rw [e]; rw [show (bs [32]).data.toList = [32] by simp, joinSp_lib]; exact hl)
    rw [e, show (bs [32]).data.toList = [32] by simp, joinSp_lib, List.length_map] at hj
    exact hj

end Go.Proofs.YtifjibgnjjiggaaGreatDoor
end

/- envelope.Text: the walk. -/
set_option linter.unusedVariables false
set_option linter.unusedSimpArgs false
section
namespace Go.Proofs.YtifjibgnjjiggaaGreatDoor
open Go.RowKit Go

theorem strs_lit (w : World) (ls : List (List UInt8)) : StrsAt (w.alloc (.cells ((ls.map fun l => .string (bs l)).toArray) 9)) (.slice (some ⟨w.heap.size, 0, none⟩) ls.length ls.length) ls := by
  refine .inr ⟨w.heap.size, 0, ls.length, rfl, Nat.le_refl _, by simp, fun j hj => ?_⟩
  rw [Nat.zero_add]
  simp [hj, List.getD]
theorem cell_lit1 (w : World) (x : List UInt8) : ∀ (k : Nat) (y : List UInt8), [x][k]? = some y → (w.alloc (.cells #[.string (bs x)] 9)).cell? ⟨w.heap.size, k, none⟩ = some (.string (bs y)) := by
  intro k y h
  match k, h with
  | 0, h => obtain rfl : x = y := by simpa using h
            simp
  | n + 1, h => simp at h
theorem cell_lit2 (w : World) (x z : List UInt8) : ∀ (k : Nat) (y : List UInt8), [x, z][k]? = some y → (w.alloc (.cells #[.string (bs x), .string (bs z)] 9)).cell? ⟨w.heap.size, k, none⟩ = some (.string (bs y)) := by
  intro k y h
  match k, h with
  | 0, h => obtain rfl : x = y := by simpa using h
            simp
  | 1, h => obtain rfl : z = y := by simpa using h
            simp
  | n + 2, h => simp at h

theorem valT_len {fs : List Fla} (h : ShortA2 1000000 fs) (nm : List UInt8) : (valT (getFn fs) nm).length ≤ 3000000 := by
  unfold valT
  split
  · simp [nilL]
  · rename_i v hv
    have h1 := getFn_short h hv
    have := qtL_len v (by omega)
    omega
theorem flat_len {l : List Adr} {n : Nat} (h : ∀ a ∈ l, (adrT a).length ≤ n) : (l.map adrT).flatten.length ≤ l.length * n := by
  induction l with
  | nil => simp
  | cons a r ih =>
    have h1 := h a (by simp)
    have h2 := ih (fun b hb => h b (List.mem_cons_of_mem _ hb))
    simp only [List.map_cons, List.flatten_cons, List.length_append, List.length_cons, Nat.add_mul]
    omega
theorem listT_len (v : List UInt8) (h : v.length ≤ 1000000) : (listT (adrsL v)).length ≤ 400000000 := by
  have h1 := adrsL_few v
  have h2 := adrsL_short v
  have h3 := flat_len (l := adrsL v) (n := 7000000) (fun a ha => adrT_len ⟨Nat.le_trans (h2 a ha).1 h, Nat.le_trans (h2 a ha).2.1 h, Nat.le_trans (h2 a ha).2.2 h⟩)
  unfold listT
  split
  · simp [nilL]
  · simp only [List.length_append, List.length_cons, List.length_nil]
    omega
theorem adrOf_len {fs : List Fla} (h : ShortA2 1000000 fs) (nm : List UInt8) : (listT (adrOf (getFn fs) nm)).length ≤ 400000000 := by
  unfold adrOf
  refine listT_len _ ?_
  cases hv : getFn fs nm with
  | none => simp
  | some v => exact getFn_short h hv
theorem addrs_len {fs : List Fla} (h : ShortA2 1000000 fs) : ∀ ns : List (List UInt8), (addrsGo (getFn fs) ns).length ≤ 400000000
  | [] => by simp [addrsGo, nilL]
  | nm :: r => by
    unfold addrsGo
    split
    · exact addrs_len h r
    · exact adrOf_len h nm

theorem text2_one (x : List UInt8) (g : Nat) (fs : List Fla) (m : Int) (w : World) (h : EnvAt w g fs m) (hl : fs.length ≤ 1000) (hs : ShortA2 1000000 fs) (hn : x.length ≤ 1000) :
    Calls Tryz.prog 28 #[.slice (some ⟨w.heap.size, 0, none⟩) 1 1, .pointer (some ⟨g, 0, none⟩)] (w.alloc (.cells #[.string (bs x)] 9)) fun e w' => e = .returned (.string (bs (addrsGo (getFn fs) [x]))) ∧ Below w.heap.size w w' := by
  have hb := (Below.refl _ w).alloc (Nat.le_refl _) (.cells #[.string (bs x)] 9)
  exact (text2_any [x] w.heap.size 1 g fs m _ (h.below hb) hl hs (by simpa using hn) (by simp) (by simp) (cell_lit1 w x)).mono fun e w' ⟨he, hw⟩ => ⟨he, hb.trans (hw.mono hb.size)⟩
theorem text2_two (x z : List UInt8) (g : Nat) (fs : List Fla) (m : Int) (w : World) (h : EnvAt w g fs m) (hl : fs.length ≤ 1000) (hs : ShortA2 1000000 fs) (hn : x.length ≤ 1000) (hz : z.length ≤ 1000) :
    Calls Tryz.prog 28 #[.slice (some ⟨w.heap.size, 0, none⟩) 2 2, .pointer (some ⟨g, 0, none⟩)] (w.alloc (.cells #[.string (bs x), .string (bs z)] 9)) fun e w' => e = .returned (.string (bs (addrsGo (getFn fs) [x, z]))) ∧ Below w.heap.size w w' := by
  have hb := (Below.refl _ w).alloc (Nat.le_refl _) (.cells #[.string (bs x), .string (bs z)] 9)
  exact (text2_any [x, z] w.heap.size 2 g fs m _ (h.below hb) hl hs (by simp; omega) (by simp) (by simp) (cell_lit2 w x z)).mono fun e w' ⟨he, hw⟩ => ⟨he, hb.trans (hw.mono hb.size)⟩

theorem shortA_fla {n : Nat} {fs : List Fld} (h : ShortF n fs) {k : Nat} (hk : n ≤ k) : ShortA2 k (fs.map flaOf) := by
  intro f hf
  obtain ⟨x, hx, rfl⟩ := List.mem_map.1 hf
  exact ⟨Nat.le_trans (h x hx).1 hk, Nat.le_trans (h x hx).2 hk⟩

set_option maxRecDepth 100000 in
set_option maxHeartbeats 4000000 in
theorem envText_any (msg : List UInt8) (m : Int) (a : Addr) (w : World) (hl : msg.length ≤ 1000000) (hm : w.cell? ⟨1, 0, none⟩ = some (.int .i64 m)) (hT : TabQ w) (hE : w.cell? ⟨0, 0, none⟩ = some (errV a)) :
    Calls Tryz.prog 11 #[.string (bs msg)] w fun e w' => e = .returned (.string (bs (envT (getFn ((flds200 msg).map flaOf))))) ∧ Below w.heap.size w w' := by
  have hmf : ∀ (fn : Fn) (first cap : Array Value) (w : World), (Instr.makeFunc fn first cap).run Tryz.prog w = .ok (.func fn first cap) w := fun _ _ _ _ => rfl
  have hfew := flds200_few msg
  have hshort := shortA_fla (flds200_short msg) hl
  have hF : Calls Tryz.prog 25 #[.string (bs msg)] w fun e w' => ∃ sa sn sc x, e = .returned (.tuple #[.slice sa sn sc, x]) ∧ ((x = .nilIface ∧ ArgF w' (.slice sa sn sc) ((flds200 msg).map flaOf)) ∨ (x = errV a ∧ flds200 msg = [])) ∧ Below w.heap.size w w' := by
    by_cases h : (fieldsL msg).length ≤ 200
    · refine (fields_ok msg w (by omega) h).mono ?_
      rintro e w' ⟨v, rfl, ho, hb⟩
      have e0 : flds200 msg = fieldsL msg := if_neg (by omega)
      obtain ⟨sa, sn, sc, rfl, _⟩ := ho.form
      exact ⟨sa, sn, sc, _, rfl, .inl ⟨rfl, by rw [e0]; exact ho.arg⟩, hb⟩
    · refine (fields_full msg w a hE (by omega) (by omega)).mono ?_
      rintro e w' ⟨rfl, hb⟩
      exact ⟨none, 0, 0, _, rfl, .inr ⟨rfl, if_pos (by omega)⟩, hb⟩
  have HF := Lib.hid hF
  obtain ⟨F, hF0⟩ : ∃ F, flds200 msg = F := ⟨_, rfl⟩
  rw [hF0] at hfew hshort HF ⊢
  obtain ⟨G, hG⟩ : ∃ G, F.map flaOf = G := ⟨_, rfl⟩
  have hgl : G.length ≤ 1000 := by rw [← hG, List.length_map]; omega
  rw [hG] at hshort ⊢
  have HS := Lib.hid hshort
  have hF2 := HF.out
  rw [hG] at hF2
  clear HF
  have HF := Lib.hid hF2
  clear hF2
  have HG := Lib.hid hG
  have HM := Lib.hid hm
  have HT := Lib.hid hT
  clear hF hF0 hfew hshort hG hE hm hT
  go_enter Tryz.func11, Tryz.ntmps11
  go_wp2_with fail
  refine HF.out.mono ?_
  rintro e w1 ⟨sa, sn, sc, x, rfl, hx, hb1⟩
  clear HF
  have hz1 := hb1.size
  have hE1 : ∀ (sa : Option Addr) (sn sc : Nat), ArgF w1 (.slice sa sn sc) G → EnvAt (w1.alloc (.cells #[.slice sa sn sc] 47)) w1.heap.size G m ∧ Below w.heap.size w (w1.alloc (.cells #[.slice sa sn sc] 47)) := by
    intro sa sn sc h
    have hb := (Below.refl _ w1).alloc (Nat.le_refl _) (.cells #[.slice sa sn sc] 47)
    refine ⟨⟨⟨.slice sa sn sc, by simp, h.below hb⟩, ?_, ?_⟩, hb1.trans (hb.mono hz1)⟩
    · exact (hb.cell (p := ⟨1, 0, none⟩) (cell_lt ((hb1.cell (p := ⟨1, 0, none⟩) (cell_lt HM.out)).trans HM.out))).trans ((hb1.cell (p := ⟨1, 0, none⟩) (cell_lt HM.out)).trans HM.out)
    · exact TabQ.below (TabQ.below HT.out hb1) hb
  have HE1 := Lib.hid hE1
  have henv : envT (getFn G) = [40] ++ joinSp [valT (getFn G) nDate, valT (getFn G) nSubject, addrsGo (getFn G) [nFrom], addrsGo (getFn G) [nSender, nFrom], addrsGo (getFn G) [nReply, nFrom], addrsGo (getFn G) [nTo], addrsGo (getFn G) [nCc], addrsGo (getFn G) [nBcc], valT (getFn G) nInReply, valT (getFn G) nMsgId] ++ [41] := by simp only [addrsGo_one, addrsGo_two]; rfl
  have HENV := Lib.hid henv
  clear hE1 henv hb1 hz1
  rcases hx with ⟨rfl, ha⟩ | ⟨rfl, h0⟩
  · obtain ⟨hE0, hB0⟩ := HE1.out _ _ _ ha
    have HE0 := Lib.hid hE0
    clear hE0 ha HE1
    go_wp2_with fail
    obtain ⟨W0, hW0⟩ : ∃ W0, w1.alloc (.cells #[.slice sa sn sc] 47) = W0 := ⟨_, rfl⟩
    rw [hW0] at HE0 hB0 ⊢
    clear hW0
    refine (text1_any nDate _ G m _ HE0.out hgl HS.out (by decide)).mono ?_
    rintro e w2 ⟨rfl, hb2⟩
    have HE1 := Lib.hid (HE0.out.below hb2)
    have hB1 := hB0.trans (hb2.mono hB0.size)
    clear HE0 hB0 hb2
    go_wp2_with fail
    refine (text1_any nSubject _ G m _ HE1.out hgl HS.out (by decide)).mono ?_
    rintro e w3 ⟨rfl, hb3⟩
    have HE2 := Lib.hid (HE1.out.below hb3)
    have hB2 := hB1.trans (hb3.mono hB1.size)
    clear HE1 hB1 hb3
    go_wp2_with fail
    refine (text2_one nFrom _ G m _ HE2.out hgl HS.out (by decide)).mono ?_
    rintro e w4 ⟨rfl, hb4⟩
    have HE3 := Lib.hid (HE2.out.below hb4)
    have hB3 := hB2.trans (hb4.mono hB2.size)
    clear HE2 hB2 hb4
    go_wp2_with fail
    refine (text2_two nSender nFrom _ G m _ HE3.out hgl HS.out (by decide) (by decide)).mono ?_
    rintro e w5 ⟨rfl, hb5⟩
    have HE4 := Lib.hid (HE3.out.below hb5)
    have hB4 := hB3.trans (hb5.mono hB3.size)
    clear HE3 hB3 hb5
    go_wp2_with fail
    refine (text2_two nReply nFrom _ G m _ HE4.out hgl HS.out (by decide) (by decide)).mono ?_
    rintro e w6 ⟨rfl, hb6⟩
    have HE5 := Lib.hid (HE4.out.below hb6)
    have hB5 := hB4.trans (hb6.mono hB4.size)
    clear HE4 hB4 hb6
    go_wp2_with fail
    refine (text2_one nTo _ G m _ HE5.out hgl HS.out (by decide)).mono ?_
    rintro e w7 ⟨rfl, hb7⟩
    have HE6 := Lib.hid (HE5.out.below hb7)
    have hB6 := hB5.trans (hb7.mono hB5.size)
    clear HE5 hB5 hb7
    go_wp2_with fail
    refine (text2_one nCc _ G m _ HE6.out hgl HS.out (by decide)).mono ?_
    rintro e w8 ⟨rfl, hb8⟩
    have HE7 := Lib.hid (HE6.out.below hb8)
    have hB7 := hB6.trans (hb8.mono hB6.size)
    clear HE6 hB6 hb8
    go_wp2_with fail
    refine (text2_one nBcc _ G m _ HE7.out hgl HS.out (by decide)).mono ?_
    rintro e w9 ⟨rfl, hb9⟩
    have HE8 := Lib.hid (HE7.out.below hb9)
    have hB8 := hB7.trans (hb9.mono hB7.size)
    clear HE7 hB7 hb9
    go_wp2_with fail
    refine (text1_any nInReply _ G m _ HE8.out hgl HS.out (by decide)).mono ?_
    rintro e w10 ⟨rfl, hb10⟩
    have HE9 := Lib.hid (HE8.out.below hb10)
    have hB9 := hB8.trans (hb10.mono hB8.size)
    clear HE8 hB8 hb10
    go_wp2_with fail
    refine (text1_any nMsgId _ G m _ HE9.out hgl HS.out (by decide)).mono ?_
    rintro e w11 ⟨rfl, hb11⟩
    have HE10 := Lib.hid (HE9.out.below hb11)
    have hB10 := hB9.trans (hb11.mono hB9.size)
    clear HE9 hB9 hb11
    go_wp2_with fail
    have hJ : (joinSp [valT (getFn G) nDate, valT (getFn G) nSubject, addrsGo (getFn G) [nFrom], addrsGo (getFn G) [nSender, nFrom], addrsGo (getFn G) [nReply, nFrom], addrsGo (getFn G) [nTo], addrsGo (getFn G) [nCc], addrsGo (getFn G) [nBcc], valT (getFn G) nInReply, valT (getFn G) nMsgId]).length ≤ 9000000000 := by
      have hj := joinSp_len [valT (getFn G) nDate, valT (getFn G) nSubject, addrsGo (getFn G) [nFrom], addrsGo (getFn G) [nSender, nFrom], addrsGo (getFn G) [nReply, nFrom], addrsGo (getFn G) [nTo], addrsGo (getFn G) [nCc], addrsGo (getFn G) [nBcc], valT (getFn G) nInReply, valT (getFn G) nMsgId]
      have a0 := valT_len HS.out nDate
      have a1 := valT_len HS.out nSubject
      have a2 := addrs_len HS.out [nFrom]
      have a3 := addrs_len HS.out [nSender, nFrom]
      have a4 := addrs_len HS.out [nReply, nFrom]
      have a5 := addrs_len HS.out [nTo]
      have a6 := addrs_len HS.out [nCc]
      have a7 := addrs_len HS.out [nBcc]
      have a8 := valT_len HS.out nInReply
      have a9 := valT_len HS.out nMsgId
      simp only [List.flatten_cons, List.flatten_nil, List.length_append, List.length_nil, List.length_cons] at hj
      omega
    refine (joinBl_any _ _ [valT (getFn G) nDate, valT (getFn G) nSubject, addrsGo (getFn G) [nFrom], addrsGo (getFn G) [nSender, nFrom], addrsGo (getFn G) [nReply, nFrom], addrsGo (getFn G) [nTo], addrsGo (getFn G) [nCc], addrsGo (getFn G) [nBcc], valT (getFn G) nInReply, valT (getFn G) nMsgId] (strs_lit w11 [valT (getFn G) nDate, valT (getFn G) nSubject, addrsGo (getFn G) [nFrom], addrsGo (getFn G) [nSender, nFrom], addrsGo (getFn G) [nReply, nFrom], addrsGo (getFn G) [nTo], addrsGo (getFn G) [nCc], addrsGo (getFn G) [nBcc], valT (getFn G) nInReply, valT (getFn G) nMsgId]) (by simp) (by omega)).mono ?_
    rintro e w12 ⟨rfl, hb12⟩
    have hb13 := (Below.refl _ w11).alloc (Nat.le_refl _) (.cells (([valT (getFn G) nDate, valT (getFn G) nSubject, addrsGo (getFn G) [nFrom], addrsGo (getFn G) [nSender, nFrom], addrsGo (getFn G) [nReply, nFrom], addrsGo (getFn G) [nTo], addrsGo (getFn G) [nCc], addrsGo (getFn G) [nBcc], valT (getFn G) nInReply, valT (getFn G) nMsgId].map fun l => Value.string (bs l)).toArray) 9)
    have hB11 := hB10.trans ((hb13.trans (hb12.mono hb13.size)).mono hB10.size)
    clear hb12 hb13 hB10
    go_wp2
    go_ret
    exact ⟨by rw [HENV.out, bs_append, bs_append]; rfl, hB11⟩
  · have hG0 : G = [] := by rw [← HG.out, h0]; rfl
    obtain ⟨hE0, hB0⟩ := HE1.out none 0 0 (.inl ⟨_, _, rfl, hG0⟩)
    have HE0 := Lib.hid hE0
    clear hE0 HE1 hG0
    unfold errV
    go_wp2_with fail
    obtain ⟨W0, hW0⟩ : ∃ W0, w1.alloc (.cells #[.slice none 0 0] 47) = W0 := ⟨_, rfl⟩
    rw [hW0] at HE0 hB0 ⊢
    clear hW0
    refine (text1_any nDate _ G m _ HE0.out hgl HS.out (by decide)).mono ?_
    rintro e w2 ⟨rfl, hb2⟩
    have HE1 := Lib.hid (HE0.out.below hb2)
    have hB1 := hB0.trans (hb2.mono hB0.size)
    clear HE0 hB0 hb2
    go_wp2_with fail
    refine (text1_any nSubject _ G m _ HE1.out hgl HS.out (by decide)).mono ?_
    rintro e w3 ⟨rfl, hb3⟩
    have HE2 := Lib.hid (HE1.out.below hb3)
    have hB2 := hB1.trans (hb3.mono hB1.size)
    clear HE1 hB1 hb3
    go_wp2_with fail
    refine (text2_one nFrom _ G m _ HE2.out hgl HS.out (by decide)).mono ?_
    rintro e w4 ⟨rfl, hb4⟩
    have HE3 := Lib.hid (HE2.out.below hb4)
    have hB3 := hB2.trans (hb4.mono hB2.size)
    clear HE2 hB2 hb4
    go_wp2_with fail
    refine (text2_two nSender nFrom _ G m _ HE3.out hgl HS.out (by decide) (by decide)).mono ?_
    rintro e w5 ⟨rfl, hb5⟩
    have HE4 := Lib.hid (HE3.out.below hb5)
    have hB4 := hB3.trans (hb5.mono hB3.size)
    clear HE3 hB3 hb5
    go_wp2_with fail
    refine (text2_two nReply nFrom _ G m _ HE4.out hgl HS.out (by decide) (by decide)).mono ?_
    rintro e w6 ⟨rfl, hb6⟩
    have HE5 := Lib.hid (HE4.out.below hb6)
    have hB5 := hB4.trans (hb6.mono hB4.size)
    clear HE4 hB4 hb6
    go_wp2_with fail
    refine (text2_one nTo _ G m _ HE5.out hgl HS.out (by decide)).mono ?_
    rintro e w7 ⟨rfl, hb7⟩
    have HE6 := Lib.hid (HE5.out.below hb7)
    have hB6 := hB5.trans (hb7.mono hB5.size)
    clear HE5 hB5 hb7
    go_wp2_with fail
    refine (text2_one nCc _ G m _ HE6.out hgl HS.out (by decide)).mono ?_
    rintro e w8 ⟨rfl, hb8⟩
    have HE7 := Lib.hid (HE6.out.below hb8)
    have hB7 := hB6.trans (hb8.mono hB6.size)
    clear HE6 hB6 hb8
    go_wp2_with fail
    refine (text2_one nBcc _ G m _ HE7.out hgl HS.out (by decide)).mono ?_
    rintro e w9 ⟨rfl, hb9⟩
    have HE8 := Lib.hid (HE7.out.below hb9)
    have hB8 := hB7.trans (hb9.mono hB7.size)
    clear HE7 hB7 hb9
    go_wp2_with fail
    refine (text1_any nInReply _ G m _ HE8.out hgl HS.out (by decide)).mono ?_
    rintro e w10 ⟨rfl, hb10⟩
    have HE9 := Lib.hid (HE8.out.below hb10)
    have hB9 := hB8.trans (hb10.mono hB8.size)
    clear HE8 hB8 hb10
    go_wp2_with fail
    refine (text1_any nMsgId _ G m _ HE9.out hgl HS.out (by decide)).mono ?_
    rintro e w11 ⟨rfl, hb11⟩
    have HE10 := Lib.hid (HE9.out.below hb11)
    have hB10 := hB9.trans (hb11.mono hB9.size)
    clear HE9 hB9 hb11
    go_wp2_with fail
    have hJ : (joinSp [valT (getFn G) nDate, valT (getFn G) nSubject, addrsGo (getFn G) [nFrom], addrsGo (getFn G) [nSender, nFrom], addrsGo (getFn G) [nReply, nFrom], addrsGo (getFn G) [nTo], addrsGo (getFn G) [nCc], addrsGo (getFn G) [nBcc], valT (getFn G) nInReply, valT (getFn G) nMsgId]).length ≤ 9000000000 := by
      have hj := joinSp_len [valT (getFn G) nDate, valT (getFn G) nSubject, addrsGo (getFn G) [nFrom], addrsGo (getFn G) [nSender, nFrom], addrsGo (getFn G) [nReply, nFrom], addrsGo (getFn G) [nTo], addrsGo (getFn G) [nCc], addrsGo (getFn G) [nBcc], valT (getFn G) nInReply, valT (getFn G) nMsgId]
      have a0 := valT_len HS.out nDate
      have a1 := valT_len HS.out nSubject
      have a2 := addrs_len HS.out [nFrom]
      have a3 := addrs_len HS.out [nSender, nFrom]
      have a4 := addrs_len HS.out [nReply, nFrom]
      have a5 := addrs_len HS.out [nTo]
      have a6 := addrs_len HS.out [nCc]
      have a7 := addrs_len HS.out [nBcc]
      have a8 := valT_len HS.out nInReply
      have a9 := valT_len HS.out nMsgId
      simp only [List.flatten_cons, List.flatten_nil, List.length_append, List.length_nil, List.length_cons] at hj
      omega
    refine (joinBl_any _ _ [valT (getFn G) nDate, valT (getFn G) nSubject, addrsGo (getFn G) [nFrom], addrsGo (getFn G) [nSender, nFrom], addrsGo (getFn G) [nReply, nFrom], addrsGo (getFn G) [nTo], addrsGo (getFn G) [nCc], addrsGo (getFn G) [nBcc], valT (getFn G) nInReply, valT (getFn G) nMsgId] (strs_lit w11 [valT (getFn G) nDate, valT (getFn G) nSubject, addrsGo (getFn G) [nFrom], addrsGo (getFn G) [nSender, nFrom], addrsGo (getFn G) [nReply, nFrom], addrsGo (getFn G) [nTo], addrsGo (getFn G) [nCc], addrsGo (getFn G) [nBcc], valT (getFn G) nInReply, valT (getFn G) nMsgId]) (by simp) (by omega)).mono ?_
    rintro e w12 ⟨rfl, hb12⟩
    have hb13 := (Below.refl _ w11).alloc (Nat.le_refl _) (.cells (([valT (getFn G) nDate, valT (getFn G) nSubject, addrsGo (getFn G) [nFrom], addrsGo (getFn G) [nSender, nFrom], addrsGo (getFn G) [nReply, nFrom], addrsGo (getFn G) [nTo], addrsGo (getFn G) [nCc], addrsGo (getFn G) [nBcc], valT (getFn G) nInReply, valT (getFn G) nMsgId].map fun l => Value.string (bs l)).toArray) 9)
    have hB11 := hB10.trans ((hb13.trans (hb12.mono hb13.size)).mono hB10.size)
    clear hb12 hb13 hB10
    go_wp2
    go_ret
    exact ⟨by rw [HENV.out, bs_append, bs_append]; rfl, hB11⟩

end Go.Proofs.YtifjibgnjjiggaaGreatDoor
end

/- envelope: alive; EnvelopeTexts, EnvelopeAddresses. -/
set_option linter.unusedVariables false
set_option linter.unusedSimpArgs false
section
namespace Go.Proofs.YtifjibgnjjiggaaGreatDoor
open Go.RowKit Go

def exA : List UInt8 := [65, 110, 110, 32, 60, 97, 64, 98, 62, 44, 32, 99, 64, 100]
theorem exA_adrs : adrsL exA = [⟨[65, 110, 110], [97], [98]⟩, ⟨[], [99], [100]⟩] := by rfl
theorem ex_env : envT (getFn ((flds200 []).map flaOf)) = [40, 78, 73, 76, 32, 78, 73, 76, 32, 78, 73, 76, 32, 78, 73, 76, 32, 78, 73, 76, 32, 78, 73, 76, 32, 78, 73, 76, 32, 78, 73, 76, 32, 78, 73, 76, 32, 78, 73, 76, 41] := by rfl

set_option maxRecDepth 100000 in
set_option maxHeartbeats 2000000 in
theorem envAlive_any (m : Int) (a : Addr) (w : World) (hm : w.cell? ⟨1, 0, none⟩ = some (.int .i64 m)) (hT : TabQ w) (hE : w.cell? ⟨0, 0, none⟩ = some (errV a)) :
    Calls Tryz.prog 5 #[] w fun e w' => e = .returned (.bool true) ∧ Below w.heap.size w w' := by
  have HX := Lib.hid exA_adrs
  have HV := Lib.hid ex_env
  have HM := Lib.hid hm
  have HT := Lib.hid hT
  have HE := Lib.hid hE
  clear hm hT hE
  go_enter Tryz.func5, Tryz.ntmps5
  go_wp2_with fail
  refine (addresses_any exA _ (by decide)).mono ?_
  rintro e w1 ⟨⟨x, rfl, hx⟩, hb1⟩
  rw [HX.out] at hx
  have hadr := hx.adrs
  obtain ⟨b, o, c, rfl, _, hg, hc⟩ := hadr.resolve_left (by rintro ⟨_, _, _, h⟩; cases h)
  obtain ⟨a0, a1, a2⟩ := hc 0 _ rfl
  obtain ⟨b0, b1, b2⟩ := hc 1 _ rfl
  simp only [Nat.zero_mul, Nat.add_zero, Nat.one_mul] at a0 a1 a2 b0 b1 b2
  have hm1 := (hb1.cell (p := ⟨1, 0, none⟩) (cell_lt HM.out)).trans HM.out
  have hE1 := (hb1.cell (p := ⟨0, 0, none⟩) (cell_lt HE.out)).trans HE.out
  have hT1 := TabQ.below HT.out hb1
  have HR0 := Lib.hid (envText_any [] m a w1 (by simp) hm1 hT1 hE1)
  clear hx hc hm1 hE1 hT1
  go_wp2_with fail
  refine HR0.out.mono ?_
  rintro e w2 ⟨rfl, hb2⟩
  rw [HV.out]
  go_wp2
  go_ret
  exact ⟨rfl, hb1.trans (hb2.mono hb1.size)⟩

/-- what envelope's laws ask of a world -/
structure EnvW (w : World) (m : Int) (a : Addr) : Prop where
  max : w.cell? ⟨1, 0, none⟩ = some (.int .i64 m)
  tab : TabQ w
  err : w.cell? ⟨0, 0, none⟩ = some (errV a)
theorem EnvW.below {w w' : World} {m : Int} {a : Addr} (h : EnvW w m a) (hb : Below w.heap.size w w') : EnvW w' m a :=
  ⟨(hb.cell (p := ⟨1, 0, none⟩) (cell_lt h.max)).trans h.max, TabQ.below h.tab hb, (hb.cell (p := ⟨0, 0, none⟩) (cell_lt h.err)).trans h.err⟩

end Go.Proofs.YtifjibgnjjiggaaGreatDoor
end

/- The reference's Header. -/
set_option linter.unusedVariables false
set_option linter.unusedSimpArgs false
section
namespace Go.Proofs.YtifjibgnjjiggaaGreatDoor
open Go.RowKit

/-- fields and a number handed back -/
def HeaderP (B : Nat) (G : List Fld × Nat) (w : World) (e : Ending) (w' : World) : Prop := ∃ v, e = .returned (.tuple #[v, .int .i64 G.2]) ∧ OwnF w' B v G.1 ∧ Below B w w'

/-- what a line that is a field puts behind the ":" -/
def restL (t : List UInt8) : List UInt8 := match nameL t with | some (_, v) => v | none => []

theorem textL_pre (l : List UInt8) : textL l <+: l := by
  have h : ∀ (a b : List UInt8), Lib.trimSuffix a b <+: a := by
    intro a b; unfold Lib.trimSuffix; split
    · exact List.take_prefix _ _
    · exact List.prefix_rfl
  unfold textL
  split
  · exact (h _ _).trans (h _ _)
  · exact List.prefix_rfl
theorem textL_head {l : List UInt8} {c : UInt8} {r : List UInt8} (h : textL l = c :: r) : ∃ s, l = c :: s := by
  obtain ⟨s, hs⟩ := textL_pre l
  rw [h] at hs
  exact ⟨r ++ s, hs.symm⟩
theorem restL_len (t : List UInt8) : (restL t).length ≤ t.length := by
  unfold restL
  cases h : nameL t with
  | none => simp
  | some q =>
    obtain ⟨n, v⟩ := q
    have := nameL_len h
    simp; omega
theorem name_parts {t n v : List UInt8} (h : nameL t = some (n, v)) : t = n ++ 58 :: v ∧ n ≠ [] := by
  unfold nameL at h
  cases hc : cutC t with
  | none => rw [hc] at h; cases h
  | some q =>
    obtain ⟨a, r⟩ := q
    rw [hc] at h
    simp only at h
    split at h
    · rename_i hh
      obtain ⟨rfl, rfl⟩ := Prod.mk.inj (Option.some.inj h)
      exact ⟨cutC_some hc, hh.1⟩
    · cases h

theorem getD_at {ls : List (List UInt8)} {k : Nat} (h : k < ls.length) {l : List UInt8} (hl : ls.getD k [] = l) : ls.drop k = l :: ls.drop (k + 1) := by
  rw [List.drop_eq_getElem_cons h, ← hl, List.getD_eq_getElem?_getD, List.getElem?_eq_getElem h]; rfl

theorem contL_cons_yes {p : Nat} {l : List UInt8} {ls : List (List UInt8)} (h : goesB (textL l) = true) : contL p (l :: ls) = (textL l ++ (contL (p + l.length) ls).1, (contL (p + l.length) ls).2.1, (contL (p + l.length) ls).2.2) := by
  rw [contL, if_pos h]
theorem contL_cons_no {p : Nat} {l : List UInt8} {ls : List (List UInt8)} (h : goesB (textL l) = false) : contL p (l :: ls) = ([], p, l :: ls) := by
  rw [contL, if_neg (by simp [h])]

theorem OwnS.overB {w w' : World} {B2 : Nat} {v2 : Value} {ls : List (List UInt8)} (h : OwnS w B2 v2 ls) (hb : Below w.heap.size w w') : OwnS w' B2 v2 ls := by
  refine ⟨h.1, ?_⟩
  rcases h.2 with h0 | ⟨g, cap, cur, rfl, h1, h2, r⟩
  · exact .inl h0
  · exact .inr ⟨g, cap, cur, rfl, h1, (hb.block g (Array.getElem?_eq_some_iff.1 h2).1).trans h2, r⟩
/-- the lines' slice where all blocks but the fields' row are as they were -/
theorem OwnS.away {w w' : World} {B B2 : Nat} {v v2 : Value} {fs : List Fld} {ls : List (List UInt8)} (h : OwnS w B2 v2 ls) (hr : OwnF w B v fs) (hf : ∀ k, k < w.heap.size → v.ownBlock ≠ some k → w'.heap[k]? = w.heap[k]?) : OwnS w' B2 v2 ls := by
  refine ⟨h.1, ?_⟩
  rcases h.2 with h0 | ⟨g, cap, cur, rfl, h1, h2, r⟩
  · exact .inl h0
  · refine .inr ⟨g, cap, cur, rfl, h1, (hf g (Array.getElem?_eq_some_iff.1 h2).1 ?_).trans h2, r⟩
    intro e
    rcases hr.2 with ⟨rfl, _⟩ | ⟨g', cap', cur', rfl, _, hg', _⟩
    · cases e
    · obtain rfl : g' = g := by simpa [Value.ownBlock] using e
      rw [h2] at hg'
      simp at hg'

set_option maxRecDepth 100000 in
set_option maxHeartbeats 16000000 in
theorem refHeader_any (m : List UInt8) (w : World) (hm : m.length ≤ 100000000) : Calls Tryz.prog 30 #[.string (bs m)] w (HeaderP w.heap.size (refL 0 (linesOf m)) w) := by
  obtain ⟨i0, hi0, hz0, hz1, hz2⟩ := info_parts info_fld
  have hll := linesOf_length m
  have hm2 : m.length ≤ 1099511627776 := by omega
  obtain ⟨ls, hls⟩ : ∃ ls, linesOf m = ls := ⟨_, rfl⟩
  obtain ⟨G, hG⟩ : ∃ G, refL 0 ls = G := ⟨_, rfl⟩
  have hflat : ls.flatten = m := by rw [← hls]; exact linesOf_flatten m
  rw [hls] at hll ⊢
  rw [hG]
  have HLS := Lib.hid hls
  have HG := Lib.hid hG
  have HFL := Lib.hid hflat
  have HM := Lib.hid hm2
  have HMM := Lib.hid hm
  clear hls hG hflat hm2
  go_enter Tryz.func30, Tryz.ntmps30
  go_wp2_with fail
  refine (refSplit_any m _ HM.out).mono ?_
  rintro e w2 ⟨v2, rfl, o2, hb2⟩
  rw [HLS.out] at o2
  have k2 : OwnF w2 w.heap.size (.slice (some ⟨w.heap.size, 0, none⟩) 0 0) [] := OwnF.below (World.ownsRow_lit w #[] 0 (Nat.le_refl _) (by decide) rfl) hb2
  have hB2 : Below w.heap.size w w2 := ((Below.refl _ w).alloc (Nat.le_refl _) _).trans (hb2.mono (by simp))
  rw [size_alloc] at o2
  clear hb2
  obtain ⟨a2, n2, cap2, rfl, hn2⟩ := OwnS.form o2
  have hn2' : n2 ≤ 100000000 := by rw [hn2.out]; omega
  go_wp2_with fail
  go_loopw [4, 6, 7, 8, 9, 10, 11] (fun v4 v6 v7 _ _ _ _ wr => ∃ (k p : Nat) (fs : List Fld), k ≤ ls.length ∧ fs.length ≤ k ∧ v6 = .int .i64 p ∧ v7 = .int .i64 k ∧ OwnF wr w.heap.size v4 fs ∧ OwnS wr (w.heap.size + 1) (.slice a2 n2 cap2) ls ∧ Below w.heap.size w wr ∧ Hid ((fs ++ (refL p (ls.drop k)).1, (refL p (ls.drop k)).2) = G) ∧ Hid (p + (ls.drop k).flatten.length = m.length)) (fun _ _ v7 _ _ _ _ _ => ls.length - (intOf v7).toNat)
  case atStart => exact ⟨0, 0, [], Nat.zero_le _, Nat.le_refl _, rfl, rfl, k2, o2, hB2, by show _ = _; rw [List.drop_zero, HG.out]; rfl, by show _ = _; rw [List.drop_zero, HFL.out]; omega⟩
  case round =>
    obtain ⟨k, p, fs, hk, hfk, rfl, rfl, hof, hos, hB, hgo, hpl⟩ := hrel
    by_cases hlt : k < ls.length
    · obtain ⟨g, cap, hv2, hg⟩ := (OwnS.parts hos).resolve_left (fun h => by have := h.2; rw [this] at hlt; simp at hlt)
      obtain ⟨rfl, rfl, rfl⟩ : a2 = some ⟨g, 0, none⟩ ∧ n2 = ls.length ∧ cap2 = cap := by simpa using hv2
      obtain ⟨l, hl⟩ : ∃ l, ls.getD k [] = l := ⟨_, rfl⟩
      have hcell := (OwnS.set hos hlt []).1
      rw [hl] at hcell
      have hdrop := getD_at hlt hl
      obtain ⟨t, ht⟩ : ∃ t, textL l = t := ⟨_, rfl⟩
      have hpl' := hpl.out
      have hgo' := hgo.out
      rw [hdrop, refL_cons, ht] at hgo'
      rw [hdrop, List.flatten_cons, List.length_append] at hpl'
      have hll2 : l.length ≤ 100000000 := by omega
      have hpp : p + l.length ≤ 100000000 := by omega
      have htl : t.length ≤ l.length := by rw [← ht]; exact textL_len l
      have HPL : Hid (p + l.length + (ls.drop (k + 1)).flatten.length = m.length) := by show _ = _; omega
      have HT := Lib.hid ht
      have HOS := Lib.hid hos
      have HGO := Lib.hid hgo'
      have hlt' : (k : Int) < ls.length := by omega
      have hzr := hB.size
      clear hl hdrop hgo hpl hgo' hpl' ht hv2
      go_wp2_with fail
      refine (refText_any l _ (by omega)).mono ?_
      rintro e w' ⟨rfl, rfl⟩
      rw [HT.out]
      cases t with
      | nil =>
        have hG2 := HGO.out
        rw [if_pos rfl] at hG2
        have hG3 : G = (fs, p + l.length) := by rw [← hG2]; simp
        subst hG3
        go_wp2
        go_ret2
        exact ⟨_, by go_num, hof, hB⟩
      | cons c r =>
        have hG2 := HGO.out
        rw [if_neg (by simp)] at hG2
        obtain ⟨C, hC⟩ : ∃ C, contL (p + l.length) (ls.drop (k + 1)) = C := ⟨_, rfl⟩
        rw [hC] at hG2
        obtain ⟨CT, CQ, CR⟩ := C
        have HC := Lib.hid hC
        have HTL : Hid ((c :: r).length ≤ 1099511627776) := by show _ ≤ _; omega
        cases hn : nameL (c :: r) with
        | none =>
          rw [hn] at hG2
          have HG2 := Lib.hid hG2
          have hcv : colonV (c :: r) = -1 := by unfold colonV; rw [hn]
          have HCV := Lib.hid hcv
          simp only [List.length_cons] at htl
          clear hcv hG2 hC HGO hn
          go_wp2_with fail
          refine (colon_any (c :: r) _ HTL.out).mono ?_
          rintro e w' ⟨rfl, rfl⟩
          rw [HCV.out]
          obtain ⟨V0, hV0⟩ : ∃ V0 : List UInt8, [] = V0 := ⟨_, rfl⟩
          have HVE := Lib.hid hV0
          have HV0 : Hid (V0.length ≤ p + l.length) := by show _ ≤ _; rw [← hV0]; simp
          have HG9 := HG2.out
          clear hV0 HG9
          go_upto_block 2 with fail
          go_cut [6, 7, 10] from 46 to 81 (fun v6 v7 v10 wc => ∃ k1 : Nat, k < k1 ∧ k1 ≤ ls.length ∧ v6 = .int .i64 CQ ∧ v7 = .int .i64 k1 ∧ v10 = .string (bs (V0 ++ CT)) ∧ Below wr.heap.size wr wc ∧ (V0 ++ CT).length ≤ CQ ∧ Hid (CR = ls.drop k1) ∧ Hid (CQ + (ls.drop k1).flatten.length = m.length))
          case first =>
            go_wp2_with fail
            go_loopw [6, 7, 10] (fun v6 v7 v10 wq => ∃ (k1 p1 : Nat) (v1 : List UInt8), k < k1 ∧ k1 ≤ ls.length ∧ v6 = .int .i64 p1 ∧ v7 = .int .i64 k1 ∧ v10 = .string (bs v1) ∧ Below wr.heap.size wr wq ∧ v1.length ≤ p1 ∧ Hid ((v1 ++ (contL p1 (ls.drop k1)).1, (contL p1 (ls.drop k1)).2.1, (contL p1 (ls.drop k1)).2.2) = (V0 ++ CT, CQ, CR)) ∧ Hid (p1 + (ls.drop k1).flatten.length = m.length)) (fun _ v7 _ _ => ls.length - (intOf v7).toNat)
            case atStart => exact ⟨k + 1, p + l.length, V0, by omega, by omega, by go_num, by go_num, by rw [← HVE.out], by first | exact Below.refl _ _ | exact below_drewN (Below.refl _ _) _, HV0.out, by show _ = _; rw [HC.out], HPL.out⟩
            case round =>
              obtain ⟨k1, p1, v1, hk1, hk1l, rfl, rfl, rfl, hBq, hv1, hco, hp1⟩ := hrel
              have hosq := HOS.out.overB hBq
              by_cases hlt1 : k1 < ls.length
              · obtain ⟨l1, hl1⟩ : ∃ l1, ls.getD k1 [] = l1 := ⟨_, rfl⟩
                have hcell1 := (OwnS.set hosq hlt1 []).1
                rw [hl1] at hcell1
                have hdrop1 := getD_at hlt1 hl1
                obtain ⟨t1, ht1⟩ : ∃ t1, textL l1 = t1 := ⟨_, rfl⟩
                have hco' := hco.out
                have hp1' := hp1.out
                rw [hdrop1] at hco' hp1'
                rw [List.flatten_cons, List.length_append] at hp1'
                have hm9 := HMM.out
                have hll1 : l1.length ≤ 100000000 := by omega
                have hpp1 : p1 + l1.length ≤ 100000000 := by omega
                have htl1 : t1.length ≤ l1.length := by rw [← ht1]; exact textL_len l1
                have HP1 : Hid (p1 + l1.length + (ls.drop (k1 + 1)).flatten.length = m.length) := by show _ = _; omega
                have HT1 := Lib.hid ht1
                have HD1 := Lib.hid hdrop1
                have HCO := Lib.hid hco'
                have HL1 := Lib.hid hl1
                have hlt1' : (k1 : Int) < ls.length := by omega
                clear hl1 hdrop1 hco hp1 hco' hp1' ht1 hosq hm9
                go_wp2_with fail
                refine (refText_any l1 _ (by omega)).mono ?_
                rintro e w' ⟨rfl, rfl⟩
                rw [HT1.out]
                by_cases hb1 : goesB t1 = true
                · obtain ⟨c1, r1, rfl⟩ : ∃ c1 r1, t1 = c1 :: r1 := by
                    cases t1 with
                    | nil => cases hb1
                    | cons c1 r1 => exact ⟨c1, r1, rfl⟩
                  have hpos1 : 0 < l1.length := by have h9 := htl1; simp at h9; omega
                  have hx1 : (bs l1)[0]'(by rw [bs_size]; exact hpos1) = c1 := by obtain ⟨s1, hs⟩ := textL_head HT1.out; subst hs; rfl
                  have HB1 : Hid (blankB c1 = true) := hb1
                  have hco2 : Hid (((v1 ++ c1 :: r1) ++ (contL (p1 + l1.length) (ls.drop (k1 + 1))).1, (contL (p1 + l1.length) (ls.drop (k1 + 1))).2.1, (contL (p1 + l1.length) (ls.drop (k1 + 1))).2.2) = (V0 ++ CT, CQ, CR)) := by
                    have h9 := HCO.out
                    rw [contL_cons_yes (by rw [HT1.out]; exact hb1), HT1.out] at h9
                    show _ = _
                    rw [← h9]
                    simp
                  simp only [List.length_cons] at htl1
                  have hsz1 : ¬ 9223372036854775807 < v1.length + (r1.length + 1) := by omega
                  have HX : Hid ((v1 ++ c1 :: r1).length ≤ p1 + l1.length) := by show _ ≤ _; simp; omega
                  clear hb1 HCO
                  go_wp2_with fail
                  refine (blank_any c1 _).mono ?_
                  rintro e w' ⟨rfl, rfl⟩
                  rw [HB1.out]
                  clear hx1
                  go_wp2_with fail
                  refine (refText_any l1 _ (by omega)).mono ?_
                  rintro e w' ⟨rfl, rfl⟩
                  rw [HT1.out]
                  go_wp2
                  go_roundw
                  case rel => exact ⟨k1 + 1, p1 + l1.length, v1 ++ c1 :: r1, by omega, by omega, by go_num, by go_num, by rw [bs_append], hBq, HX.out, hco2, HP1.out⟩
                  case measure => simp [intOf]; omega
                · have hb1f : goesB t1 = false := by simpa using hb1
                  have h9 := HCO.out
                  rw [contL_cons_no (by rw [HT1.out]; exact hb1f)] at h9
                  have h9a : v1 = V0 ++ CT := by simpa using congrArg Prod.fst h9
                  have h9b : p1 = CQ := congrArg (fun q => q.2.1) h9
                  have h9c : l1 :: ls.drop (k1 + 1) = CR := congrArg (fun q => q.2.2) h9
                  have HQ : Hid (CR = ls.drop k1) := by show _ = _; rw [HD1.out, h9c]
                  have HQ2 : Hid (CQ + (ls.drop k1).flatten.length = m.length) := by
                    show _ = _
                    rw [HD1.out, List.flatten_cons, List.length_append, ← h9b]
                    have := HP1.out; omega
                  have HQ3 : Hid ((V0 ++ CT).length ≤ CQ) := by show _ ≤ _; rw [← h9a, ← h9b]; exact hv1
                  subst h9b
                  have H9A := Lib.hid h9a
                  clear h9 h9c h9a HCO
                  cases t1 with
                  | nil =>
                    clear hb1 hb1f
                    go_wp2
                    go_meet
                    case rel => exact ⟨k1, hk1, hk1l, rfl, rfl, by rw [H9A.out], hBq, HQ3.out, HQ, HQ2⟩
                  | cons c1 r1 =>
                    have hpos1 : 0 < l1.length := by have h9 := htl1; simp at h9; omega
                    have hx1 : (bs l1)[0]'(by rw [bs_size]; exact hpos1) = c1 := by obtain ⟨s1, hs⟩ := textL_head HT1.out; subst hs; rfl
                    have HB1 : Hid (blankB c1 = false) := hb1f
                    clear hb1 hb1f
                    simp only [List.length_cons] at htl1
                    go_wp2_with fail
                    refine (blank_any c1 _).mono ?_
                    rintro e w' ⟨rfl, rfl⟩
                    rw [HB1.out]
                    clear hx1
                    go_wp2
                    go_meet
                    case rel => exact ⟨k1, hk1, hk1l, rfl, rfl, by rw [H9A.out], hBq, HQ3.out, HQ, HQ2⟩
              · obtain rfl : k1 = ls.length := by omega
                have h9 := hco.out
                rw [List.drop_length, contL] at h9
                have h9a : v1 = V0 ++ CT := by simpa using congrArg Prod.fst h9
                have h9b : p1 = CQ := congrArg (fun q => q.2.1) h9
                have h9c : [] = CR := congrArg (fun q => q.2.2) h9
                have HQ : Hid (CR = ls.drop ls.length) := by show _ = _; rw [List.drop_length, h9c]
                have HQ3 : Hid ((V0 ++ CT).length ≤ CQ) := by show _ ≤ _; rw [← h9a, ← h9b]; exact hv1
                subst h9b
                have H9A := Lib.hid h9a
                clear h9 h9c h9a hco hlt1 hosq
                go_wp2
                go_meet
                case rel => exact ⟨ls.length, hk1, Nat.le_refl _, rfl, rfl, by rw [H9A.out], hBq, HQ3.out, HQ, hp1⟩
          case rest =>
            obtain ⟨k1, hk1, hk1l, rfl, rfl, rfl, hBc, hvl, hCR, hCQ⟩ := hcut
            have HGN : Hid ((fs ++ (refL CQ (ls.drop k1)).1, (refL CQ (ls.drop k1)).2) = G) := by
              show _ = _
              rw [← hCR.out]; exact HG2.out
            clear HG2
            go_wp2
            go_roundw
            case rel => exact ⟨k1, CQ, fs, hk1l, by omega, rfl, rfl, hof.below hBc, HOS.out.overB hBc, hB.trans (hBc.mono hzr), HGN, hCQ⟩
            case measure => simp [intOf]; omega
        | some q =>
          obtain ⟨n, v⟩ := q
          rw [hn] at hG2
          have hgb : goesB (c :: r) = false := by
            cases hh : goesB (c :: r) with
            | false => rfl
            | true => rw [nameL_goes hh] at hn; cases hn
          dsimp only at hG2
          rw [if_neg (by rw [hgb]; simp)] at hG2
          have HG2 := Lib.hid hG2
          have hcv : colonV (c :: r) = n.length := by unfold colonV; rw [hn]
          have HCV := Lib.hid hcv
          obtain ⟨hsp, hne⟩ := name_parts hn
          have hlen9 : r.length + 1 = n.length + (v.length + 1) := by have := congrArg List.length hsp; simpa using this
          have hzn : (bs (c :: r)).extract 0 n.length = bs n := by rw [bs_take, hsp]; simp
          have hzv : (bs (c :: r)).extract (n.length + 1) (r.length + 1) = bs v := by
            rw [bs_drop _ _ _ (by simp), hsp]
            simp
          have hx0 : (bs (c :: r))[0]'(by rw [bs_size]; simp) = c := rfl
          have HB0 : Hid (blankB c = false) := hgb
          have hle9 : n.length + 1 ≤ r.length + 1 := by omega
          have HV0 : Hid (v.length ≤ p + l.length) := by show _ ≤ _; simp only [List.length_cons] at htl; omega
          have HX0 := Lib.hid hx0
          have hle8 : (n.length : Int) ≤ r.length + 1 := by omega
          have HZN := Lib.hid hzn
          simp only [List.length_cons] at htl
          clear hcv hG2 hC HGO hn hsp hne hgb hlen9 hx0 hzn
          go_wp2_with fail
          refine (colon_any (c :: r) _ HTL.out).mono ?_
          rintro e w' ⟨rfl, rfl⟩
          rw [HCV.out]
          go_upto_block 2 with fail
          go_cut [6, 7, 10] from 46 to 81 (fun v6 v7 v10 wc => ∃ k1 : Nat, k < k1 ∧ k1 ≤ ls.length ∧ v6 = .int .i64 CQ ∧ v7 = .int .i64 k1 ∧ v10 = .string (bs (v ++ CT)) ∧ Below wr.heap.size wr wc ∧ (v ++ CT).length ≤ CQ ∧ Hid (CR = ls.drop k1) ∧ Hid (CQ + (ls.drop k1).flatten.length = m.length))
          case first =>
            go_wp2_with fail
            go_loopw [6, 7, 10] (fun v6 v7 v10 wq => ∃ (k1 p1 : Nat) (v1 : List UInt8), k < k1 ∧ k1 ≤ ls.length ∧ v6 = .int .i64 p1 ∧ v7 = .int .i64 k1 ∧ v10 = .string (bs v1) ∧ Below wr.heap.size wr wq ∧ v1.length ≤ p1 ∧ Hid ((v1 ++ (contL p1 (ls.drop k1)).1, (contL p1 (ls.drop k1)).2.1, (contL p1 (ls.drop k1)).2.2) = (v ++ CT, CQ, CR)) ∧ Hid (p1 + (ls.drop k1).flatten.length = m.length)) (fun _ v7 _ _ => ls.length - (intOf v7).toNat)
            case atStart => exact ⟨k + 1, p + l.length, v, by omega, by omega, by go_num, by go_num, rfl, by first | exact Below.refl _ _ | exact below_drewN (Below.refl _ _) _, HV0.out, by show _ = _; rw [HC.out], HPL.out⟩
            case round =>
              obtain ⟨k1, p1, v1, hk1, hk1l, rfl, rfl, rfl, hBq, hv1, hco, hp1⟩ := hrel
              have hosq := HOS.out.overB hBq
              by_cases hlt1 : k1 < ls.length
              · obtain ⟨l1, hl1⟩ : ∃ l1, ls.getD k1 [] = l1 := ⟨_, rfl⟩
                have hcell1 := (OwnS.set hosq hlt1 []).1
                rw [hl1] at hcell1
                have hdrop1 := getD_at hlt1 hl1
                obtain ⟨t1, ht1⟩ : ∃ t1, textL l1 = t1 := ⟨_, rfl⟩
                have hco' := hco.out
                have hp1' := hp1.out
                rw [hdrop1] at hco' hp1'
                rw [List.flatten_cons, List.length_append] at hp1'
                have hm9 := HMM.out
                have hll1 : l1.length ≤ 100000000 := by omega
                have hpp1 : p1 + l1.length ≤ 100000000 := by omega
                have htl1 : t1.length ≤ l1.length := by rw [← ht1]; exact textL_len l1
                have HP1 : Hid (p1 + l1.length + (ls.drop (k1 + 1)).flatten.length = m.length) := by show _ = _; omega
                have HT1 := Lib.hid ht1
                have HD1 := Lib.hid hdrop1
                have HCO := Lib.hid hco'
                have HL1 := Lib.hid hl1
                have hlt1' : (k1 : Int) < ls.length := by omega
                clear hl1 hdrop1 hco hp1 hco' hp1' ht1 hosq hm9
                go_wp2_with fail
                refine (refText_any l1 _ (by omega)).mono ?_
                rintro e w' ⟨rfl, rfl⟩
                rw [HT1.out]
                by_cases hb1 : goesB t1 = true
                · obtain ⟨c1, r1, rfl⟩ : ∃ c1 r1, t1 = c1 :: r1 := by
                    cases t1 with
                    | nil => cases hb1
                    | cons c1 r1 => exact ⟨c1, r1, rfl⟩
                  have hpos1 : 0 < l1.length := by have h9 := htl1; simp at h9; omega
                  have hx1 : (bs l1)[0]'(by rw [bs_size]; exact hpos1) = c1 := by obtain ⟨s1, hs⟩ := textL_head HT1.out; subst hs; rfl
                  have HB1 : Hid (blankB c1 = true) := hb1
                  have hco2 : Hid (((v1 ++ c1 :: r1) ++ (contL (p1 + l1.length) (ls.drop (k1 + 1))).1, (contL (p1 + l1.length) (ls.drop (k1 + 1))).2.1, (contL (p1 + l1.length) (ls.drop (k1 + 1))).2.2) = (v ++ CT, CQ, CR)) := by
                    have h9 := HCO.out
                    rw [contL_cons_yes (by rw [HT1.out]; exact hb1), HT1.out] at h9
                    show _ = _
                    rw [← h9]
                    simp
                  simp only [List.length_cons] at htl1
                  have hsz1 : ¬ 9223372036854775807 < v1.length + (r1.length + 1) := by omega
                  have HX : Hid ((v1 ++ c1 :: r1).length ≤ p1 + l1.length) := by show _ ≤ _; simp; omega
                  clear hb1 HCO
                  go_wp2_with fail
                  refine (blank_any c1 _).mono ?_
                  rintro e w' ⟨rfl, rfl⟩
                  rw [HB1.out]
                  clear hx1
                  go_wp2_with fail
                  refine (refText_any l1 _ (by omega)).mono ?_
                  rintro e w' ⟨rfl, rfl⟩
                  rw [HT1.out]
                  go_wp2
                  go_roundw
                  case rel => exact ⟨k1 + 1, p1 + l1.length, v1 ++ c1 :: r1, by omega, by omega, by go_num, by go_num, by rw [bs_append], hBq, HX.out, hco2, HP1.out⟩
                  case measure => simp [intOf]; omega
                · have hb1f : goesB t1 = false := by simpa using hb1
                  have h9 := HCO.out
                  rw [contL_cons_no (by rw [HT1.out]; exact hb1f)] at h9
                  have h9a : v1 = v ++ CT := by simpa using congrArg Prod.fst h9
                  have h9b : p1 = CQ := congrArg (fun q => q.2.1) h9
                  have h9c : l1 :: ls.drop (k1 + 1) = CR := congrArg (fun q => q.2.2) h9
                  have HQ : Hid (CR = ls.drop k1) := by show _ = _; rw [HD1.out, h9c]
                  have HQ2 : Hid (CQ + (ls.drop k1).flatten.length = m.length) := by
                    show _ = _
                    rw [HD1.out, List.flatten_cons, List.length_append, ← h9b]
                    have := HP1.out; omega
                  have HQ3 : Hid ((v ++ CT).length ≤ CQ) := by show _ ≤ _; rw [← h9a, ← h9b]; exact hv1
                  subst h9b
                  have H9A := Lib.hid h9a
                  clear h9 h9c h9a HCO
                  cases t1 with
                  | nil =>
                    clear hb1 hb1f
                    go_wp2
                    go_meet
                    case rel => exact ⟨k1, hk1, hk1l, rfl, rfl, by rw [H9A.out], hBq, HQ3.out, HQ, HQ2⟩
                  | cons c1 r1 =>
                    have hpos1 : 0 < l1.length := by have h9 := htl1; simp at h9; omega
                    have hx1 : (bs l1)[0]'(by rw [bs_size]; exact hpos1) = c1 := by obtain ⟨s1, hs⟩ := textL_head HT1.out; subst hs; rfl
                    have HB1 : Hid (blankB c1 = false) := hb1f
                    clear hb1 hb1f
                    simp only [List.length_cons] at htl1
                    go_wp2_with fail
                    refine (blank_any c1 _).mono ?_
                    rintro e w' ⟨rfl, rfl⟩
                    rw [HB1.out]
                    clear hx1
                    go_wp2
                    go_meet
                    case rel => exact ⟨k1, hk1, hk1l, rfl, rfl, by rw [H9A.out], hBq, HQ3.out, HQ, HQ2⟩
              · obtain rfl : k1 = ls.length := by omega
                have h9 := hco.out
                rw [List.drop_length, contL] at h9
                have h9a : v1 = v ++ CT := by simpa using congrArg Prod.fst h9
                have h9b : p1 = CQ := congrArg (fun q => q.2.1) h9
                have h9c : [] = CR := congrArg (fun q => q.2.2) h9
                have HQ : Hid (CR = ls.drop ls.length) := by show _ = _; rw [List.drop_length, h9c]
                have HQ3 : Hid ((v ++ CT).length ≤ CQ) := by show _ ≤ _; rw [← h9a, ← h9b]; exact hv1
                subst h9b
                have H9A := Lib.hid h9a
                clear h9 h9c h9a hco hlt1 hosq
                go_wp2
                go_meet
                case rel => exact ⟨ls.length, hk1, Nat.le_refl _, rfl, rfl, by rw [H9A.out], hBq, HQ3.out, HQ, hp1⟩
          case rest =>
            obtain ⟨k1, hk1, hk1l, rfl, rfl, rfl, hBc, hvl, hCR, hCQ⟩ := hcut
            have HGN : Hid (((fs ++ [⟨n, trimB (v ++ CT), p, CQ⟩]) ++ (refL CQ (ls.drop k1)).1, (refL CQ (ls.drop k1)).2) = G) := by
              show _ = _
              rw [← hCR.out, ← HG2.out]
              simp
            have hofc := hof.below hBc
            have hosc := HOS.out.overB hBc
            have hBcc : Below w.heap.size w wc := hB.trans (hBc.mono hzr)
            have hzc : w.heap.size ≤ wc.heap.size := hBcc.size
            have hcqm : CQ ≤ 100000000 := by have := hCQ.out; have := HMM.out; omega
            have HVL : Hid ((v ++ CT).length ≤ 1099511627776) := by show _ ≤ _; omega
            have hx0 := HX0.out
            have hzn := HZN.out
            clear HG2 hzv hcell
            go_wp2_with fail
            refine (blank_any c _).mono ?_
            rintro e w' ⟨rfl, rfl⟩
            rw [HB0.out]
            go_wp2_with fail

            go_region_law (first | (refine step_append_lies _ (by rfl) _ _ _ (by rfl) w.heap.size 82 i0 _ 4 48 Tryz.underlying47 hi0 hz0 hz1 hz2 rfl (by omega) _ fs.length (cellsF fs) (by rfl) ((World.ownsRow.alloc hofc _).drew) ⟨wc.heap.size, 0, none⟩ 1 1 [.string (bs n), .string (bs (trimB (v ++ CT))), .int .i64 p, .int .i64 CQ] (by rfl) (by rfl) (World.news_of_block (cs := #[.string (bs n), .string (bs (trimB (v ++ CT))), .int .i64 p, .int .i64 CQ]) (t := 82) (fr := (0, 0)) (heap_new wc _)) (by simp [Value.oneCell']) (by omega) (by unfold maxLen; omega) (by omega) (by simp; omega) (wc.heap.size + 1) (by simp) ?_; intro gg cap w2 hown2 hgrow hat hlt) | (go_simp; go_wp2_with (refine (refTrim_any _ _ HVL.out).mono ?_; rintro e w' ⟨rfl, rfl⟩)))
            all_goals
              go_wp2
              simp only [List.getElem_toArray, List.getElem_cons_succ, List.getElem_cons_zero, Act.put, List.setIfInBounds_toArray, List.set_cons_succ, List.set_cons_zero]
              go_roundw
              case rel =>
                refine ⟨k1, CQ, fs ++ [⟨n, trimB (v ++ CT), p, CQ⟩], hk1l, by simp; omega, rfl, rfl, ?_, OwnS.away hosc hofc (fun k hk hne => (hgrow.block k (by simp; omega) (fun e => hne e.symm)).trans (heap_old wc _ _ hk)), hBcc.trans ⟨hgrow.os, hgrow.tape, hgrow.output, by have := hgrow.size; simp at this; omega, fun k hk => (hgrow.block k (by simp; omega) (fun e => by have := (World.ownsRow.lt hofc k e.symm).1; omega)).trans (heap_old wc _ _ (by omega))⟩, HGN, hCQ⟩
                unfold OwnF
                rw [List.length_append, cellsF_append]
                exact hown2
              case measure => simp [intOf]; omega
    · obtain rfl : k = ls.length := by omega
      have hG2 := hgo.out
      rw [List.drop_length, refL] at hG2
      have hG3 : G = (fs, p) := by rw [← hG2]; simp
      subst hG3
      have hge : ¬ (ls.length : Int) < n2 := by rw [hn2.out]; omega
      go_wp2
      go_ret2
      exact ⟨_, rfl, hof, hB⟩

end Go.Proofs.YtifjibgnjjiggaaGreatDoor
end

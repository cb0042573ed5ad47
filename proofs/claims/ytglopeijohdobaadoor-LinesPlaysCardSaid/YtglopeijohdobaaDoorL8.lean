/- LinesPieces: the walk. -/
import Derived.Test.YtglopeijohdobaaDoorL7
import Derived.ArgAppend
import Derived.Laws.AppendOwnNone
import Derived.Deep.DeepCutAuto
set_option linter.unusedVariables false
set_option linter.unusedSimpArgs false
namespace Go.Proofs.YtglopeijohdobaaDoor
open Go.RowKit

theorem Upd.grown {b : Nat} {w w' w'' : World} {o : Option Nat} (h : Upd b w w') (hg : w'.grownBy w'' o) (ho : ∀ k, o = some k → w.heap.size ≤ k) : Upd b w w'' :=
  ⟨hg.os.trans h.os, hg.tape.trans h.tape, hg.output.trans h.output, Nat.le_trans h.size hg.size, fun k hk hb => (hg.block k (Nat.lt_of_lt_of_le hk h.size) (fun e => absurd (ho k e.symm) (by omega))).trans (h.block k hk hb)⟩
theorem OwnN.step {w' : World} {B : Nat} {v' : Value} {ls : List Ln} {f : Ln} (h : w'.ownsRow B 30 2 v' (ls.length + 1) (cellsN ls ++ cellsLn f)) : OwnN w' B v' (ls ++ [f]) := by
  unfold OwnN
  rw [cellsN_append, List.length_append]
  simpa [cellsN] using h
theorem cutNl_of_told {h : List UInt8} (e : (toldL h).1 = []) : cutNl h = none := by
  cases hc : cutNl h with
  | none => rfl
  | some q => obtain ⟨s, r⟩ := q; rw [toldL_some hc] at e; cases e
/-- c's row: the literal, or new -/
def RowC (w : World) (B g : Nat) (v : Value) (ls : List Ln) : Prop := (v = .slice (some ⟨g, 0, none⟩) 0 0 ∧ ls = []) ∨ OwnN w B v ls
theorem RowC.form {w : World} {B g : Nat} {v : Value} {fs : List Ln} (h : RowC w B g v fs) : ∃ a n cap, v = .slice a n cap ∧ Hid (n = fs.length) := by
  rcases h with ⟨rfl, rfl⟩ | h
  · exact ⟨_, _, _, rfl, rfl⟩
  · exact h.form
theorem RowC.upd {w w' : World} {B b g : Nat} {v : Value} {fs : List Ln} {h : List UInt8} {k : Int} (ho : RowC w B g v fs) (hk : RdAt w b h k) (hu : Upd b w w') : RowC w' B g v fs := by
  rcases ho with h0 | h0
  · exact .inl h0
  · exact .inr (h0.upd hk hu)
theorem RowC.below {w w' : World} {B g : Nat} {v : Value} {fs : List Ln} (ho : RowC w B g v fs) (hb : Below w.heap.size w w') : RowC w' B g v fs := by
  rcases ho with h0 | h0
  · exact .inl h0
  · exact .inr (h0.below hb)

theorem info_int : (Tryd.prog.info? 3).map (fun i => (i.zero, i.size, i.bytes)) = some (some (.int .i64 0), 1, 8) := by kernel_rfl
def cellsI (l : List Int) : List Value := l.map fun k => .int .i64 k
def OwnI (w : World) (B : Nat) (v : Value) (l : List Int) : Prop := w.ownsRow B 3 1 v l.length (cellsI l)
theorem OwnI.step {w' : World} {B : Nat} {v' : Value} {ls : List Int} {k : Int} (h : w'.ownsRow B 3 1 v' (ls.length + 1) (cellsI ls ++ [.int .i64 k])) : OwnI w' B v' (ls ++ [k]) := by
  unfold OwnI
  rw [List.length_append]
  simpa [cellsI] using h
theorem OwnI.parts {w : World} {B : Nat} {v : Value} {l : List Int} (h : OwnI w B v l) (hl : l ≠ []) : ∃ g cap, v = .slice (some ⟨g, 0, none⟩) l.length cap ∧ g < w.heap.size ∧ B ≤ g := by
  have hlt := World.ownsRow.lt h
  rcases h.2 with ⟨rfl, h0⟩ | ⟨g, cap, cur, rfl, hb, hg, hc, _, _, ht⟩
  · exact absurd (List.eq_nil_of_length_eq_zero h0) hl
  · exact ⟨g, cap, rfl, (hlt g rfl).2, (hlt g rfl).1⟩
theorem OwnI.cell {w : World} {B g n cap : Nat} {l : List Int} (h : OwnI w B (.slice (some ⟨g, 0, none⟩) n cap) l) (j : Nat) (k : Int) (hj : l[j]? = some k) : w.cell? ⟨g, j, none⟩ = some (.int .i64 k) := by
  obtain ⟨hlt, _⟩ := List.getElem?_eq_some_iff.1 hj
  have hn : n = l.length := by
    rcases h.2 with ⟨h, _⟩ | ⟨g', cap', cur, h, _⟩
    · cases h
    · simp at h; omega
  have := World.ownsRow.cellAt (n := l.length) (by rw [← hn]; rw [hn]; exact hn ▸ h) j (by omega)
  rw [this]
  simp [cellsI, hj]
theorem OwnN.base {w : World} {b b' : Nat} {v : Value} {l : List Ln} (h : OwnN w b v l) (hb : b' ≤ b) : OwnN w b' v l := by
  refine ⟨h.1, ?_⟩
  rcases h.2 with h0 | ⟨g, cap, cur, rfl, h1, r⟩
  · exact .inl h0
  · exact .inr ⟨g, cap, cur, rfl, Nat.le_trans hb h1, r⟩
theorem cutNl_more {h s r : List UInt8} (e : cutNl h = some (s, r)) (v : List UInt8) : cutNl (h ++ v) = some (s, r ++ v) := by
  obtain ⟨h1, h2⟩ := cutNl_some e
  rw [h1, List.append_assoc, List.cons_append]
  exact cutNl_mk s (r ++ v) h2
theorem piece_drop (B : List UInt8) {p q : Nat} (h : p ≤ q) : (B.drop p).take (q - p) ++ B.drop q = B.drop p := by
  have := List.take_append_drop (q - p) (B.drop p)
  rwa [List.drop_drop, show p + (q - p) = q by omega] at this
theorem ArgB.subz {w w' : World} {a : Option Addr} {n c : Nat} {l : List UInt8} (h : ArgB w (.slice a n c) l) {p q : Nat} (hpq : p ≤ q) (hq : q ≤ l.length) (hb : Below w.heap.size w w') :
    BytesZ w' (.slice (if c = p then a else a.map (fun x => x.add p)) (q - p) (c - p)) ((l.drop p).take (q - p)) := by
  obtain ⟨a', c', h1, h2, h3⟩ := h
  obtain ⟨rfl, rfl, rfl⟩ : a = a' ∧ n = l.length ∧ c = c' := by simpa using h1
  have hlen : ((l.drop p).take (q - p)).length = q - p := by simp; omega
  by_cases hpq2 : p = q
  · subst hpq2
    have e0 : (l.drop p).take (p - p) = [] := by simp
    rw [e0, Nat.sub_self]
    cases (if c = p then a else a.map (fun x => x.add p)) with
    | none => exact .inl ⟨_, rfl, rfl⟩
    | some A => exact .inr ⟨A, _, rfl, fun j hj => by simp at hj⟩
  · obtain ⟨b, o, rfl, h5, h6⟩ := h3 (by rintro rfl; simp at hq; omega)
    have hcp : ¬ c = p := by omega
    rw [if_neg hcp]
    refine .inr ⟨⟨b, o + p, none⟩, c - p, by rw [hlen]; simp [add_pl], fun j hj => ?_⟩
    rw [hlen] at hj
    rw [add_pl, show o + p + j = o + (p + j) by omega]
    refine ((hb.cell (p := ⟨b, o + (p + j), none⟩) h5).trans (h6 (p + j) (by omega))).trans ?_
    simp [List.getD, show p + j < l.length by omega]
theorem mod_len (n : Int) (L p : Nat) (hp : p ≤ L) (hL : L ≤ 20000) : ∃ E : Nat, p ≤ E ∧ E ≤ L ∧ wrap64 ((p : Int) + wrap64 ((IntKind.u64.wrap n).tmod ((L : Int) - p + 1))) = (E : Int) := by
  rw [IntKind.wrap_u64, Int.tmod_eq_emod_of_nonneg (by omega)]
  have h1 : 0 ≤ (n % 18446744073709551616) % ((L : Int) - p + 1) := Int.emod_nonneg _ (by omega)
  have h2 : (n % 18446744073709551616) % ((L : Int) - p + 1) < (L : Int) - p + 1 := Int.emod_lt_of_pos _ (by omega)
  generalize (n % 18446744073709551616) % ((L : Int) - p + 1) = x at h1 h2
  exact ⟨p + x.toNat, by omega, by omega, by unfold wrap64; omega⟩
/-- append onto the empty literal, or onto an own row -/
theorem wpList_append_lit {P : Program} {w : World} {ops : Array Oper} {rest : List Oper} {o : Oper} {a : Act} {Q : Exit → Act → World → Prop} (hgd : o.guard = none) (s x : Operand) (t : TypeId)
    (ho : o.op = .call { callee := .builtin .append, args := #[s, x], argTypes := #[t, t] })
    (base : Nat) (e : TypeId) (i : TypeInfo) (z : Value) (size bytes : Nat) (ht : P.underlying t = some (.slice e)) (hi : P.info? e = some i) (hz : i.zero = some z)
    (hsize : i.size = size) (hby : i.bytes = bytes) (hzs : z.cells.size = size) (hsz : 0 < size)
    (g : Nat) (v : Value) (n : Nat) (xs : List Value) (hs : a.eval s = v) (hown : (v = .slice (some ⟨g, 0, none⟩) 0 0 ∧ n = 0 ∧ xs = []) ∨ w.ownsRow base e size v n xs)
    (ad : Addr) (m c : Nat) (news : List Value) (hx : a.eval x = .slice (some ad) m c) (hm : 0 < m) (hl : news.length = m * size) (hnews : ∀ j u, news[j]? = some u → w.cell? (ad.add j) = some u) (h1 : ∀ u ∈ news, u.oneCell' = true)
    (h63 : n + m ≤ maxLen) (hbytes : (n + m) * bytes ≤ 140737488355328) (hbase : base ≤ w.heap.size)
    (h : ∀ v' w' B' q, base ≤ B' → w'.ownsRow B' e size v' (n + m) (xs ++ news) → w.grownBy w' q → (∀ k, q = some k → base ≤ k) → wpList P ops Q rest (a.put o.dst v') w') : wpList P ops Q (o :: rest) a w := by
  rcases hown with ⟨rfl, rfl, rfl⟩ | hown
  · exact wpList_append_grows w hgd s x t ho e i z size bytes ht hi hz hsize hby hzs hsz (some ⟨g, 0, none⟩) 0 0 [] hs (by simp) (by simp) (by simp) ad m c news hx hl hnews h1 (by omega) h63 hbytes fun v' w' h2 h3 => h v' w' w.heap.size none hbase h2 h3 (by simp)
  · exact wpList_append_own w hgd s x t ho base e i z size bytes ht hi hz hsize hby hzs hsz v n xs hs hown ad m c news hx hl hnews h1 h63 hbytes hbase fun v' w' h2 h3 _ => h v' w' base _ (Nat.le_refl _) h2 h3 (fun k e => (World.ownsRow.lt hown k e).1)
theorem RdAt.trans_grown {w w' : World} {b : Nat} {h : List UInt8} {k : Int} {o : Option Nat} (hk : RdAt w b h k) (hg : w.grownBy w' o) (hv : o ≠ some b) : RdAt w' b h k :=
  (hg.block b hk.lt (fun e => hv e.symm)).trans hk
/-- what a reader holds, read out of the world -/
def heldAt (w : World) (b : Nat) : Nat := match w.cell? ⟨b, 0, none⟩ with | some (.string x) => x.size | _ => 0
theorem heldAt_rd {w : World} {b : Nat} {h : List UInt8} {k : Int} (hk : RdAt w b h k) : heldAt w b = h.length := by
  unfold heldAt
  rw [(rd_cells hk).1]
  exact bs_size h
/-- append(own, xs...), xs nil or not -/
theorem wpList_append_opt {P : Program} {w : World} {ops : Array Oper} {rest : List Oper} {o : Oper} {a : Act} {Q : Exit → Act → World → Prop} (hgd : o.guard = none) (s x : Operand) (t : TypeId)
    (ho : o.op = .call { callee := .builtin .append, args := #[s, x], argTypes := #[t, t] })
    (base : Nat) (e : TypeId) (i : TypeInfo) (z : Value) (size bytes : Nat) (ht : P.underlying t = some (.slice e)) (hi : P.info? e = some i) (hz : i.zero = some z)
    (hsize : i.size = size) (hby : i.bytes = bytes) (hzs : z.cells.size = size) (hsz : 0 < size)
    (v : Value) (n : Nat) (xs : List Value) (hs : a.eval s = v) (hown : w.ownsRow base e size v n xs)
    (ao : Option Addr) (m c : Nat) (news : List Value) (hx : a.eval x = .slice ao m c) (hnone : ao = none → m = 0 ∧ c = 0) (hl : news.length = m * size) (hnews : ∀ ad, ao = some ad → ∀ j u, news[j]? = some u → w.cell? (ad.add j) = some u) (h1 : ∀ u ∈ news, u.oneCell' = true)
    (h63 : n + m ≤ maxLen) (hbytes : (n + m) * bytes ≤ 140737488355328) (hbase : base ≤ w.heap.size)
    (h : ∀ v' w', w'.ownsRow base e size v' (n + m) (xs ++ news) → w.grownBy w' v.ownBlock → wpList P ops Q rest (a.put o.dst v') w') : wpList P ops Q (o :: rest) a w := by
  cases ao with
  | some ad => exact wpList_append_own w hgd s x t ho base e i z size bytes ht hi hz hsize hby hzs hsz v n xs hs hown ad m c news hx hl (hnews ad rfl) h1 h63 hbytes hbase fun v' w' h2 h3 _ => h v' w' h2 h3
  | none =>
    obtain ⟨rfl, rfl⟩ := hnone rfl
    obtain rfl : news = [] := List.eq_nil_of_length_eq_zero (by simpa using hl)
    exact wpList_append_own_none hgd s x t ho base e i size ht hi v n xs hs hown hx (h v w (by simpa using hown) ⟨rfl, rfl, rfl, Nat.le_refl _, fun _ _ _ => rfl⟩)
theorem ArgI.below {w w' : World} {v : Value} {l : List Int} (h : ArgI w v l) (hb : Below w.heap.size w w') : ArgI w' v l := by
  obtain ⟨a, c, h1, h2, h0, h3⟩ := h
  refine ⟨a, c, h1, h2, h0, fun hne => ?_⟩
  obtain ⟨b, o, h4, h5, h6⟩ := h3 hne
  exact ⟨b, o, h4, Nat.lt_of_lt_of_le h5 hb.size, fun j hj => (hb.cell (p := ⟨b, o + j, none⟩) h5).trans (h6 j hj)⟩
theorem ArgI.opt {w : World} {a : Option Addr} {n c : Nat} {l : List Int} (h : ArgI w (.slice a n c) l) : (a = none → n = 0 ∧ c = 0) ∧ ∀ ad, a = some ad → ∀ j u, (cellsI l)[j]? = some u → w.cell? (ad.add j) = some u := by
  obtain ⟨a', c', h1, h2, h0, h3⟩ := h
  obtain ⟨rfl, rfl, rfl⟩ : a = a' ∧ n = l.length ∧ c = c' := by simpa using h1
  refine ⟨fun e => ⟨?_, h0 e⟩, fun ad e j u hj => ?_⟩
  · have := h0 e; omega
  · have hjl : j < l.length := by
      obtain ⟨hh, _⟩ := List.getElem?_eq_some_iff.1 hj
      simpa [cellsI] using hh
    obtain ⟨b, o, h4, _, h6⟩ := h3 (by rintro rfl; simp at hjl)
    rw [e] at h4
    obtain rfl := Option.some.inj h4
    rw [add_pl, h6 j hjl]
    simp [cellsI, hjl] at hj
    simp [List.getD, hjl, hj]

set_option maxRecDepth 100000 in
set_option maxHeartbeats 4000000 in
theorem linesPieces_any (v : Value) (B : List UInt8) (v2 : Value) (ns : List Int) (w : World) (hv : ArgB w v B) (hv2 : ArgI w v2 ns) :
    Calls Tryd.prog 3 #[v, v2] w fun e w' => e = .returned (.bool true) ∧ Below w.heap.size w w' := by
  obtain ⟨i0, hi, hz0, hz1, hz2⟩ := info_parts info_ln
  have HV := Lib.hid hv
  have HV2 := Lib.hid hv2
  obtain ⟨va, vc, rfl, _, _⟩ := hv
  obtain ⟨na, nc, rfl, _, _, _⟩ := hv2
  go_enter Tryd.func3, Tryd.ntmps3
  by_cases hlen : B.length ≤ 20000 ∧ ns.length ≤ 200
  case neg =>
    rcases Nat.lt_or_ge 20000 B.length with hx | hx
    · have d0 : decide ((20000 : Int) < B.length) = true := by simp; omega
      clear hlen
      go_wp2_with (go_at_call 7; refine (alive_any _).mono ?_; rintro e w1 ⟨rfl, hb1⟩)
      go_ret
      exact ⟨rfl, hb1⟩
    · have d0 : decide ((20000 : Int) < B.length) = false := by simp; omega
      have d1 : decide ((200 : Int) < ns.length) = true := by simp; omega
      clear hlen
      go_wp2_with (go_at_call 7; refine (alive_any _).mono ?_; rintro e w1 ⟨rfl, hb1⟩)
      go_ret
      exact ⟨rfl, hb1⟩
  obtain ⟨hl1, hl2⟩ := hlen
  have d0 : decide ((20000 : Int) < B.length) = false := by simp; omega
  have d1 : decide ((200 : Int) < ns.length) = false := by simp; omega
  go_wp2_with (go_at_call 7; refine (alive_any _).mono ?_; rintro e w1 ⟨rfl, hb1⟩)
  clear d0 d1
  have hs1 := hb1.size
  refine (new_any _).mono ?_
  rintro e w2 ⟨rfl, rfl⟩
  go_wp2_with fail
  refine (new_any _).mono ?_
  rintro e w2 ⟨rfl, rfl⟩
  obtain ⟨w3, hw3⟩ : ∃ w3, (w1.alloc (.cells #[.string ⟨#[]⟩, .int .i64 0] 59)).alloc (.cells #[.string ⟨#[]⟩, .int .i64 0] 59) = w3 := ⟨_, rfl⟩
  have kx : RdAt w3 w1.heap.size [] 0 := by rw [← hw3]; exact (heap_old _ _ _ (by simp)).trans (heap_new _ _)
  have ky : RdAt w3 (w1.heap.size + 1) [] 0 := by rw [← hw3, ← size_alloc w1 (.cells #[.string ⟨#[]⟩, .int .i64 0] 59)]; exact heap_new _ _
  have hb3 : Below w.heap.size w w3 := by rw [← hw3]; exact (hb1.alloc hs1 _).alloc (by simp; omega) _
  have hs3 : w3.heap.size = w1.heap.size + 2 := by rw [← hw3]; simp
  rw [hw3]
  clear hw3
  have hz3 := hb3.size
  obtain ⟨gx, hgx⟩ : ∃ gx, w1.heap.size = gx := ⟨_, rfl⟩
  rw [hgx] at kx ky hs3 hs1 ⊢
  obtain ⟨gy, hgy⟩ : ∃ gy, gx + 1 = gy := ⟨_, rfl⟩
  have hxy : gx ≠ gy := by omega
  have hgy1 : w.heap.size ≤ gy := by omega
  rw [size_alloc, hgx, hgy]
  rw [hgy] at ky
  clear hb1 hgx
  go_wp2_with fail
  refine (put_z _ gx [] 0 _ B kx (HV.out.below hb3).z (by simp; omega)).mono ?_
  rintro e w4 ⟨rfl, kx4, u4⟩
  rw [List.nil_append] at kx4
  have ky4 := ky.upd u4 (Ne.symm hxy)
  have hb4 : Below w.heap.size w w4 := hb3.trans (u4.below hs1 hz3)
  have hs4 := hb4.size
  have ly4 := ky4.lt
  have lx4 := kx4.lt
  clear u4 kx ky hb3 hz3 hs3
  have HB4 := Lib.hid hb4
  have TC := toldL_count B
  have TN := toldL_len B
  obtain ⟨TL, hTL⟩ : ∃ x, (toldL B).1 = x := ⟨_, rfl⟩
  obtain ⟨TR, hTR⟩ : ∃ x, (toldL B).2 = x := ⟨_, rfl⟩
  rw [hTL] at TC
  rw [hTR] at TN
  have HTL := Lib.hid hTL
  have HTR := Lib.hid hTR
  clear hTL hTR hb4
  go_wp2_with fail
  go_loopw [7, 38] (fun a i wr => ∃ (k : Nat) (rest : List UInt8) (told : List Ln), k ≤ B.length + 1 ∧ i = .int .i64 k ∧ RdAt wr gx rest 0 ∧ OwnN wr w4.heap.size a told ∧ Upd gx w4 wr ∧ Hid (told ++ (toldL rest).1 = TL) ∧ Hid ((toldL rest).2 = TR) ∧ (toldL rest).1.length + k ≤ B.length + 1 ∧ rest.length ≤ B.length) (fun _ i _ => B.length + 1 - (intOf i).toNat)
  case atStart =>
    refine ⟨0, B, [], Nat.zero_le _, rfl, (kx4.alloc _).alloc _, ?_, ((Upd.refl _ _).alloc _).alloc _, ?_, HTR.out, by rw [HTL.out]; omega, Nat.le_refl _⟩
    · exact World.ownsRow.alloc (World.ownsRow_lit w4 #[] 0 (Nat.le_refl _) (by decide) rfl) _
    · show _ = _; rw [HTL.out]; rfl
  case round =>
    obtain ⟨k, rest, told, hk, rfl, hkx, hown, hu, ht1, ht2, hcnt, hrl⟩ := hrel
    have hzr := hu.size
    by_cases hlt : k < B.length + 1
    · cases hc : cutNl rest with
      | none =>
        have HC := Lib.hid hc
        clear hc
        go_wp2_with fail
        refine (line_no wr gx rest 0 hkx HC.out).mono ?_
        rintro e w5 ⟨rfl, hb5⟩
        have hk5 := hkx.later hb5
        have ho5 := hown.below hb5
        have hu5 : Upd gx w4 w5 := hu.trans (Upd.of_below hb5)
        have hcnt2 : (toldL rest).1.length + (k + 1) ≤ B.length + 1 := by
          rw [toldL_none HC.out]; simp; omega
        clear hb5 hown hkx
        go_wp2
        go_roundw
        case rel => exact ⟨k + 1, rest, told, by omega, by go_num, hk5.alloc _, World.ownsRow.alloc ho5 _, hu5.alloc _, ht1, ht2, hcnt2, hrl⟩
        case measure => simp [intOf]; omega
      | some q =>
        obtain ⟨s, r⟩ := q
        have HC := Lib.hid hc
        clear hc
        go_wp2_with fail
        refine (line_yes wr gx rest s r 0 hkx HC.out (by decide) (by omega)).mono ?_
        rintro e w5 ⟨rfl, hk5, u5⟩
        have ho5 := hown.upd hkx u5
        have hu5 : Upd gx w4 w5 := hu.trans u5
        have hz5 := hu5.size
        have hrr : rest.length = s.length + 1 + r.length := by rw [(cutNl_some HC.out).1]; simp; omega
        have hcnt2 := hcnt
        rw [toldL_some HC.out] at hcnt2
        have ht1' := ht1.out
        rw [toldL_some HC.out] at ht1'
        have ht2' := ht2.out
        rw [toldL_some HC.out] at ht2'
        have htl : told.length + 1 ≤ TL.length := by rw [← ht1']; simp
        have HT1 := Lib.hid ht1'
        have HT2 := Lib.hid ht2'
        simp only [List.length_cons] at hcnt2
        clear u5 hown hkx ht1 ht2 ht1' ht2' hcnt HC
        go_wp2_with (at_builtin; refine wpList_append_own _ rfl _ _ 28 rfl w4.heap.size 30 i0 (.agg #[.string ⟨#[]⟩, .bool false]) 2 24 Tryd.underlying28 hi hz0 hz1 hz2 rfl (by decide) _ _ _ rfl (World.ownsRow.alloc (World.ownsRow.alloc ho5 _) _) ⟨w5.heap.size + 1, 0, none⟩ 1 1 (cellsLn (lineText s, lineLong s)) rfl rfl ?e1 ?e2 ?e3 ?e4 ?e5 ?_)
        case e1 =>
          intro j u hj
          match j, hj with
          | 0, hj => simp [cellsLn] at hj; subst hj; simp [Addr.add]
          | 1, hj => simp [cellsLn] at hj; subst hj; simp [Addr.add]
        case e2 => intro u hu; simp [cellsLn] at hu; rcases hu with rfl | rfl <;> rfl
        case e3 => unfold maxLen; omega
        case e4 => omega
        case e5 => simp; omega
        intro v' w6 hown' hgrow _
        have R1 : OwnN w6 w4.heap.size v' (told ++ [(lineText s, lineLong s)]) := OwnN.step hown'
        have R2 : Upd gx w4 w6 := ((hu5.alloc _).alloc _).grown hgrow (fun k e => (World.ownsRow.lt ho5 k e).1)
        have R3 : RdAt w6 gx r 0 := ((hk5.alloc _).alloc _).grown hgrow (OwnN.ne ho5 hk5)
        have R4 : Hid ((told ++ [(lineText s, lineLong s)]) ++ (toldL r).1 = TL) := by
          show _ = _
          rw [← HT1.out]; simp
        clear hown' hgrow ho5 hk5 hu5
        go_wp2
        go_roundw
        case rel => exact ⟨k + 1, r, _, by omega, by go_num, R3, R1, R2, R4, HT2, by omega, by omega⟩
        case measure => simp [intOf]; omega
    · obtain rfl : k = B.length + 1 := by omega
      have hz : (toldL rest).1 = [] := List.eq_nil_of_length_eq_zero (by omega)
      have hcn := cutNl_of_told hz
      have ht1' := ht1.out
      have ht2' := ht2.out
      rw [hz, List.append_nil] at ht1'
      rw [toldL_none hcn] at ht2'
      subst ht1'
      simp only at ht2'
      subst ht2'
      clear hz hcn ht1 ht2 hcnt hk hlt
      have hbr : Below w.heap.size w wr := HB4.out.trans (hu.below hs1 hs4)
      have kyr := ky4.upd hu (Ne.symm hxy)
      obtain ⟨ho0, ho1⟩ := ArgI.opt (HV2.out.below hbr)
      have hzw := hbr.size
      obtain ⟨j0, ji, jz0, jz1, jz2⟩ := info_parts info_int
      obtain ⟨g8, hg8⟩ : ∃ g8, w4.heap.size + 1 = g8 := ⟨_, rfl⟩
      rw [hg8]
      go_wp2_with (at_builtin; refine wpList_append_opt rfl _ _ 23 rfl wr.heap.size 3 j0 (.int .i64 0) 1 8 Tryd.underlying23 ji jz0 jz1 jz2 rfl (by decide) _ 0 [] rfl (World.ownsRow_lit wr #[] 0 (Nat.le_refl _) (by decide) rfl) na ns.length nc (cellsI ns) rfl ho0 (by simp [cellsI]) (fun ad e j u hj => cell_alloc (ho1 ad e j u hj) _) ?e2 ?e3 ?e4 ?e5 ?_)
      case e2 => intro u hu; simp [cellsI] at hu; obtain ⟨k, _, rfl⟩ := hu; rfl
      case e3 => unfold maxLen; omega
      case e4 => omega
      case e5 => simp
      intro v5 w5 hown5 hgrow5
      have h5 : OwnI w5 wr.heap.size v5 ns := hown5
      have u5 : Below wr.heap.size wr w5 := ((Below.refl _ _).alloc (Nat.le_refl _) _).grown hgrow5 (by simp) (fun k e => by simp [Value.ownBlock] at e; omega)
      have hz5 := u5.size
      clear hown5 hgrow5 ho0 ho1
      go_wp2_with (at_builtin; refine wpList_append_own _ rfl _ _ 23 rfl wr.heap.size 3 j0 (.int .i64 0) 1 8 Tryd.underlying23 ji jz0 jz1 jz2 rfl (by decide) _ _ _ rfl (World.ownsRow.alloc h5 _) ⟨w5.heap.size, 0, none⟩ 1 1 [.int .i64 B.length] rfl rfl ?e1 ?e2 ?e3 ?e4 ?e5 ?_)
      case e1 =>
        intro j u hj
        match j, hj with
        | 0, hj => simp at hj; subst hj; simp [Addr.add]
      case e2 => intro u hu; simp at hu; subst hu; rfl
      case e3 => unfold maxLen; omega
      case e4 => omega
      case e5 => simp; omega
      intro v6 w6 hown6 hgrow6 _
      have o6 : OwnI w6 wr.heap.size v6 (ns ++ [(B.length : Int)]) := OwnI.step hown6
      have b6 : Below wr.heap.size wr w6 := (u5.alloc hz5 _).grown hgrow6 (by simp; omega) (fun k e => (World.ownsRow.lt h5 k e).1)
      clear hown6 hgrow6 h5 u5 hz5
      obtain ⟨g6, c6, rfl, lg6, mg6⟩ := OwnI.parts o6 (by simp)
      have ng6 : g6 ≠ gy := by have := kyr.lt; omega
      have of_block : ∀ k, k < wr.heap.size → w6.heap[k]? = wr.heap[k]? := fun k hk => by
        have hb5 : Below wr.heap.size wr w6 := b6
        exact hb5.block k hk
      have hx6 : RdAt w6 gx rest 0 := (of_block gx hkx.lt).trans hkx
      have hy6 : RdAt w6 gy [] 0 := (of_block gy kyr.lt).trans kyr
      have ho6 : OwnN w6 w4.heap.size u7 told := hown.later fun k hk => of_block k (hown.lt k hk).2
      have hb6 : Below w.heap.size w w6 := hbr.trans (b6.mono hzw)
      have hs6 := hb6.size
      have hM : ns.length + 1 = (ns ++ [(B.length : Int)]).length := by simp
      obtain ⟨M, hM0⟩ : ∃ M, ns ++ [(B.length : Int)] = M := ⟨_, rfl⟩
      have hMl : ∀ j n, M[j]? = some n → j + 1 = M.length → n = (B.length : Int) := by
        intro j n h1 h2
        rw [← hM0] at h1 h2
        have : j = ns.length := by simpa using h2
        subst this
        simpa using h1.symm
      rw [hM0] at o6 hM ⊢
      have HMl := Lib.hid hMl
      have HO6 := Lib.hid o6
      have HN6 := Lib.hid ho6
      have HX6 := Lib.hid hx6
      have HB6 := Lib.hid hb6
      clear hM0 of_block b6 hkx kyr hown hbr hu hMl o6 ho6 hx6 hb6 HB4 HV2
      go_wp2_with fail
      go_loopw [8, 11, 59] (fun c at_ i wr => ∃ (j p : Nat) (r : List UInt8) (tl : List Ln), j ≤ M.length ∧ i = .int .i64 j ∧ at_ = .int .i64 p ∧ p ≤ B.length ∧ RdAt wr gy r 0 ∧ RowC wr w6.heap.size g8 c tl ∧ Upd gy w6 wr ∧ Hid (tl ++ (toldL (r ++ B.drop p)).1 = told) ∧ Hid ((toldL (r ++ B.drop p)).2 = rest) ∧ Hid (cutNl r = none) ∧ (j = M.length → p = B.length) ∧ r.length ≤ p) (fun _ _ i _ => M.length - (intOf i).toNat)
      case atStart => exact ⟨0, 0, [], [], Nat.zero_le _, rfl, rfl, Nat.zero_le _, hy6, .inl ⟨rfl, rfl⟩, Upd.refl _ _, HTL.out, HTR.out, rfl, by omega, Nat.le_refl _⟩
      case round =>
        obtain ⟨j, p, r, tl, hj, rfl, rfl, hp, hky, hrow, hu, ht1, ht2, hcn, hlast, hrp⟩ := hrel
        by_cases hlt : j < M.length
        · obtain ⟨n, hn⟩ : ∃ n, M[j]? = some n := ⟨_, List.getElem?_eq_getElem hlt⟩
          have hnl := HMl.out j n hn
          have hcell := (HO6.out.cell j n hn)
          have hcr : wr.cell? ⟨g6, j, none⟩ = some (.int .i64 n) := by
            simp only [World.cell?] at hcell ⊢
            rw [hu.block g6 lg6 ng6]
            exact hcell
          have hlt' : (j : Int) < M.length := by omega
          clear hcell hn
          obtain ⟨E0, hE1, hE2, hmod⟩ := mod_len n B.length p hp hl1
          obtain ⟨E, hE⟩ : ∃ E : Nat, E = if n = (B.length : Int) then B.length else E0 := ⟨_, rfl⟩
          have HE := Lib.hid hE
          have hpE : p ≤ E := by rw [hE]; split <;> omega
          have hEB : E ≤ B.length := by rw [hE]; split <;> omega
          have hlE : j + 1 = M.length → E = B.length := fun h => by rw [hE, if_pos (hnl h)]
          obtain ⟨wo, hwo⟩ : ∃ wo, wo = wr := ⟨_, rfl⟩
          subst hwo
          clear hE hnl hlast
          go_upto_if 78 with fail
          clear hcr
          go_cut [14] (fun v wx => v = .int .i64 (E : Int) ∧ wx = wo)
          case first =>
            by_cases hnB : n = (B.length : Int)
            · have hE' := HE.out
              rw [if_pos hnB] at hE'
              subst hnB
              go_wp2
              go_meet
              case rel => exact ⟨by rw [hE'], rfl⟩
            · have dn : (n == (B.length : Int)) = false := beq_eq_false_iff_ne.2 hnB
              have hE' := HE.out
              rw [if_neg hnB] at hE'
              clear hnB
              go_wp2
              go_meet
              case rel => exact ⟨by rw [hE', ← hmod], rfl⟩
          case rest =>
            obtain ⟨rfl, rfl⟩ := hcut
            have hBx : Below w.heap.size w wc := HB6.out.trans (hu.below hgy1 hs6)
            have hzc := hu.size
            have ky3 : r.length + ((B.drop p).take (E - p)).length ≤ 140737488355328 := by simp; omega
            obtain ⟨pc, hpc⟩ : ∃ pc, (B.drop p).take (E - p) = pc := ⟨_, rfl⟩
            have HPC := Lib.hid hpc
            rw [hpc] at ky3
            have KY3 := Lib.hid ky3
            clear ky3 hmod HE hE1 hE2 hpc
            go_upto_region 21 with fail
            go_cut [86] (fun _ wx => RdAt wx gy (r ++ pc) 0 ∧ RowC wx w6.heap.size g8 u8 tl ∧ Upd gy w6 wx)
            case first =>
              go_wp2_with fail
              all_goals
                have hz := ArgB.subz HV.out hpE hEB hBx
                rw [HPC.out] at hz
                first
                  | rw [if_neg h] at hz
                  | (rw [if_pos h, show vc - p = 0 by omega] at hz; subst h)
                refine (put_z _ gy r 0 _ _ hky hz KY3.out).mono ?_
                clear hz
                rintro e w7 ⟨rfl, hk7, u7'⟩
                have hr7 := hrow.upd hky u7'
                have hu7 := hu.trans u7'
                go_wp2
                go_meet
                case rel => exact ⟨hk7, hr7, hu7⟩
            case rest =>
              clear hky hrow hu hBx hzc KY3
              obtain ⟨hky, hrow, hu⟩ := hcut
              have hpd := piece_drop B hpE
              have hrl2 : (r ++ (B.drop p).take (E - p)).length ≤ E := by simp; omega
              rw [HPC.out] at hpd hrl2
              have ht1' := ht1.out
              have ht2' := ht2.out
              rw [← hpd, ← List.append_assoc] at ht1' ht2'
              obtain ⟨r0, hr0⟩ : ∃ r0, r ++ pc = r0 := ⟨_, rfl⟩
              rw [hr0] at ht1' ht2' hrl2 hky
              have HT1 := Lib.hid ht1'
              have HT2 := Lib.hid ht2'
              clear hpd hr0 ht1' ht2' ht1 ht2 hcn HPC
              go_wp2_with fail
              go_loopw [8] (fun c wi => ∃ (r2 : List UInt8) (tl2 : List Ln), RdAt wi gy r2 0 ∧ RowC wi w6.heap.size g8 c tl2 ∧ Upd gy w6 wi ∧ Hid (tl2 ++ (toldL (r2 ++ B.drop E)).1 = told) ∧ Hid ((toldL (r2 ++ B.drop E)).2 = rest) ∧ r2.length ≤ E) (fun _ wi => heldAt wi gy)
              case atStart => exact ⟨r0, tl, hky, hrow, hu, HT1.out, HT2.out, hrl2⟩
              case round =>
                clear hky hrow hu HT1 HT2 hrl2
                obtain ⟨r2, tl2, hky, hrow, hu, ht1, ht2, hrl2⟩ := hrel
                have hzi := hu.size
                cases hc : cutNl r2 with
                | none =>
                  have HC := Lib.hid hc
                  clear hc
                  go_wp2_with fail
                  refine (line_no wr gy r2 0 hky HC.out).mono ?_
                  rintro e w7 ⟨rfl, hb7⟩
                  have hk7 := hky.later hb7
                  have hr7 := hrow.below hb7
                  have hu7 : Upd gy w6 w7 := hu.trans (Upd.of_below hb7)
                  clear hb7 hrow hky hu
                  go_wp2
                  go_roundw
                  case rel =>
                    refine ⟨j + 1, E, r2, tl2, by omega, by go_num, rfl, hEB, hk7.alloc _, ?_, hu7.alloc _, ht1, ht2, HC, hlE, hrl2⟩
                    exact hr7.below ((Below.refl _ _).alloc (Nat.le_refl _) _)
                  case measure => simp [intOf]; omega
                | some q =>
                  obtain ⟨s, r3⟩ := q
                  have HC := Lib.hid hc
                  clear hc
                  go_wp2_with fail
                  refine (line_yes wr gy r2 s r3 0 hky HC.out (by decide) (by omega)).mono ?_
                  rintro e w7 ⟨rfl, hk7, u7'⟩
                  have hr7 := hrow.upd hky u7'
                  have hu7 : Upd gy w6 w7 := hu.trans u7'
                  have hz7 := hu7.size
                  have hm1 := heldAt_rd hky
                  have hrr : r2.length = s.length + 1 + r3.length := by rw [(cutNl_some HC.out).1]; simp; omega
                  have ht1' := ht1.out
                  have ht2' := ht2.out
                  rw [toldL_some (cutNl_more HC.out _)] at ht1' ht2'
                  have htl : tl2.length + 1 ≤ told.length := by rw [← ht1']; simp
                  have HT1 := Lib.hid ht1'
                  have HT2 := Lib.hid ht2'
                  clear u7' hrow hky hu ht1 ht2 ht1' ht2' HC
                  have hr8 : ∀ o1 o2, (u8 = .slice (some ⟨g8, 0, none⟩) 0 0 ∧ tl2.length = 0 ∧ cellsN tl2 = []) ∨ ((w7.alloc o1).alloc o2).ownsRow w6.heap.size 30 2 u8 tl2.length (cellsN tl2) := by
                    intro o1 o2
                    rcases hr7 with ⟨h1, rfl⟩ | h1
                    · exact .inl ⟨h1, rfl, rfl⟩
                    · exact .inr (World.ownsRow.alloc (World.ownsRow.alloc h1 _) _)
                  clear hr7
                  go_wp2_with (at_builtin; refine wpList_append_lit rfl _ _ 28 rfl w6.heap.size 30 i0 (.agg #[.string ⟨#[]⟩, .bool false]) 2 24 Tryd.underlying28 hi hz0 hz1 hz2 rfl (by decide) g8 _ _ _ rfl (hr8 _ _) ⟨w7.heap.size + 1, 0, none⟩ 1 1 (cellsLn (lineText s, lineLong s)) rfl (by decide) rfl ?e1 ?e2 ?e3 ?e4 ?e5 ?_)
                  case e1 =>
                    intro j u hj
                    match j, hj with
                    | 0, hj => simp [cellsLn] at hj; subst hj; simp [Addr.add]
                    | 1, hj => simp [cellsLn] at hj; subst hj; simp [Addr.add]
                  case e2 => intro u hu; simp [cellsLn] at hu; rcases hu with rfl | rfl <;> rfl
                  case e3 => unfold maxLen; omega
                  case e4 => omega
                  case e5 => simp; omega
                  intro v' w8 B' og hB' hown' hgo hog
                  have R1 : RowC w8 w6.heap.size g8 v' (tl2 ++ [(lineText s, lineLong s)]) := .inr (OwnN.base (OwnN.step hown') hB')
                  have R2 : Upd gy w6 w8 := ((hu7.alloc _).alloc _).grown hgo hog
                  have R3 : RdAt w8 gy r3 0 := ((hk7.alloc _).alloc _).trans_grown hgo (fun e => by have := hog gy e; have := hy6.lt; omega)
                  have R4 : Hid ((tl2 ++ [(lineText s, lineLong s)]) ++ (toldL (r3 ++ B.drop E)).1 = told) := by
                    show _ = _
                    rw [← HT1.out]; simp
                  have hm2 := heldAt_rd R3
                  clear hown' hgo hog hk7 hu7 hr8
                  go_wp2
                  go_roundw
                  case rel => exact ⟨r3, _, R3, R1, R2, R4, HT2, by omega⟩
                  case measure => omega
        · obtain rfl : j = M.length := by omega
          have hpB := hlast rfl
          have ht1' := ht1.out
          have ht2' := ht2.out
          rw [hpB, List.drop_length, List.append_nil, toldL_none hcn.out] at ht1' ht2'
          simp only [List.append_nil] at ht1' ht2'
          subst ht1' ht2'
          have hBz : Below w.heap.size w wr := HB6.out.trans (hu.below hgy1 hs6)
          have hxz : RdAt wr gx r 0 := HX6.out.upd hu hxy
          have hoz : OwnN wr w4.heap.size u7 tl := HN6.out.upd hy6 hu
          have hcz : RowC wr w6.heap.size g8 u8 tl := hrow
          have hrz : r.length ≤ 9223372036854775807 := by omega
          have kyz : RdAt wr gy r 0 := hky
          clear hcn ht1 ht2 hlast hj hlt HO6 HN6 HX6 HB6 HMl hu hy6 hky hrow
          by_cases htl : tl = []
          · subst htl
            obtain ⟨aa, na1, ca, rfl, hna⟩ := hoz.form
            obtain ⟨ab, nb1, cb, rfl, hnb⟩ := hcz.form
            have hna' := hna.out
            have hnb' := hnb.out
            subst hna' hnb'
            clear hoz hcz hna hnb
            go_wp2_with (go_at_call 11; first | (refine (left_any _ gx r 0 hxz hrz).mono ?_; rintro e w' ⟨rfl, rfl⟩) | (refine (left_any _ gy r 0 kyz hrz).mono ?_; rintro e w' ⟨rfl, rfl⟩))
            go_loopw [17, 114] (fun _ c wz => c = .int .i64 0 ∧ wz = wr) (fun _ _ _ => 0)
            case atStart => exact ⟨rfl, rfl⟩
            case round =>
              obtain ⟨rfl, rfl⟩ := hrel
              go_wp2
              go_ret
              exact ⟨rfl, hBz⟩
          · obtain ⟨ga, ca, rfl, _⟩ := hoz.parts.resolve_left (fun h => htl h.2)
            have hcz' : OwnN wr w6.heap.size u8 tl := by
              rcases hcz with ⟨_, h⟩ | h
              · exact absurd h htl
              · exact h
            obtain ⟨gb, cb, rfl, _⟩ := hcz'.parts.resolve_left (fun h => htl h.2)
            clear hcz htl
            go_wp2_with (go_at_call 11; first | (refine (left_any _ gx r 0 hxz hrz).mono ?_; rintro e w' ⟨rfl, rfl⟩) | (refine (left_any _ gy r 0 kyz hrz).mono ?_; rintro e w' ⟨rfl, rfl⟩))
            obtain ⟨wq, hwq⟩ : ∃ wq, wq = wr := ⟨_, rfl⟩
            subst hwq
            have hzq := hBz.size
            go_loopw [17, 114] (fun _ c wz => ∃ k : Nat, k ≤ tl.length ∧ c = .int .i64 k ∧ Below wq.heap.size wq wz) (fun _ c _ => tl.length - (intOf c).toNat)
            case atStart => exact ⟨0, Nat.zero_le _, rfl, Below.refl _ _⟩
            case round =>
              obtain ⟨k, hk, rfl, hB⟩ := hrel
              by_cases hlt : k < tl.length
              · obtain ⟨f, hf⟩ : ∃ f, tl[k]? = some f := ⟨_, List.getElem?_eq_getElem hlt⟩
                have oa := hoz.below hB
                have ob := hcz'.below hB
                have a0 : _ = some (Value.string (bs f.1)) := oa.cell k 0 f hf (by decide)
                have a1 : _ = some (Value.bool f.2) := oa.cell k 1 f hf (by decide)
                have b0 : _ = some (Value.string (bs f.1)) := ob.cell k 0 f hf (by decide)
                have b1 : _ = some (Value.bool f.2) := ob.cell k 1 f hf (by decide)
                rw [Nat.add_zero] at a0 b0
                have hlt' : (k : Int) < tl.length := by omega
                clear hf oa ob
                go_wp2
                go_quiet (fail)
                go_wp2
                go_roundw
                case rel => exact ⟨k + 1, by omega, by go_num, below_drewN hB _⟩
                case measure => simp [intOf]; omega
              · obtain rfl : k = tl.length := by omega
                go_wp2
                go_ret
                exact ⟨rfl, hBz.trans (hB.mono hzq)⟩

end Go.Proofs.YtglopeijohdobaaDoor

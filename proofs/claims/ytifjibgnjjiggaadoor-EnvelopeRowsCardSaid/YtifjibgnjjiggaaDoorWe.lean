/- Texts of one walk, merged: XBx XLs XSm XSn XOf XSp XSq XH3 XH4. -/
import Derived.Test.YtifjibgnjjiggaaDoorWd
import Derived.RangeFuncNested
import Derived.RangeFuncBound
import Derived.RangeFuncCalls
import Derived.RangeFuncLeaves
import Derived.RangeFuncBox
import Derived.Test.YtifjibgnjjiggaaDoorShelf
import Derived.Shelf.Abstract
import Derived.Shelf.RegionOpen
import Derived.OwnWalkIn
import Derived.TacticsInMore
import Derived.LoopNIn
import Derived.LoopIn
import Derived.Maps.AppendAt
import Derived.Sort.LoopGhostIn
import Derived.RangeFuncFrom
import Derived.LoopTactic
import Derived.Deep.Slices
import Derived.Deep.Fields
import Derived.ChangeArms
import Derived.ChangeOld
import Derived.WideShapes
import Derived.BigRegion

/- A range over a function whose iterator keeps its state in a cell of its own (strings.Lines): the statement's law. -/
set_option linter.unusedVariables false
set_option linter.unusedSimpArgs false
section
set_option linter.unusedVariables false
set_option linter.unusedSimpArgs false
namespace Go.Proofs.YtifjibgnjjiggaaDoor
open Go.RowKit Go

variable {F : Fence} {n : Nat} {P : Program}

/-- J stays whatever becomes of block b. -/
def AbidesBox {β : Type} (b : Nat) (J : β → World → Prop) : Prop := ∀ s W W', J s W → W.grownBy W' (some b) → J s W'
theorem AbidesBox.and {β : Type} {b : Nat} {I I' : β → World → Prop} (h : AbidesBox b I) (h' : AbidesBox b I') : AbidesBox b (fun s W => I s W ∧ I' s W) := fun s W W' hs hg => ⟨h s W W' hs.1 hg, h' s W W' hs.2 hg⟩
theorem abidesBox_size {β : Type} {b k : Nat} : AbidesBox b (fun (_ : β) W => k ≤ W.heap.size) := fun _ _ _ h hg => Nat.le_trans h hg.size
theorem ownFrom_size {β : Type} {B k : Nat} : OwnFrom B (fun (_ : β) W => k ≤ W.heap.size) := fun _ _ _ _ h hg _ => Nat.le_trans h hg.size
theorem abidesBox_below {β : Type} {b n₀ : Nat} {w₀ : World} (hn : n₀ ≤ b) (hs : n₀ ≤ w₀.heap.size) : AbidesBox b (fun (_ : β) W => Below n₀ w₀ W) := fun _ _ _ h hg => h.grown hg (Nat.le_trans hs h.size) (fun k e => by cases e; exact hn)

/-- An iterator over xs whose state lies in block b, where v stands at the beginning: the caller's rounds leave b alone. -/
def SeqBox {α : Type} (F : Fence) (n : Nat) (P : Program) (g : Nat) (b : Nat) (t : TypeId) (enc : α → Value) (xs : List α) (v : Value) : Prop :=
  ∀ (l : Nat) (J Jx : List α → World → Prop) (W : World), AbidesBox b J → AbidesBox b Jx →
    (∀ pre x W1, pre ++ [x] <+: xs → J pre W1 → YieldAt F (n - 1) P l #[enc x] W1 fun e W' =>
      (e = .returned (.bool true) ∧ J (pre ++ [x]) W' ∧ W'.heap[b]? = W1.heap[b]?) ∨ (e = .returned (.bool false) ∧ Jx (pre ++ [x]) W')) →
    J [] W → Boxed W b t v →
    CallsIn F n P g #[.func (.yield l) #[] #[], .pointer (some ⟨b, 0, none⟩)] W fun e W' => (∃ v, e = .returned v) ∧ (J xs W' ∨ ∃ pre, pre <+: xs ∧ Jx pre W')

/-- How the body of a round may be left. -/
def boxPost {α : Type} (B b : Nat) (I : List α → World → Prop) (Ix : Code → List α → World → Prop) (xs : List α) (W : World) : Exit → Act → World → Prop
  | .normal, _, W' => KeepsFrom B W W' ∧ W'.heap[b]? = W.heap[b]? ∧ I xs W'
  | .ret, _, W' => KeepsFrom B W W' ∧ Ix .ret xs W'
  | .exit id, _, W' => KeepsFrom B W W' ∧ Ix (.exit id) xs W'
  | .goto t, _, W' => KeepsFrom B W W' ∧ Ix (.goto t) xs W'
  | .panic _, _, _ => False
  | .outgrown, _, _ => False

theorem heap_grown {W W' : World} {b k : Nat} {o : Obj} (hg : W.grownBy W' (some b)) (h : k ≠ b) (ho : W.heap[k]? = some o) : W'.heap[k]? = some o :=
  (hg.block k (Array.getElem?_eq_some_iff.1 ho).1 (fun e => h (Option.some.inj e))).trans ho

/-- **for x := range g { .. } where g's state lies in block b.** -/
theorem wpIn_rangeFunc_box {α : Type} {g : Operand} {ps : Array Tmp} {assign body : Code} {Q : Exit → Act → World → Prop} {a : Act} {w : World}
    (hro : F.round = none) (h1 : 1 ≤ n) {gf b : Nat} {t : TypeId} (hg : a.eval g = .func (.func gf) #[] #[.pointer (some ⟨b, 0, none⟩)]) (hFg : F.fn gf) (eg : ∀ args w, (callFunc gf args).run P w = .ok (.enter gf args) w)
    {enc : α → Value} {xs : List α} {v : Value} (hseq : SeqBox F (n - 1) P gf b t enc xs v) (hbox : Boxed w b t v) (hps : ps.size = 1)
    (I : List α → World → Prop) (Ix : Code → List α → World → Prop) (hI : OwnFrom w.heap.size I) (hIx : ∀ c, OwnFrom w.heap.size (Ix c)) (hIb : AbidesBox b I) (hIxb : ∀ c, AbidesBox b (Ix c)) (h0 : I [] w) (a₁ : α → Act)
    (hassign : ∀ (l : Nat) (x : α) (W : World) (K : Act → World → Prop), K (a₁ x) W →
      assign.wpIn (F.inRound l) (n - 1 - 1) P (Exit.then K (fun _ _ _ => False)) { tmps := (ps.zip #[enc x]).foldl (fun t (p, v) => t.setIfInBounds p v) a.tmps, defers := [] } W)
    (hbody : ∀ (l : Nat) (pre : List α) (x : α) (W : World), pre ++ [x] <+: xs → I pre W → body.wpIn (F.inRound l) (n - 1 - 1) P (boxPost w.heap.size b I Ix (pre ++ [x]) W) (a₁ x) W)
    (hdone : ∀ (D : Nat) (W : World), w.heap.size ≤ D → I xs W → W.heap[D]? = some (.deferred (some [])) → Q .normal { a with defers := { target := .collected D, args := #[] } :: a.defers } W)
    (hstop : ∀ (D : Nat) (c : Code) (pre : List α) (W : World), w.heap.size ≤ D → pre <+: xs → Ix c pre W → W.heap[D]? = some (.deferred (some [])) → c.wpIn F n P Q { a with defers := { target := .collected D, args := #[] } :: a.defers } W) :
    (Code.rangeFunc g ps assign body).wpIn F n P Q a w := by
  have hbl : b < w.heap.size := hbox.lt
  refine wpIn_rangeFunc ?_
  intro fn hfn
  rw [hro]
  obtain ⟨rec, hrec⟩ : ∃ rec : LoopState → Option Code → Loop, rec = fun st pe => { state := st, pending := pe, fn, tmps := a.tmps, params := ps, assign, body, defers := w.heap.size } := ⟨_, rfl⟩
  obtain ⟨W1, hW1⟩ : ∃ W1, (w.alloc (.deferred (some []))).alloc (.loop (rec .ready none)) = W1 := ⟨_, rfl⟩
  have hL1 : W1.heap[w.heap.size + 1]? = some (.loop (rec .ready none)) := by
    rw [← hW1]; have := World.alloc_heap_new (w.alloc (.deferred (some []))) (.loop (rec .ready none)); rwa [World.size_alloc] at this
  have hK1 : W1.heap[w.heap.size]? = some (.deferred (some [])) := by
    rw [← hW1]; exact (Below.heap_alloc _ _ _ (by simp)).trans (World.alloc_heap_new w _)
  have hI1 : I [] W1 := by rw [← hW1]; exact hI.alloc _ (hI.alloc _ h0)
  have hb1 : Boxed W1 b t v := by rw [← hW1]; exact (hbox.alloc _).alloc _
  refine ⟨w.heap.size + 1, [{ target := .collected w.heap.size, args := #[] }], W1, { target := .fn (.func gf) #[.pointer (some ⟨b, 0, none⟩)], args := #[.func (.yield (w.heap.size + 1)) #[] #[]] }, W1, gf,
    #[.func (.yield (w.heap.size + 1)) #[] #[]] ++ #[.pointer (some ⟨b, 0, none⟩)], W1, ?_, ?_, ?_, ?_, fun _ => h1, ?_⟩
  · rw [← hW1, hrec]; exact run_enterLoop_outer _ _ _ _ _
  · simp only [resolve, hg]
    simp [go_sem]
  · intro f' hf'; simp [Target.leads] at hf'; subst hf'; exact hFg
  · simp [invoke, go_sem, eg]
  · refine (hseq (w.heap.size + 1)
      (fun pre W => I pre W ∧ W.heap[w.heap.size + 1]? = some (.loop (rec .ready none)) ∧ W.heap[w.heap.size]? = some (.deferred (some [])))
      (fun pre W => ∃ c, Ix c pre W ∧ W.heap[w.heap.size + 1]? = some (.loop (rec .done (some c))) ∧ W.heap[w.heap.size]? = some (.deferred (some [])))
      W1 (fun s A u hs hg => ⟨hIb _ _ _ hs.1 hg, heap_grown hg (by omega) hs.2.1, heap_grown hg (by omega) hs.2.2⟩)
      (fun s A u hs hg => by
        obtain ⟨c, hc, hl, hk⟩ := hs
        exact ⟨c, hIxb _ _ _ _ hc hg, heap_grown hg (by omega) hl, heap_grown hg (by omega) hk⟩)
      ?_ ⟨hI1, hL1, hK1⟩ hb1).mono ?_
    · rintro pre x W hpre ⟨hi, hl, hk⟩
      have hlt : w.heap.size + 1 < W.heap.size := (Array.getElem?_eq_some_iff.1 hl).1
      have hy := run_yield (P := P) (args := #[enc x]) hl (by rw [hrec]; exact hps.symm)
      rw [hrec] at hy
      refine ⟨fn, _, assign, body, hy, roundIn_of_wpIn hfn (hassign _ x W _ ⟨_, run_beginRound hl (by rw [hrec]), ?_⟩)⟩
      have hl2 : (W.putObj (w.heap.size + 1) (.loop { rec .ready none with state := .busy })).heap[w.heap.size + 1]? = some (.loop { rec .ready none with state := .busy }) := World.putObj_heap_same hlt
      have hk2 : (W.putObj (w.heap.size + 1) (.loop { rec .ready none with state := .busy })).heap[w.heap.size]? = some (.deferred (some [])) := (World.putObj_heap_other (by omega)).trans hk
      have hw2 : (W.putObj (w.heap.size + 1) (.loop { rec .ready none with state := .busy })).heap[b]? = W.heap[b]? := World.putObj_heap_other (by omega)
      refine wpIn_mono (hbody _ pre x _ hpre (hI.putObj _ hi (by omega) hl rfl)) ?_
      have fin : ∀ (jump : Option Code) (W3 : World), KeepsFrom w.heap.size (W.putObj (w.heap.size + 1) (.loop { rec .ready none with state := .busy })) W3 →
          (Instr.endRound (w.heap.size + 1) jump).run P W3 = .ok (.bool jump.isNone) (W3.putObj (w.heap.size + 1) (.loop (rec (if jump.isNone then .ready else .done) jump))) ∧
          W3.heap[w.heap.size + 1]? = some (.loop { rec .ready none with state := .busy }) ∧
          (W3.putObj (w.heap.size + 1) (.loop (rec (if jump.isNone then .ready else .done) jump))).heap[w.heap.size + 1]? = some (.loop (rec (if jump.isNone then .ready else .done) jump)) ∧
          (W3.putObj (w.heap.size + 1) (.loop (rec (if jump.isNone then .ready else .done) jump))).heap[w.heap.size]? = some (.deferred (some [])) := fun jump W3 hk3 => by
        have hl3 := hk3.same _ _ (by omega) hl2 rfl
        have := run_endRound (P := P) jump hl3
        rw [hrec] at this ⊢
        exact ⟨this, by rw [hrec] at hl3; exact hl3, World.putObj_heap_same (Array.getElem?_eq_some_iff.1 hl3).1, (World.putObj_heap_other (by omega)).trans (hk3.same _ _ (Nat.le_refl _) hk2 rfl)⟩
      rintro e a3 W3 hp
      cases e with
      | normal =>
        obtain ⟨hk3, hkp3, hi3⟩ := hp
        obtain ⟨hr, hl3, hl4, hk4⟩ := fin none W3 hk3
        exact ⟨_, _, hr, .inl ⟨rfl, ⟨hI.putObj _ hi3 (by omega) hl3 rfl, hl4, hk4⟩, (World.putObj_heap_other (by omega)).trans (hkp3.trans hw2)⟩⟩
      | ret =>
        obtain ⟨hk3, hi3⟩ := hp
        obtain ⟨hr, hl3, hl4, hk4⟩ := fin (some .ret) W3 hk3
        exact ⟨_, _, hr, .inr ⟨rfl, .ret, (hIx _).putObj _ hi3 (by omega) hl3 rfl, hl4, hk4⟩⟩
      | exit id =>
        obtain ⟨hk3, hi3⟩ := hp
        obtain ⟨hr, hl3, hl4, hk4⟩ := fin (some (.exit id)) W3 hk3
        exact ⟨_, _, hr, .inr ⟨rfl, .exit id, (hIx _).putObj _ hi3 (by omega) hl3 rfl, hl4, hk4⟩⟩
      | goto t =>
        obtain ⟨hk3, hi3⟩ := hp
        obtain ⟨hr, hl3, hl4, hk4⟩ := fin (some (.goto t)) W3 hk3
        exact ⟨_, _, hr, .inr ⟨rfl, .goto t, (hIx _).putObj _ hi3 (by omega) hl3 rfl, hl4, hk4⟩⟩
      | panic ch => exact hp.elim
      | outgrown => exact hp.elim
    · rintro e W2 ⟨⟨v, rfl⟩, (⟨hi, hl, hk⟩ | ⟨pre, hSp, c, hi, hl, hk⟩)⟩
      · exact ⟨none, _, by have := run_endLoop (P := P) hl (by rw [hrec]; simp); rw [hrec] at this; exact this, hdone _ _ (Nat.le_refl _) (hI.putObj _ hi (by omega) hl rfl) ((World.putObj_heap_other (by omega)).trans hk)⟩
      · exact ⟨some c, _, by have := run_endLoop (P := P) hl (by rw [hrec]; simp); rw [hrec] at this; exact this, hstop _ c pre _ (Nat.le_refl _) hSp ((hIx c).putObj _ hi (by omega) hl rfl) ((World.putObj_heap_other (by omega)).trans hk)⟩

/-- out = append(out, ..) into a variable's box, the row's base and what lies below apart -/
theorem boxed_appended {W w1 : World} {n₀ m₀ B : Nat} {t e : TypeId} {size : Nat} {v v' : Value} {k m : Nat} {xs ys : List Value} {tmp : Obj}
    (hv : Boxed W B t v) (hte : t ≠ e) (hrow : W.ownsRow n₀ e size v k xs) (hm : m₀ ≤ n₀) (hn₀ : m₀ ≤ W.heap.size) (hB : m₀ ≤ B)
    (hown' : w1.ownsRow n₀ e size v' m ys) (hgrow : (W.alloc tmp).grownBy w1 v.ownBlock) :
    Boxed w1 B t v ∧ Boxed (w1.setCell ⟨B, 0, none⟩ v') B t v' ∧ (w1.setCell ⟨B, 0, none⟩ v').ownsRow n₀ e size v' m ys ∧ KeepsOthers W (w1.setCell ⟨B, 0, none⟩ v') ∧ Below m₀ W (w1.setCell ⟨B, 0, none⟩ v') ∧
      ∀ b, b < W.heap.size → b < n₀ → b ≠ B → (w1.setCell ⟨B, 0, none⟩ v').heap[b]? = W.heap[b]? := by
  have hv1 : Boxed w1 B t v := (hv.alloc tmp).kept hgrow (hv.not_row hte hrow)
  have hlt := World.ownsRow.lt hrow
  refine ⟨hv1, hv1.set v', hown'.kept (grownBy_setCell' w1 B v') (.inr (hv1.not_row hte hown').symm), ?_, ?_, ?_⟩
  · refine ((KeepsOthers.alloc W tmp).trans (KeepsOthers.of_grownBy hgrow fun j o ej hj => ?_)).trans (KeepsOthers.setCell _ _ _)
    rcases (hrow.alloc tmp).2 with ⟨rfl, _⟩ | ⟨g, cap, cur, rfl, _, hgb, _⟩
    · simp [Value.ownBlock] at ej
    · obtain rfl : g = j := by simpa [Value.ownBlock] using ej
      rw [hgb] at hj; cases hj; rfl
  · refine (((Below.refl m₀ W).alloc hn₀ tmp).grown hgrow (by simp; omega) fun j ej => Nat.le_trans hm (hlt j ej).1).setCell (p := ⟨B, 0, none⟩) hB v'
  · intro b hb hbn hbB
    rw [Below.heap_setCell _ _ _ _ (by simpa using hbB), hgrow.block b (by simp; omega) (fun e => by have := (hlt b e.symm).1; omega), Below.heap_alloc _ _ _ hb]

end Go.Proofs.YtifjibgnjjiggaaDoor
end

/- strings.Lines as an iterator. -/
set_option linter.unusedVariables false
set_option linter.unusedSimpArgs false
section
namespace Go.Proofs.YtifjibgnjjiggaaDoor
open Go.RowKit Go Go.Shelf
attribute [local go_sem] Oper.semAt_some

theorem index_yes (h s r : List UInt8) (w : World) (e : cutNl h = some (s, r)) : Calls Tryd.prog 80 #[.string (bs h), .int .u8 10] w fun e w' => e = .returned (.int .i64 (s.length : Int)) ∧ w = w' := by
  refine (Tryd.strings_IndexByte (bs h) 10 w).mono fun _ _ ⟨a, b⟩ => ⟨?_, b.symm⟩
  rw [a]
  exact congrArg (fun x => Ending.returned (.int .i64 x)) (index_some e)
theorem index_no (h : List UInt8) (w : World) (e : cutNl h = none) : Calls Tryd.prog 80 #[.string (bs h), .int .u8 10] w fun e w' => e = .returned (.int .i64 (-1)) ∧ w = w' := by
  refine (Tryd.strings_IndexByte (bs h) 10 w).mono fun _ _ ⟨a, b⟩ => ⟨?_, b.symm⟩
  rw [a]
  exact congrArg (fun x => Ending.returned (.int .i64 x)) (index_none e)

theorem grown_drew {W W' : World} {row : Option Nat} (h : W.grownBy W' row) : W.grownBy W'.drew row := ⟨h.os, h.tape, h.output, h.size, h.block⟩
theorem grown_set (W : World) (b : Nat) (v : Value) : W.grownBy (W.setCell ⟨b, 0, none⟩ v) (some b) := grownBy_setCell' W b v

set_option maxRecDepth 100000 in
set_option maxHeartbeats 2000000 in
theorem lines_seq (n : Nat) (hn : 1 ≤ n) (b : Nat) (s : List UInt8) (hs : s.length ≤ 140737488355328) :
    SeqBox Fence.wide n Tryd.prog 86 b 9 (fun x => .string (bs x)) (linesOf s) (.string (bs s)) := by
  intro l J Jx W hJ hJx hY h0 hb
  refine callsIn_of_wp Tryd.func86 rfl trivial ?_ rfl
  simp only [Tryd.ntmps86, List.size_toArray, List.length_cons, List.length_nil, Nat.reduceAdd, Nat.reduceSub, Array.replicate_succ, Array.replicate_zero, List.push_toArray, List.append_toArray, List.nil_append, List.cons_append]
  gi_wp2
  gi_loopg [3, 4] s.length (fun kq _ _ wr => ∃ pre rest : List _, kq = rest.length ∧ Hid (pre ++ linesOf rest = linesOf s) ∧ rest.length ≤ s.length ∧ Boxed wr b 9 (.string (bs rest)) ∧ J pre wr)
  case atStart => exact ⟨[], s, rfl, rfl, Nat.le_refl _, hb, h0⟩
  case round =>
    obtain ⟨pre, rest, rfl, hp, hlen, hbx, hj⟩ := hrel
    have hc := hbx.cell
    have hf := hbx.frozen
    cases hcut : cutNl rest with
    | none =>
      by_cases he : rest = []
      · subst he
        gi_wp2
        go_end0
        exact ⟨⟨_, rfl⟩, .inl (by have := hp.out; rw [linesOf_nil, List.append_nil] at this; rw [← this]; exact hj)⟩
      · have h0l : 0 < rest.length := List.length_pos_iff.2 he
        have Hc := Lib.hid hcut
        have hlo := linesOf_cutNo hcut he
        have hpre : pre ++ [rest] <+: linesOf s := by rw [← hp.out, hlo]; exact List.prefix_rfl
        have hj2 := hJ pre _ _ hj (grown_set wr b (.string ⟨#[]⟩))
        obtain ⟨fn, tmps, assign, body, hy, hR⟩ := hY pre rest _ hpre hj2
        have Hlo := Lib.hid hlo
        clear hcut hlo
        gi_wp2_with (refine ⟨trivial, ?_⟩; gi_at_call 80; refine (callsIn_wide.2 (index_no _ _ Hc.out)).mono ?_; rintro e w' ⟨rfl, rfl⟩)
        refine hR.mono ?_
        rintro e W3 (⟨rfl, hJ3, hk3⟩ | ⟨rfl, hJx3⟩)
        · gi_wp2
          gi_roundg 0
          case measure => exact h0l
          case rel => exact ⟨pre ++ [rest], [], rfl, by have := hp.out; rw [Hlo.out] at this; rw [linesOf_nil, List.append_nil]; exact this, Nat.zero_le _, hk3.trans (hbx.set _), hJ3⟩
        · gi_wp2
          refine bodyPost_ret (results_none rfl _ _ _) rfl ?_
          exact ⟨⟨_, rfl⟩, .inr ⟨_, hpre, hJx3⟩⟩
    | some q =>
      obtain ⟨a, r⟩ := q
      obtain ⟨hrest, _⟩ := cutNl_some hcut
      have hll : rest.length = a.length + 1 + r.length := by rw [hrest]; simp; omega
      have h0l : 0 < rest.length := by omega
      have hla : a.length + 1 ≤ rest.length := by omega
      have hlr : r.length < rest.length := by omega
      have h1 := run_to rest (a.length + 1) hla
      have h2 := run_from rest (a.length + 1) hla
      rw [show rest.take (a.length + 1) = a ++ [10] by rw [hrest, show a ++ 10 :: r = (a ++ [10]) ++ r by simp]; exact List.take_left' (by simp), show ((a.length + 1 : Nat) : Int) = (a.length : Int) + 1 by simp] at h1
      rw [show rest.drop (a.length + 1) = r by rw [hrest, show a ++ 10 :: r = (a ++ [10]) ++ r by simp]; exact List.drop_left' (by simp), show ((a.length + 1 : Nat) : Int) = (a.length : Int) + 1 by simp] at h2
      have Hc := Lib.hid hcut
      have hlo := linesOf_cut hcut
      have hpre : pre ++ [a ++ [10]] <+: linesOf s := by rw [← hp.out, hlo]; exact ⟨linesOf r, by simp⟩
      have hj2 := hJ pre _ _ hj (grown_drew (grown_set wr b (.string (bs r))))
      obtain ⟨fn, tmps, assign, body, hy, hR⟩ := hY pre (a ++ [10]) _ hpre hj2
      have Hlo := Lib.hid hlo
      have d0 : decide (0 ≤ (a.length : Int)) = true := by simp
      clear hcut hlo hrest hll
      gi_wp2_with (refine ⟨trivial, ?_⟩; gi_at_call 80; refine (callsIn_wide.2 (index_yes _ _ _ _ Hc.out)).mono ?_; rintro e w' ⟨rfl, rfl⟩)
      gi_region
      gi_wp2
      refine hR.mono ?_
      rintro e W3 (⟨rfl, hJ3, hk3⟩ | ⟨rfl, hJx3⟩)
      · gi_wp2
        gi_roundg r.length
        case measure => exact hlr
        case rel => exact ⟨pre ++ [a ++ [10]], r, rfl, by have := hp.out; rw [Hlo.out] at this; rw [← this]; show _ = _; simp, by omega, hk3.trans (hbx.set _), hJ3⟩
      · gi_wp2
        refine bodyPost_ret (results_none rfl _ _ _) rfl ?_
        exact ⟨⟨_, rfl⟩, .inr ⟨_, hpre, hJx3⟩⟩

end Go.Proofs.YtifjibgnjjiggaaDoor
end

/- header.small: the iterator, slices.AppendSeq, slices.Collect. -/
set_option linter.unusedVariables false
set_option linter.unusedSimpArgs false
section
namespace Go.Proofs.YtifjibgnjjiggaaDoor
open Go.RowKit Go Go.Shelf
attribute [local go_sem] Oper.semAt_some

/-- []byte(s), with its block -/
theorem to_row (l : List UInt8) (w : World) : ∃ (cap : Nat) (w' : World) (cs : Array Value) (t : TypeId) (fr : Nat × Nat), (convert 9 34 (.string (bs l))).run Tryd.prog w = .ok (.slice (some ⟨w.heap.size, 0, none⟩) l.length cap) w' ∧
    w'.heap[w.heap.size]? = some (.cells cs t fr) ∧ fr ≠ (0, 0) ∧ (∀ i, i < l.length → cs[i]? = some (.int .u8 ((l.getD i 0).toNat : Int))) ∧ w.grownBy w' none ∧ w.heap.size < w'.heap.size := by
  have h := run_bytes_of_string (P := Tryd.prog) w 9 34 5 (bs l) Tryd.underlying9 Tryd.underlying34 Tryd.underlying5
  rw [bs_size] at h
  refine ⟨_, _, _, _, _, h, heap_new w.drew _, by simp, fun i hi => ?_, ⟨rfl, rfl, rfl, by simp, fun k hk _ => heap_old w.drew _ _ hk⟩, by simp⟩
  have hb := bytesRow_at (bs l) (grownCap w l.length 0 5) i (by simpa using hi)
  rw [hb]
  simp [List.getD, hi]

/-- rows that a conversion laid stay -/
def KeepsRows (W W' : World) : Prop := ∀ (k : Nat) (cs : Array Value) (t : TypeId) (fr : Nat × Nat), W.heap[k]? = some (Obj.cells cs t fr) → fr ≠ (0, 0) → W'.heap[k]? = some (Obj.cells cs t fr)
theorem keepsRows_t {A B C : World} (h : KeepsRows A B) (k : KeepsRows B C) : KeepsRows A C := fun i cs t fr e hf => k i cs t fr (h i cs t fr e hf) hf
theorem keepsRows_b {n : Nat} (W : World) (l : Nat) (o o' : Obj) (_ : n ≤ l) (h : W.heap[l]? = some o) (hc : o.isCells = false) (_ : o.isWalk = false) : KeepsRows W (W.putObj l o') := by
  intro k cs t fr e _
  refine (World.putObj_heap_other ?_).trans e
  rintro rfl
  rw [e] at h
  obtain rfl := Option.some.inj h
  cases hc
theorem keepsRows_app {W w1 : World} {n₀ B : Nat} {t e : TypeId} {size : Nat} {v v' : Value} {k : Nat} {xs : List Value} {tmp : Obj}
    (hv : Boxed W B t v) (hrow : W.ownsRow n₀ e size v k xs) (hgrow : (W.alloc tmp).grownBy w1 v.ownBlock) : KeepsRows W (w1.setCell ⟨B, 0, none⟩ v') := by
  intro i cs u fr he hf
  have hlt := (Array.getElem?_eq_some_iff.1 he).1
  have hiB : i ≠ B := by
    rintro rfl
    have h9 : W.heap[i]? = some (.cells #[v] t (0, 0)) := hv
    rw [he] at h9
    simp at h9
    exact hf h9.2.2
  have hir : some i ≠ v.ownBlock := by
    intro eo
    rcases hrow.2 with ⟨rfl, _⟩ | ⟨g, cap, cur, rfl, _, hg, _⟩
    · cases eo
    · obtain rfl : i = g := by simpa [Value.ownBlock] using eo
      rw [he] at hg
      simp at hg
      exact hf hg.2.2
  rw [Below.heap_setCell _ _ _ _ (by simpa using hiB), hgrow.block i (by simp; omega) hir, Below.heap_alloc _ _ _ hlt]
  exact he

theorem row_cell {W : World} {g k : Nat} {cs : Array Value} {t : TypeId} {fr : Nat × Nat} {x : Value} (h : W.heap[g]? = some (.cells cs t fr)) (hx : cs[k]? = some x) : W.cell? ⟨g, k, none⟩ = some x := by
  simp [World.cell?, h, hx]

set_option maxRecDepth 100000 in
set_option maxHeartbeats 2000000 in
theorem small_seq (n : Nat) (hn : 1 ≤ n) (b : Nat) (s : List UInt8) (w : World) (hs : s.length ≤ 140737488355328) (hb : Boxed w b 9 (.string (bs s))) :
    SeqStopsK Fence.wide n Tryd.prog 90 #[.pointer (some ⟨b, 0, none⟩)] (fun c : UInt8 => #[.int .u8 ((c.toNat : Nat) : Int)]) KeepsRows (fun xs => xs = lowL s) (fun _ => True) s.length w := by
  intro l J Jx W hW hJ hJx hY h0
  have hbW : Boxed W b 9 (.string (bs s)) := (hW.block b hb.lt).trans hb
  have hc := hbW.cell
  obtain ⟨cap, w1, cs, t, fr, hrun, hrow, hfr, hcs, hg1, hlt1⟩ := to_row s W
  have hj1 := hJ [] W w1 none h0 hg1 (fun r e => by cases e)
  have HFR := Lib.hid hfr
  have HCS := Lib.hid hcs
  clear hfr hcs hbW hg1
  refine callsIn_of_wp Tryd.func90 rfl trivial ?_ rfl
  simp only [Tryd.ntmps90, List.size_toArray, List.length_cons, List.length_nil, Nat.reduceAdd, Nat.reduceSub, Array.replicate_succ, Array.replicate_zero, List.push_toArray, List.append_toArray, List.nil_append, List.cons_append]
  gi_wp2
  gi_loopw [4, 8] (fun _ c wr => ∃ k : Nat, k ≤ s.length ∧ c = .int .i64 k ∧ wr.heap[W.heap.size]? = some (.cells cs t fr) ∧ J ((lowL s).take k) wr) (fun _ c _ => s.length - (intOf c).toNat)
  case atStart => exact ⟨0, Nat.zero_le _, rfl, hrow, by simpa using hj1⟩
  case round =>
    obtain ⟨k, hk, rfl, hrw, hj⟩ := hrel
    by_cases hlt : k < s.length
    · obtain ⟨c, hcc⟩ : ∃ c, s.getD k 0 = c := ⟨_, rfl⟩
      have hcell : wr.cell? ⟨W.heap.size, k, none⟩ = some (.int .u8 ((c.toNat : Nat) : Int)) := row_cell hrw (by rw [HCS.out k hlt, hcc])
      have hlt' : (k : Int) < s.length := by omega
      obtain ⟨fn, tmps, assign, body, hy, hR⟩ := hY ((lowL s).take k) (lowB c) wr hj (by simp [lowL_length]; omega)
      rw [← low_take hlt hcc] at hR
      have hc256 := c.toNat_lt
      have HRW := Lib.hid hrw
      clear hcc hrw
      by_cases h65 : 65 ≤ c.toNat ∧ c.toNat ≤ 90
      · obtain ⟨h1, h2⟩ := h65
        rw [lowB_yes h1 h2] at hy
        have h1' : (65 : Int) ≤ c.toNat := by omega
        have h2' : (c.toNat : Int) ≤ 90 := by omega
        have hcast : ((c.toNat + 32 : Nat) : Int) = (c.toNat : Int) + 32 := by omega
        rw [hcast] at hy
        clear hcast
        gi_wp2
        refine hR.mono ?_
        rintro e W3 (⟨rfl, hJ3, hk3⟩ | ⟨rfl, hJx3⟩)
        · gi_wp2
          go_roundw
          case rel => exact ⟨k + 1, by omega, by go_num, hk3 _ _ _ _ HRW.out HFR.out, hJ3⟩
          case measure => simp [intOf]; omega
        · gi_wp2
          refine bodyPost_ret (results_none rfl _ _ _) rfl ?_
          exact ⟨⟨_, rfl⟩, .inr ⟨_, trivial, hJx3⟩⟩
      · rw [lowB_no h65] at hy
        have h65' : ¬ ((65 : Int) ≤ c.toNat ∧ (c.toNat : Int) ≤ 90) := by omega
        have hcase : (c.toNat : Int) < 65 ∨ (65 : Int) ≤ c.toNat ∧ 90 < (c.toNat : Int) := by omega
        clear h65 h65'
        rcases hcase with h1 | ⟨h1, h2⟩
        all_goals
          gi_wp2
          refine hR.mono ?_
          rintro e W3 (⟨rfl, hJ3, hk3⟩ | ⟨rfl, hJx3⟩)
          · gi_wp2
            go_roundw
            case rel => exact ⟨k + 1, by omega, by go_num, hk3 _ _ _ _ HRW.out HFR.out, hJ3⟩
            case measure => simp [intOf]; omega
          · gi_wp2
            refine bodyPost_ret (results_none rfl _ _ _) rfl ?_
            exact ⟨⟨_, rfl⟩, .inr ⟨_, trivial, hJx3⟩⟩
    · obtain rfl : k = s.length := by omega
      gi_wp2
      go_end0
      exact ⟨⟨_, rfl⟩, .inl ⟨_, rfl, by rw [← lowL_length, List.take_length] at hj; exact hj⟩⟩

theorem ownsRow_base {w : World} {b b' : Nat} {e : TypeId} {size n : Nat} {v : Value} {xs : List Value} (h : w.ownsRow b e size v n xs) (hb : b' ≤ b) : w.ownsRow b' e size v n xs := by
  refine ⟨h.1, ?_⟩
  rcases h.2 with h0 | ⟨g, cap, cur, e, h1, r⟩
  · exact .inl h0
  · exact .inr ⟨g, cap, cur, e, Nat.le_trans hb h1, r⟩

/-- bytes of the call's own -/
def BytesP (B : Nat) (l : List UInt8) (w : World) (e : Ending) (w' : World) : Prop := ∃ v, e = .returned v ∧ OwnB w' B v l ∧ Below B w w'

set_option maxRecDepth 100000 in
set_option maxHeartbeats 2000000 in
theorem appendSeq_any (s : List UInt8) (b : Nat) (w : World) (hs : s.length ≤ 1099511627776) (hb : Boxed w b 9 (.string (bs s))) :
    Calls Tryd.prog 100 #[.slice none 0 0, .func (.func 90) #[] #[.pointer (some ⟨b, 0, none⟩)]] w (BytesP w.heap.size (lowL s) w) := by
  obtain ⟨i0, hi, hz0, hz1, hz2⟩ := info_parts info_u8
  refine (callsIn_wide (n := 3)).1 ?_
  refine callsIn_of_wp_marks Tryd.func100 rfl trivial ?_ rfl
  simp only [Tryd.ntmps100, List.size_toArray, List.length_cons, List.length_nil, Nat.reduceAdd, Nat.reduceSub, Array.replicate_succ, Array.replicate_zero, List.push_toArray, List.append_toArray, List.nil_append, List.cons_append]
  gi_wp2
  have bO := Boxed.new w 34 (.slice none 0 0)
  have hB0 : Below w.heap.size w (w.alloc (.cells #[.slice none 0 0] 34)) := (Below.refl _ w).alloc (Nat.le_refl _) _
  refine wpIn_rangeFunc_ownF rfl (by omega) (gf := 90) (lb := #[.pointer (some ⟨b, 0, none⟩)]) rfl trivial (enters_of Tryd.func90 (by kernel_rfl) rfl)
    (small_seq 2 (by omega) b s w (by omega) hb) (fun h k => keepsRows_t h k) keepsRows_b hB0 (fun _ => rfl)
    (fun pre W => (∃ v, Boxed W w.heap.size 34 v ∧ W.ownsRow (w.heap.size + 1) 5 1 v pre.length (cellsB pre) ∧ True) ∧ Below w.heap.size w W ∧ w.heap.size + 1 ≤ W.heap.size)
    (fun _ _ _ => False)
    (OwnFrom.and (Own.from (holdsRow_own (w.heap.size + 1) w.heap.size 34 5 1 (fun pre => pre.length) (fun pre => cellsB pre) (fun _ _ => True)) _) (OwnFrom.and (ownFrom_below (Nat.le_refl _) (by simp)) ownFrom_size))
    (fun _ _ _ _ _ hs _ _ => hs)
    ⟨⟨_, bO, World.ownsRow_nil _ _ _ _, trivial⟩, hB0, by simp⟩
    (fun x => { tmps := #[.slice none 0 0, .func (.func 90) #[] #[.pointer (some ⟨b, 0, none⟩)], .pointer (some ⟨w.heap.size, 0, none⟩), undef, .slice none 0 0, .int .u8 ((x.toNat : Nat) : Int), .func (.func 90) #[] #[.pointer (some ⟨b, 0, none⟩)], .int .u8 ((x.toNat : Nat) : Int), undef, undef, undef, undef, undef], defers := [] }) ?assign ?body ?done ?stop
  case assign =>
    intro l x W K hK
    gi_wp2
    exact hK
  case body =>
    rintro l pre x W ⟨⟨v, hv, hrow, _⟩, hB, hbW⟩ hpl
    have hc := hv.cell
    have hzW := hB.size
    gi_wp2_with (gi_at_builtin; refine wpListIn_append_own _ rfl _ _ 34 rfl (w.heap.size + 1) 5 i0 (.int .u8 0) 1 1 Tryd.underlying34 hi hz0 hz1 hz2 rfl (by decide) _ _ _ rfl (hrow.alloc _) ⟨W.heap.size, 0, none⟩ 1 1 [.int .u8 ((x.toNat : Nat) : Int)] rfl rfl (cell_one_new _ _ _) (by simp [Value.oneCell']) (by unfold maxLen; omega) (by omega) (by simp; omega) ?_; intro v' w1 hown' hgrow _; obtain ⟨g', cap', rfl⟩ := ownsRow_succ hown'; have hkr := keepsRows_app (v' := Value.slice (some ⟨g', 0, none⟩) (pre.length + 1) cap') hv hrow hgrow; obtain ⟨hv1, hv2, hr2, hk2, hb2, ho2⟩ := boxed_appended hv (by decide) hrow (by omega) hzW (Nat.le_refl _) hown' hgrow; have hc1 := hv1.cell; have hf1 := hv1.frozen)
    exact ⟨hk2, hkr, ⟨_, hv2, by rw [cellsB_append, List.length_append]; exact hr2, trivial⟩, hB.trans hb2, Nat.le_trans hbW hk2.size⟩
  case done =>
    rintro D xs W hD rfl ⟨⟨v, hv, hrow, _⟩, hB, hbW⟩ hK
    have hc := hv.cell
    gi_wp2
    refine ⟨by simp, .inl ⟨_, _, rfl, run_takeDeferred hK, ?_⟩⟩
    exact ⟨_, results_tmp rfl _ _ _, v, rfl, ownsRow_base (ownsRow_putObj hrow _ hK rfl) (by omega), hB.trans (belowK_b (w := w) (Nat.le_refl _) W D _ _ (by simp at hD; omega) hK rfl rfl)⟩
  case stop =>
    rintro D c pre W _ _ h _
    exact h.elim

end Go.Proofs.YtifjibgnjjiggaaDoor
end

/- header.small, header.Same; the reference's Small. -/
set_option linter.unusedVariables false
set_option linter.unusedSimpArgs false
section
namespace Go.Proofs.YtifjibgnjjiggaaDoor
open Go.RowKit

set_option maxRecDepth 100000 in
theorem collect_any (s : List UInt8) (b : Nat) (w : World) (hs : s.length ≤ 1099511627776) (hb : Boxed w b 9 (.string (bs s))) :
    Calls Tryd.prog 89 #[.func (.func 90) #[] #[.pointer (some ⟨b, 0, none⟩)]] w (BytesP w.heap.size (lowL s) w) := by
  have HC := fun w0 (h : Boxed w0 b 9 (.string (bs s))) => appendSeq_any s b w0 hs h
  have HC2 := Lib.hid HC
  have HB := Lib.hid hb
  clear HC hb
  go_enter Tryd.func89, Tryd.ntmps89
  go_wp2_with fail
  refine (HC2.out _ HB.out).mono ?_
  rintro e w2 ⟨v, rfl, ho, hb2⟩
  go_wp2
  go_ret
  exact ⟨v, rfl, ho, hb2⟩

set_option maxRecDepth 100000 in
theorem small_any (s : List UInt8) (w : World) (hs : s.length ≤ 1099511627776) : Calls Tryd.prog 72 #[.string (bs s)] w fun e w' => e = .returned (.string (bs (lowL s))) ∧ Below w.heap.size w w' := by
  have HS := Lib.hid hs
  have hB0 : Below w.heap.size w (w.alloc (.cells #[.string (bs s)] 9)) := (Below.refl _ w).alloc (Nat.le_refl _) _
  have bO := Boxed.new w 9 (.string (bs s))
  have HBO := Lib.hid bO
  clear bO hs
  go_enter Tryd.func72, Tryd.ntmps72
  go_wp2_with fail
  refine (collect_any s _ _ HS.out HBO.out).mono ?_
  rintro e w2 ⟨v, rfl, ho, hb2⟩
  have hcv := convert_bytes ho.bytes
  have hB2 := hB0.trans (hb2.mono (by simp))
  clear ho hb2
  go_wp2
  go_ret
  exact ⟨rfl, hB2⟩

set_option maxRecDepth 100000 in
theorem hsame_any (a b : List UInt8) (w : World) (ha : a.length ≤ 1099511627776) (hb : b.length ≤ 1099511627776) : Calls Tryd.prog 59 #[.string (bs a), .string (bs b)] w fun e w' => e = .returned (.bool (lowL a == lowL b)) ∧ Below w.heap.size w w' := by
  have HA := Lib.hid ha
  have HB := Lib.hid hb
  clear ha hb
  go_enter Tryd.func59, Tryd.ntmps59
  go_wp2_with fail
  refine (small_any a _ HA.out).mono ?_
  rintro e w2 ⟨rfl, hb2⟩
  go_wp2_with fail
  refine (small_any b _ HB.out).mono ?_
  rintro e w3 ⟨rfl, hb3⟩
  go_wp2
  go_ret
  exact ⟨rfl, hb2.trans (hb3.mono hb2.size)⟩

/-- []byte(s), with its block -/
theorem to_row2 (l : List UInt8) (w : World) : ∃ (cap : Nat) (w' : World) (cs : Array Value) (t : TypeId), (convert 9 34 (.string (bs l))).run Tryd.prog w = .ok (.slice (some ⟨w.heap.size, 0, none⟩) l.length cap) w' ∧
    w'.heap[w.heap.size]? = some (.cells cs t (cs.size, cs.size + 1)) ∧ l.length ≤ cs.size ∧ (∀ i, i < l.length → cs[i]? = some (.int .u8 ((l.getD i 0).toNat : Int))) ∧ Below w.heap.size w w' ∧ w.heap.size < w'.heap.size := by
  have h := run_bytes_of_string (P := Tryd.prog) w 9 34 5 (bs l) Tryd.underlying9 Tryd.underlying34 Tryd.underlying5
  rw [bs_size] at h
  have hcs : ∀ i, i < l.length → (bytesRow (bs l) (grownCap w l.length 0 5))[i]? = some (.int .u8 ((l.getD i 0).toNat : Int)) := fun i hi => by
    have hb := bytesRow_at (bs l) (grownCap w l.length 0 5) i (by simpa using hi)
    rw [hb]
    simp [List.getD, hi]
  refine ⟨_, _, _, _, h, heap_new w.drew _, by unfold bytesRow; simp, hcs, ((Below.refl _ w).drew).alloc (Nat.le_refl _) _, by simp⟩

theorem set_row {W : World} {g k : Nat} {cs : Array Value} {t : TypeId} {fr : Nat × Nat} (h : W.heap[g]? = some (.cells cs t fr)) (x : Value) : (W.setCell ⟨g, k, none⟩ x).heap[g]? = some (.cells (cs.setIfInBounds k x) t fr) := by
  simp [World.setCell, Array.getElem?_modify, h]

end Go.Proofs.YtifjibgnjjiggaaDoor
end

/- A slice of fields that came in. -/
set_option linter.unusedVariables false
set_option linter.unusedSimpArgs false
section
namespace Go.Proofs.YtifjibgnjjiggaaDoor
open Go.RowKit Go.Deep Go.WideShapes Go.ChangeShapes

/-- a field that came in -/
structure Fla where
  name : List UInt8
  value : List UInt8
  pos : Int
  fin : Int

def cellsFla (f : Fla) : List Value := [.string (bs f.name), .string (bs f.value), .int .i64 f.pos, .int .i64 f.fin]

/-- an argument that reads as the fields fs -/
def ArgF (w : World) (v : Value) (fs : List Fla) : Prop :=
  (∃ a c, v = .slice a 0 c ∧ fs = []) ∨ ∃ (b o c : Nat), v = .slice (some ⟨b, o, none⟩) fs.length c ∧ 0 < fs.length ∧ b < w.heap.size ∧
    ∀ j f, fs[j]? = some f → ∀ i, i < 4 → w.cell? ⟨b, o + (j * 4 + i), none⟩ = (cellsFla f)[i]?

theorem ArgF.below {w w' : World} {v : Value} {fs : List Fla} (h : ArgF w v fs) (hb : Below w.heap.size w w') : ArgF w' v fs := by
  rcases h with h | ⟨b, o, c, h1, h2, h3, h4⟩
  · exact .inl h
  · exact .inr ⟨b, o, c, h1, h2, Nat.lt_of_lt_of_le h3 hb.size, fun j f hf i hi => (hb.cell (p := ⟨b, o + (j * 4 + i), none⟩) h3).trans (h4 j f hf i hi)⟩

theorem ba_data (s : ByteArray) : bs s.data.toList = s := by
  apply ByteArray.ext
  simp

section
variable {H : Type} {enc : TypeId × Value → H} {w : World} {base : Nat} {spare : Nat → Bool} {held : Bool}

theorem open_ssii {P : Program} {t ts ti : TypeId} {f0 f1 f2 f3 : Field} {n : Nat} {cs : List Value} {x : DataW H × List MemPlace} (hs : P.underlying t = some (.struct #[f0, f1, f2, f3])) (hone : oneCellFields P #[f0, f1, f2, f3] = true) (hC : P.cellsOf t = 4)
    (hS : P.underlying ts = some .string) (hI : P.underlying ti = some (.int .i64)) (t0 : f0.type = ts) (t1 : f1.type = ts) (t2 : f2.type = ti) (t3 : f3.type = ti) (h : DataW.trod enc P w base spare held n t cs = some x) :
    ∃ f : Fla, cs = cellsFla f ∧ f.name.length ≤ maxLen ∧ f.value.length ≤ maxLen := by
  obtain ⟨xs, m, _, hx, hl, hlen, hf⟩ := DataW.trod_struct hs h
  rw [hC] at hl
  match cs, hl, xs, hlen with
  | [c0, c1, c2, c3], _, [y0, y1, y2, y3], _ =>
    obtain ⟨o0, k0⟩ := hone_of hone 0 f0 rfl
    obtain ⟨o1, k1⟩ := hone_of hone 1 f1 rfl
    obtain ⟨o2, k2⟩ := hone_of hone 2 f2 rfl
    obtain ⟨o3, k3⟩ := hone_of hone 3 f3 rfl
    have h0 := hf 0 f0 rfl
    have h1 := hf 1 f1 rfl
    have h2 := hf 2 f2 rfl
    have h3 := hf 3 f3 rfl
    rw [o0, k0, t0] at h0
    rw [o1, k1, t1] at h1
    rw [o2, k2, t2] at h2
    rw [o3, k3, t3] at h3
    obtain ⟨s0, e0, _, z0⟩ := DataW.trod_string hS h0
    obtain ⟨s1, e1, _, z1⟩ := DataW.trod_string hS h1
    obtain ⟨a2, e2, _, _⟩ := DataW.trod_int hI h2
    obtain ⟨a3, e3, _, _⟩ := DataW.trod_int hI h3
    simp at e0 e1 e2 e3
    subst e0 e1 e2 e3
    exact ⟨⟨s0.data.toList, s1.data.toList, a2, a3⟩, by simp [cellsFla, ba_data], by simpa using z0, by simpa using z1⟩

theorem open_fld {n : Nat} {cs : List Value} {x : DataW H × List MemPlace} (h : DataW.trod enc Tryd.prog w base spare held n 87 cs = some x) :
    ∃ f : Fla, cs = cellsFla f ∧ f.name.length ≤ maxLen ∧ f.value.length ≤ maxLen :=
  open_ssii Tryd.underlying87 (by kernel_rfl) (by kernel_rfl) Tryd.underlying9 Tryd.underlying3 rfl rfl rfl rfl h

set_option maxRecDepth 100000 in
theorem arg_flds {W : World} {t : TypeId} (ht : Tryd.prog.underlying t = some (.slice 87)) {a0 : Option Addr} {len cap : Nat} {d : DataW H} {p : List MemPlace}
    (h0 : DataW.Trod enc Tryd.prog W 0 (fun _ => true) true t (.slice a0 len cap) d p) : ∃ fs, ArgF W (.slice a0 len cap) fs ∧ fs.length ≤ maxLen ∧ ∀ f ∈ fs, f.name.length ≤ maxLen ∧ f.value.length ≤ maxLen := by
  obtain ⟨fuel, hf⟩ := h0
  have hlt := DataW.trod_lt _ _ _ _ hf
  have hC : Tryd.prog.cellsOf 87 = 4 := by kernel_rfl
  rcases open_slice ht hf with ⟨hcs, hx⟩ | ⟨a, len', cap', m, n, D, Pl, hcs, _, hl, hm, hmm, hx, hel⟩
  · simp [Value.cells] at hcs
    obtain ⟨rfl, rfl, rfl⟩ := hcs
    exact ⟨[], .inl ⟨_, _, rfl, rfl⟩, by simp, by simp⟩
  · simp [Value.cells] at hcs
    obtain ⟨rfl, rfl, rfl⟩ := hcs
    simp only [Prod.mk.injEq] at hx
    obtain ⟨rfl, rfl⟩ := hx
    simp only [if_true] at hmm
    subst hmm
    rw [hC] at hel
    by_cases h1 : len = 0
    · subst h1
      exact ⟨[], .inl ⟨_, _, rfl, rfl⟩, by simp, by simp⟩
    · have key : ∀ i, i < m → ∃ f : Fla, W.cells? 0 (a.add (i * 4)) 4 = some (cellsFla f) ∧ f.name.length ≤ maxLen ∧ f.value.length ≤ maxLen := fun i hi => by
        obtain ⟨cs', h1, h2⟩ := hel i hi
        obtain ⟨f, rfl, h3, h4⟩ := open_fld h2
        exact ⟨f, h1, h3, h4⟩
      haveI : Inhabited Fla := ⟨⟨[], [], 0, 0⟩⟩
      obtain ⟨F, hF⟩ := choose_lt key
      obtain ⟨b, off, spot⟩ := a
      have hcell0 := (World.cells?_some (hF 0 (by omega)).1).2.2 0 (by decide)
      have hspot : spot = none := by simpa [Addr.add] using World.cell?_spot hcell0
      subst hspot
      have hlen : ((List.range len).map F).length = len := by simp
      refine ⟨(List.range len).map F, .inr ⟨b, off, m, by rw [hlen], by omega, ?_, fun j f hj i hi => ?_⟩, by rw [hlen]; omega, ?_⟩
      · exact hlt (.cell b off) (List.mem_append_left _ (MemPlace.mem_row.2 ⟨0, by rw [hC]; omega, by simp⟩))
      · obtain ⟨hj1, hj2⟩ := List.getElem?_eq_some_iff.1 hj
        rw [hlen] at hj1
        simp only [List.getElem_map, List.getElem_range] at hj2
        subst hj2
        have := (World.cells?_some (hF j (by omega)).1).2.2 i hi
        rw [add_add, add_plain] at this
        exact this
      · intro f hf9
        obtain ⟨j, hj, rfl⟩ := List.mem_map.1 hf9
        exact (hF j (by have := List.mem_range.1 hj; omega)).2
end

end Go.Proofs.YtifjibgnjjiggaaDoor
end

/- lines.Split, lines.Join. -/
set_option linter.unusedVariables false
set_option linter.unusedSimpArgs false
section
namespace Go.Proofs.YtifjibgnjjiggaaDoor
open Go.RowKit Go Go.Shelf
attribute [local go_sem] Oper.semAt_some

theorem lines_any (s : List UInt8) (w : World) : Calls Tryd.prog 68 #[.string (bs s)] w fun e w' => e = .returned (.func (.func 86) #[] #[.pointer (some ⟨w.heap.size, 0, none⟩)]) ∧ w.alloc (.cells #[.string (bs s)] 9) = w' := by
  go_enter Tryd.func68, Tryd.ntmps68
  go_wp2
  go_ret
  exact ⟨rfl, rfl⟩

/-- a slice of strings handed back -/
def Strs (B : Nat) (ls : List (List UInt8)) (w : World) (e : Ending) (w' : World) : Prop := ∃ v, e = .returned v ∧ OwnS w' B v ls ∧ Below B w w'

set_option maxRecDepth 100000 in
set_option maxHeartbeats 2000000 in
theorem split_any (s : List UInt8) (w : World) (hs : s.length ≤ 1099511627776) : Calls Tryd.prog 57 #[.string (bs s)] w (Strs w.heap.size (linesOf s) w) := by
  obtain ⟨i0, hi, hz0, hz1, hz2⟩ := info_parts info_str
  have hll := linesOf_length s
  refine (callsIn_wide (n := 3)).1 ?_
  refine callsIn_of_wp_marks Tryd.func57 rfl trivial ?_ rfl
  simp only [Tryd.ntmps57, List.size_toArray, List.length_cons, List.length_nil, Nat.reduceAdd, Nat.reduceSub, Array.replicate_succ, Array.replicate_zero, List.push_toArray, List.append_toArray, List.nil_append, List.cons_append]
  gi_wp2_with (refine ⟨trivial, ?_⟩; gi_at_call 68; refine (callsIn_wide.2 (lines_any _ _)).mono ?_; rintro e w' ⟨rfl, rfl⟩)
  have bO := Boxed.new w 28 (.slice none 0 0)
  have bN := Boxed.new (w.alloc (.cells #[.slice none 0 0] 28)) 9 (.string (bs s))
  rw [World.size_alloc] at bN
  have hB0 : Below w.heap.size w ((w.alloc (.cells #[.slice none 0 0] 28)).alloc (.cells #[.string (bs s)] 9)) := ((Below.refl _ w).alloc (Nat.le_refl _) _).alloc (by simp) _
  refine wpIn_rangeFunc_box rfl (by omega) (gf := 86) (b := w.heap.size + 1) (t := 9) rfl trivial (enters_of Tryd.func86 (by kernel_rfl) rfl)
    (lines_seq 2 (by omega) _ s (by omega)) bN rfl
    (fun pre W => (∃ v, Boxed W w.heap.size 28 v ∧ W.ownsRow (w.heap.size + 2) 9 1 v pre.length (cellsS pre) ∧ True) ∧ Below w.heap.size w W ∧ w.heap.size + 2 ≤ W.heap.size)
    (fun _ _ _ => False)
    (OwnFrom.and (Own.from (holdsRow_own (w.heap.size + 2) w.heap.size 28 9 1 (fun pre => pre.length) (fun pre => cellsS pre) (fun _ _ => True)) _) (OwnFrom.and (ownFrom_below (Nat.le_refl _) (by simp; omega)) ownFrom_size))
    (fun _ _ _ _ _ hs _ _ => hs)
    (AbidesBox.and (by
      rintro pre W W' ⟨v, hv, hr, _⟩ hg
      refine ⟨v, hv.kept hg (by simp), hr.kept hg ?_, trivial⟩
      have := World.ownsRow.lt hr
      cases ho : v.ownBlock with
      | none => exact .inl rfl
      | some k =>
        have := (this k ho).1
        exact .inr (by simp; omega)) (AbidesBox.and (abidesBox_below (by omega) (Nat.le_refl _)) abidesBox_size))
    (fun _ _ _ _ hs _ => hs)
    ⟨⟨_, bO.alloc _, World.ownsRow_nil _ _ _ _, trivial⟩, hB0, by simp⟩
    (fun x => { tmps := #[.string (bs s), undef, .slice none 0 0, .pointer (some ⟨w.heap.size, 0, none⟩), .string (bs x), .string (bs s), .func (.func 86) #[] #[.pointer (some ⟨w.heap.size + 1, 0, none⟩)], .string (bs x), undef, undef, undef, undef, undef], defers := [] }) ?assign ?body ?done ?stop
  case assign =>
    intro l x W K hK
    gi_wp2
    exact hK
  case body =>
    rintro l pre x W hpre ⟨⟨v, hv, hrow, _⟩, hB, hbW⟩
    have hc := hv.cell
    have hpl : pre.length + 1 ≤ (linesOf s).length := by have := hpre.length_le; simpa using this
    have hzW := hB.size
    gi_wp2_with (gi_at_builtin; refine wpListIn_append_own _ rfl _ _ 28 rfl (w.heap.size + 2) 9 i0 (.string ⟨#[]⟩) 1 16 Tryd.underlying28 hi hz0 hz1 hz2 rfl (by decide) _ _ _ rfl (hrow.alloc _) ⟨W.heap.size, 0, none⟩ 1 1 [.string (bs x)] rfl rfl (cell_one_new _ _ _) (by simp [Value.oneCell']) (by unfold maxLen; omega) (by omega) (by simp; omega) ?_; intro v' w1 hown' hgrow _; obtain ⟨g', cap', rfl⟩ := ownsRow_succ hown'; obtain ⟨hv1, hv2, hr2, hk2, hb2, ho2⟩ := boxed_appended hv (by decide) hrow (by omega) hzW (Nat.le_refl _) hown' hgrow; have hc1 := hv1.cell; have hf1 := hv1.frozen)
    exact ⟨hk2.from _, ho2 _ (by omega) (by omega) (by omega), ⟨_, hv2, by rw [cellsS_append, List.length_append]; exact hr2, trivial⟩, hB.trans hb2, Nat.le_trans hbW hk2.size⟩
  case done =>
    rintro D W hD ⟨⟨v, hv, hrow, _⟩, hB, hbW⟩ hK
    have hc := hv.cell
    gi_wp2
    refine ⟨by simp, .inl ⟨_, _, rfl, run_takeDeferred hK, ?_⟩⟩
    exact ⟨_, results_tmp rfl _ _ _, v, rfl, OwnS.base (ownsRow_putObj hrow _ hK rfl) (by omega), hB.trans (belowK_b (w := w) (Nat.le_refl _) W D _ _ (by simp at hD; omega) hK rfl rfl)⟩
  case stop =>
    rintro D c pre W _ _ h _
    exact h.elim

end Go.Proofs.YtifjibgnjjiggaaDoor
end

/- The reference's lines: Split, Same; lines.Join. -/
set_option linter.unusedVariables false
set_option linter.unusedSimpArgs false
section
namespace Go.Proofs.YtifjibgnjjiggaaDoor
open Go.RowKit Go

theorem lines_at {s : List UInt8} {f k : Nat} (hf : f ≤ k) (hk : s[k]? = some 10) (hn : ∀ j, f ≤ j → j < k → s[j]? ≠ some 10) : linesOf (s.drop f) = ((s.drop f).take (k + 1 - f)) :: linesOf (s.drop (k + 1)) := by
  obtain ⟨hlt, hk'⟩ := List.getElem?_eq_some_iff.1 hk
  have e : s.drop f = (s.drop f).take (k - f) ++ 10 :: s.drop (k + 1) := by
    conv => lhs; rw [← List.take_append_drop (k - f) (s.drop f)]
    rw [List.drop_drop, show f + (k - f) = k by omega, List.drop_eq_getElem_cons hlt, hk']
  have ha : ∀ c ∈ (s.drop f).take (k - f), c ≠ 10 := by
    intro c hc h10
    subst h10
    obtain ⟨j, hj, hjc⟩ := List.mem_iff_getElem.1 hc
    simp only [List.length_take, List.length_drop] at hj
    refine hn (f + j) (by omega) (by omega) ?_
    simp only [List.getElem_take, List.getElem_drop] at hjc
    exact List.getElem?_eq_some_iff.2 ⟨by omega, hjc⟩
  have hl : ((s.drop f).take (k - f)).length = k - f := by simp; omega
  have ht : (s.drop f).take (k + 1 - f) = (s.drop f).take (k - f) ++ [10] := by
    conv => lhs; rw [e, show (s.drop f).take (k - f) ++ 10 :: s.drop (k + 1) = ((s.drop f).take (k - f) ++ [10]) ++ s.drop (k + 1) by simp]
    exact List.take_left' (by simp only [List.length_append, hl, List.length_singleton]; omega)
  rw [ht, ← linesOf_nl _ _ ha, ← e]
theorem lines_tail {s : List UInt8} {f : Nat} (hf : f < s.length) (hn : ∀ j, f ≤ j → j < s.length → s[j]? ≠ some 10) : linesOf (s.drop f) = [s.drop f] := by
  refine linesOf_end _ (fun c hc h10 => ?_) (by intro e; have := congrArg List.length e; simp at this; omega)
  subst h10
  obtain ⟨j, hj, hjc⟩ := List.mem_iff_getElem.1 hc
  simp only [List.length_drop] at hj
  refine hn (f + j) (by omega) (by omega) ?_
  simp only [List.getElem_drop] at hjc
  exact List.getElem?_eq_some_iff.2 ⟨by omega, hjc⟩

theorem OwnS.below {B : Nat} {u w w' : World} {v : Value} {l : List (List UInt8)} (hb : Below B u w) (h : OwnS w B v l) (hg : w.grownBy w' v.ownBlock) (hB : B ≤ w.heap.size) : Below B u w' :=
  hb.grown hg hB (fun k e => (World.ownsRow.lt h k e).1)

end Go.Proofs.YtifjibgnjjiggaaDoor
end

/- header's reader: a line that ends the header, one that goes on, one that is no field. -/
set_option linter.unusedVariables false
set_option linter.unusedSimpArgs false
section
namespace Go.Proofs.YtifjibgnjjiggaaDoor
open Go.RowKit

set_option maxRecDepth 100000 in
set_option maxHeartbeats 1000000 in
theorem line_end (w : World) (b B : Nat) (v : Value) (fs : List Fld) (op : Bool) (p : Nat) (l : List UInt8) (hk : RdrAt w b v op p) (ho : OwnF w B v fs) (hl : l.length ≤ 1099511627776) (hp : p + l.length ≤ 1099511627776) (ht : textL l = []) :
    Calls Tryd.prog 58 #[.pointer (some ⟨b, 0, none⟩), .string (bs l)] w (LineP b B v w fs op false (p + l.length)) := by
  obtain ⟨c0, c1, c2, f0, f1, f2⟩ := hk.cells
  have HT := Lib.hid ht
  have hkV := hk.set2 (p + l.length)
  have hcast : (p : Int) + (l.length : Int) = ((p + l.length : Nat) : Int) := by omega
  rw [← hcast] at hkV
  have hoV : OwnF (w.setCell ⟨b, 2, none⟩ (.int .i64 ((p : Int) + l.length))) B v fs := ho.later fun k hkk => Below.heap_setCell _ _ _ _ (by simp; rintro rfl; exact hk.not_row ho hkk)
  have hfV : Frm b v w (w.setCell ⟨b, 2, none⟩ (.int .i64 ((p : Int) + l.length))) := (Frm.refl b v w).set 2 _
  have HK := Lib.hid hkV
  clear ht hkV hcast
  go_enter Tryd.func58, Tryd.ntmps58
  go_wp2_with fail
  refine (text_any l _ hl).mono ?_
  rintro e w' ⟨rfl, rfl⟩
  rw [HT.out]
  go_wp2_with fail
  refine (name_any [] _ (by decide)).mono ?_
  rintro e w1 hn
  obtain ⟨⟨x, y, rfl⟩, hb1⟩ : (∃ x y, e = Ending.returned (.tuple #[.string (bs x), .string (bs y), .bool false])) ∧ Below (w.setCell ⟨b, 2, none⟩ (.int .i64 ((p : Int) + l.length))).heap.size (w.setCell ⟨b, 2, none⟩ (.int .i64 ((p : Int) + l.length))) w1 := hn
  go_wp2
  go_ret
  exact ⟨v, rfl, HK.out.below hb1, hoV.below hb1, hfV.trans (Frm.of_below (v := v) hb1) (fun k h => .inl h), fun k h => .inl h⟩
/- marked -/
set_option maxRecDepth 100000 in
set_option maxHeartbeats 2000000 in
theorem line_shut (w : World) (b B : Nat) (v : Value) (fs : List Fld) (op : Bool) (p : Nat) (l : List UInt8) (c : UInt8) (r : List UInt8) (hk : RdrAt w b v op p) (ho : OwnF w B v fs) (hl : l.length ≤ 1099511627776) (hp : p + l.length ≤ 1099511627776) (ht : textL l = c :: r) (hg : goesB (c :: r) = true) (hop : op = false) :
    Calls Tryd.prog 58 #[.pointer (some ⟨b, 0, none⟩), .string (bs l)] w (LineP b B v w fs false true (p + l.length)) := by
  subst hop
  have HN := Lib.hid (nameL_goes hg)
  have HG := Lib.hid hg
  clear hg
  obtain ⟨c0, c1, c2, f0, f1, f2⟩ := hk.cells
  have HT := Lib.hid ht
  have hkV := hk.set2 (p + l.length)
  have hcast : (p : Int) + (l.length : Int) = ((p + l.length : Nat) : Int) := by omega
  rw [← hcast] at hkV
  have hoV : OwnF (w.setCell ⟨b, 2, none⟩ (.int .i64 ((p : Int) + l.length))) B v fs := ho.later fun k hkk => Below.heap_setCell _ _ _ _ (by simp; rintro rfl; exact hk.not_row ho hkk)
  have hfV : Frm b v w (w.setCell ⟨b, 2, none⟩ (.int .i64 ((p : Int) + l.length))) := (Frm.refl b v w).set 2 _
  have hszV : (w.setCell ⟨b, 2, none⟩ (.int .i64 ((p : Int) + l.length))).heap.size = w.heap.size := by simp [World.setCell]
  obtain ⟨V, hV⟩ : ∃ V, w.setCell ⟨b, 2, none⟩ (.int .i64 ((p : Int) + l.length)) = V := ⟨_, rfl⟩
  rw [hV] at hkV hoV hfV hszV
  have HV := Lib.hid hV
  have HK := Lib.hid hkV
  have htl := textL_len l
  rw [ht] at htl
  have HTL : Hid ((c :: r).length ≤ 1099511627776) := by show _ ≤ _; omega
  clear ht hkV hcast hV htl
  go_enter Tryd.func58, Tryd.ntmps58
  go_wp2_with fail
  refine (text_any l _ hl).mono ?_
  rintro e w' ⟨rfl, rfl⟩
  rw [HT.out]
  go_wp2_with fail
  rw [HV.out]
  refine (name_any (c :: r) _ HTL.out).mono ?_
  rintro e w1 hn
  unfold nameV at hn
  rw [HN.out] at hn
  obtain ⟨⟨x, y, rfl⟩, hb1⟩ := hn
  have hk1 := HK.out.below hb1
  have ho1 := hoV.below hb1
  have hf1 := hfV.trans (Frm.of_below (v := v) hb1) (fun k h => .inl h)
  obtain ⟨d0, d1, d2, g0, g1, g2⟩ := hk1.cells
  have HK1 := Lib.hid hk1
  clear c0 c1 c2 f0 f1 f2 hk1
  go_wp2_with fail
  refine (goesOn_any (c :: r) _).mono ?_
  rintro e w' ⟨rfl, rfl⟩
  rw [HG.out]
  go_wp2
  go_ret
  exact ⟨v, rfl, HK1.out, ho1, hf1, fun k h => .inl h⟩

set_option maxRecDepth 100000 in
set_option maxHeartbeats 2000000 in
theorem line_no (w : World) (b B : Nat) (v : Value) (fs : List Fld) (op : Bool) (p : Nat) (l : List UInt8) (c : UInt8) (r : List UInt8) (hk : RdrAt w b v op p) (ho : OwnF w B v fs) (hl : l.length ≤ 1099511627776) (hp : p + l.length ≤ 1099511627776) (ht : textL l = c :: r) (hg : goesB (c :: r) = false) (hnm : nameL (c :: r) = none) :
    Calls Tryd.prog 58 #[.pointer (some ⟨b, 0, none⟩), .string (bs l)] w (LineP b B v w fs false true (p + l.length)) := by
  have HN := Lib.hid hnm
  have HG := Lib.hid hg
  clear hg hnm
  obtain ⟨c0, c1, c2, f0, f1, f2⟩ := hk.cells
  have HT := Lib.hid ht
  have hkV := hk.set2 (p + l.length)
  have hcast : (p : Int) + (l.length : Int) = ((p + l.length : Nat) : Int) := by omega
  rw [← hcast] at hkV
  have hoV : OwnF (w.setCell ⟨b, 2, none⟩ (.int .i64 ((p : Int) + l.length))) B v fs := ho.later fun k hkk => Below.heap_setCell _ _ _ _ (by simp; rintro rfl; exact hk.not_row ho hkk)
  have hfV : Frm b v w (w.setCell ⟨b, 2, none⟩ (.int .i64 ((p : Int) + l.length))) := (Frm.refl b v w).set 2 _
  have hszV : (w.setCell ⟨b, 2, none⟩ (.int .i64 ((p : Int) + l.length))).heap.size = w.heap.size := by simp [World.setCell]
  obtain ⟨V, hV⟩ : ∃ V, w.setCell ⟨b, 2, none⟩ (.int .i64 ((p : Int) + l.length)) = V := ⟨_, rfl⟩
  rw [hV] at hkV hoV hfV hszV
  have HV := Lib.hid hV
  have HK := Lib.hid hkV
  have htl := textL_len l
  rw [ht] at htl
  have HTL : Hid ((c :: r).length ≤ 1099511627776) := by show _ ≤ _; omega
  clear ht hkV hcast hV htl
  go_enter Tryd.func58, Tryd.ntmps58
  go_wp2_with fail
  refine (text_any l _ hl).mono ?_
  rintro e w' ⟨rfl, rfl⟩
  rw [HT.out]
  go_wp2_with fail
  rw [HV.out]
  refine (name_any (c :: r) _ HTL.out).mono ?_
  rintro e w1 hn
  unfold nameV at hn
  rw [HN.out] at hn
  obtain ⟨⟨x, y, rfl⟩, hb1⟩ := hn
  have hk1 := HK.out.below hb1
  have ho1 := hoV.below hb1
  have hf1 := hfV.trans (Frm.of_below (v := v) hb1) (fun k h => .inl h)
  obtain ⟨d0, d1, d2, g0, g1, g2⟩ := hk1.cells
  have HK1 := Lib.hid hk1
  clear c0 c1 c2 f0 f1 f2 hk1
  go_wp2_with fail
  refine (goesOn_any (c :: r) _).mono ?_
  rintro e w' ⟨rfl, rfl⟩
  rw [HG.out]
  go_wp2
  go_ret
  exact ⟨v, rfl, HK1.out.set1 false, ho1.later fun k hkk => Below.heap_setCell _ _ _ _ (by simp; rintro rfl; exact HK1.out.not_row ho1 hkk), hf1.set 1 _, fun k h => .inl h⟩

end Go.Proofs.YtifjibgnjjiggaaDoor
end

/- header's reader: a line behind an open field. -/
set_option linter.unusedVariables false
set_option linter.unusedSimpArgs false
section
namespace Go.Proofs.YtifjibgnjjiggaaDoor
open Go.RowKit


set_option maxRecDepth 100000 in
set_option maxHeartbeats 2000000 in
theorem line_more (w : World) (b B : Nat) (v : Value) (fs : List Fld) (op : Bool) (p : Nat) (l : List UInt8) (c : UInt8) (r : List UInt8) (hk : RdrAt w b v op p) (ho : OwnF w B v fs) (hl : l.length ≤ 1099511627776) (hp : p + l.length ≤ 1099511627776) (ht : textL l = c :: r) (f : Fld) (fs0 : List Fld) (hfs : fs = fs0 ++ [f]) (hfv : f.value.length ≤ 1099511627776) (hfl : fs0.length ≤ 1099511627776) (hg : goesB (c :: r) = true) (hop : op = true) :
    Calls Tryd.prog 58 #[.pointer (some ⟨b, 0, none⟩), .string (bs l)] w (LineP b B v w (fs0 ++ [{ f with value := f.value ++ (c :: r), fin := p + l.length }]) true true (p + l.length)) := by
  subst hop
  have HN := Lib.hid (nameL_goes hg)
  have HG := Lib.hid hg
  clear hg
  obtain ⟨c0, c1, c2, f0, f1, f2⟩ := hk.cells
  have HT := Lib.hid ht
  have hkV := hk.set2 (p + l.length)
  have hcast : (p : Int) + (l.length : Int) = ((p + l.length : Nat) : Int) := by omega
  rw [← hcast] at hkV
  have hoV : OwnF (w.setCell ⟨b, 2, none⟩ (.int .i64 ((p : Int) + l.length))) B v fs := ho.later fun k hkk => Below.heap_setCell _ _ _ _ (by simp; rintro rfl; exact hk.not_row ho hkk)
  have hfV : Frm b v w (w.setCell ⟨b, 2, none⟩ (.int .i64 ((p : Int) + l.length))) := (Frm.refl b v w).set 2 _
  have hszV : (w.setCell ⟨b, 2, none⟩ (.int .i64 ((p : Int) + l.length))).heap.size = w.heap.size := by simp [World.setCell]
  obtain ⟨V, hV⟩ : ∃ V, w.setCell ⟨b, 2, none⟩ (.int .i64 ((p : Int) + l.length)) = V := ⟨_, rfl⟩
  rw [hV] at hkV hoV hfV hszV
  have HV := Lib.hid hV
  have HK := Lib.hid hkV
  have htl := textL_len l
  rw [ht] at htl
  have HTL : Hid ((c :: r).length ≤ 1099511627776) := by show _ ≤ _; omega
  clear ht hkV hcast hV htl
  go_enter Tryd.func58, Tryd.ntmps58
  go_wp2_with fail
  refine (text_any l _ hl).mono ?_
  rintro e w' ⟨rfl, rfl⟩
  rw [HT.out]
  go_wp2_with fail
  rw [HV.out]
  refine (name_any (c :: r) _ HTL.out).mono ?_
  rintro e w1 hn
  unfold nameV at hn
  rw [HN.out] at hn
  obtain ⟨⟨x, y, rfl⟩, hb1⟩ := hn
  have hk1 := HK.out.below hb1
  have ho1 := hoV.below hb1
  have hf1 := hfV.trans (Frm.of_below (v := v) hb1) (fun k h => .inl h)
  obtain ⟨d0, d1, d2, g0, g1, g2⟩ := hk1.cells
  have HK1 := Lib.hid hk1
  clear c0 c1 c2 f0 f1 f2 hk1
  go_wp2_with fail
  refine (goesOn_any (c :: r) _).mono ?_
  rintro e w' ⟨rfl, rfl⟩
  rw [HG.out]
  subst hfs
  obtain ⟨g, cap, rfl, hBg, hgl⟩ := (ho1.parts).resolve_left (fun h => by have := h.2; simp at this)
  rw [List.length_append, List.length_singleton] at ho1 d0 hf1 HK1 ⊢
  have hfi : (fs0 ++ [f])[fs0.length]? = some f := by simp
  have e1 : _ = some (Value.string (bs f.value)) := ho1.cell fs0.length 1 f hfi (by decide)
  have e3 : _ = some (Value.int .i64 f.fin) := ho1.cell fs0.length 3 f hfi (by decide)
  have z1 : w1.frozen? ⟨g, fs0.length * 4 + 1, none⟩ = false := frozenF ho1 _
  have z3 : w1.frozen? ⟨g, fs0.length * 4 + 3, none⟩ = false := frozenF ho1 _
  have HFI := Lib.hid hfi
  clear hfi HN HG
  go_wp2
  go_quiet (fail)
  go_wp2
  have hcl : ¬ 9223372036854775807 < f.value.length + (r.length + 1) := by have := HTL.out; simp at this; omega
  go_region
  all_goals go_wp2
  go_ret
  have hgb : g ≠ b := fun e => HK1.out.not_row ho1 (by rw [e]; rfl)
  have hcast : ((p : Int) + (l.length : Int)) = ((p + l.length : Nat) : Int) := by omega
  rw [hcast, bs_append]
  refine ⟨_, rfl, ?_, OwnF.turn (ho1.later fun _ _ => rfl) (f.value ++ c :: r) (p + l.length), ?_, fun k h => .inl h⟩
  · exact (Below.heap_setCell _ _ _ _ (by simpa using hgb.symm)).trans ((Below.heap_setCell _ _ _ _ (by simpa using hgb.symm)).trans HK1.out)
  · have e : (fs0 ++ [f]).length = fs0.length + 1 := by simp
    rw [e]
    exact ((hf1.drewN (nq + 1)).setRow rfl _ _).setRow rfl _ _

end Go.Proofs.YtifjibgnjjiggaaDoor
end

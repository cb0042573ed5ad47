/- Texts of one walk, merged: XI2 XIe XUp XIp XIq XOb XCb XH1. -/
import Derived.Test.YtalgmnlclflllaaGreatDoorWa
import Derived.Laws.AppendOwn
import Derived.Laws.OwnMore
import Derived.Deep.AppendLies
import Derived.LoopTactic
import Derived.Outline
import Derived.Laws.BytesArg
import Derived.Laws.IdiomStrings
import Derived.Test.YtalgmnlclflllaaGreatDoorShelf
import Derived.Shelf.Strings.SlTrimAscii
import Derived.Deep.QuietTactic
import Derived.BigQuiet

/- mime (plain): a message's parts; where they stand. -/
set_option linter.unusedVariables false
set_option linter.unusedSimpArgs false
section
set_option linter.unusedVariables false
set_option linter.unusedSimpArgs false
namespace Go.Proofs.YtalgmnlclflllaaGreatDoor
open Go

/-- a part -/
inductive Prt where
  | mk (typ sub : List UInt8) (ps : List Prm) (id desc enc : List UInt8) (pos body fin lines : Int) (kids : List Prt)
def Prt.typ : Prt → List UInt8 | .mk t _ _ _ _ _ _ _ _ _ _ => t
def Prt.sub : Prt → List UInt8 | .mk _ s _ _ _ _ _ _ _ _ _ => s
def Prt.ps : Prt → List Prm | .mk _ _ p _ _ _ _ _ _ _ _ => p
def Prt.id : Prt → List UInt8 | .mk _ _ _ i _ _ _ _ _ _ _ => i
def Prt.desc : Prt → List UInt8 | .mk _ _ _ _ d _ _ _ _ _ _ => d
def Prt.enc : Prt → List UInt8 | .mk _ _ _ _ _ e _ _ _ _ _ => e
def Prt.pos : Prt → Int | .mk _ _ _ _ _ _ p _ _ _ _ => p
def Prt.body : Prt → Int | .mk _ _ _ _ _ _ _ b _ _ _ => b
def Prt.fin : Prt → Int | .mk _ _ _ _ _ _ _ _ f _ _ => f
def Prt.lines : Prt → Int | .mk _ _ _ _ _ _ _ _ _ l _ => l
def Prt.kids : Prt → List Prt | .mk _ _ _ _ _ _ _ _ _ _ k => k

/-- a text less the blanks at its end -/
def trimE (l : List UInt8) : List UInt8 := (l.reverse.dropWhile blankB).reverse
/-- where the line ahead of a place ends, its end aside -/
def aheadL (m : List UInt8) (p : Nat) : Nat := if 0 < p ∧ m[p - 1]? = some 10 then (if 0 < p - 1 ∧ m[p - 1 - 1]? = some 13 then p - 1 - 1 else p - 1) else p
theorem aheadL_le (m : List UInt8) (p : Nat) : aheadL m p ≤ p := by unfold aheadL; split <;> (try split) <;> omega
/-- the last span ends here -/
def endL (e : Nat) (out : List (Nat × Nat)) : List (Nat × Nat) := match out.getLast? with
  | none => []
  | some s => out.dropLast ++ [(s.1, max e s.1)]
/-- what stands between delimiters -/
def cutGo (m : List UInt8) (fin : Nat) (dl : List UInt8) : List (Nat × Nat) → Nat → List (List UInt8) → List (Nat × Nat)
  | out, _, [] => out
  | out, p, x :: ls =>
    if trimE (textL x) = dl ++ [45, 45] then endL (aheadL m p) out
    else if trimE (textL x) = dl then cutGo m fin dl (endL (aheadL m p) out ++ [(p + x.length, fin)]) (p + x.length) ls
    else cutGo m fin dl out (p + x.length) ls
def pieceM (m : List UInt8) (p fin : Nat) : List UInt8 := (m.drop p).take (fin - p)
def cutM (m : List UInt8) (p fin : Nat) (dl : List UInt8) : List (Nat × Nat) := cutGo m fin dl [] p (linesOf (pieceM m p fin))

/-- spans one behind the other, from p on, up to q -/
def Chain : Nat → Nat → List (Nat × Nat) → Prop
  | p, q, [] => p ≤ q
  | p, q, s :: r => p ≤ s.1 ∧ s.1 ≤ s.2 ∧ Chain s.2 q r
theorem chain_le : ∀ {l : List (Nat × Nat)} {p q : Nat}, Chain p q l → p ≤ q
  | [], _, _, h => h
  | s :: r, p, q, h => by
    have := chain_le h.2.2
    have h1 := h.1
    have h2 := h.2.1
    omega
theorem chain_app : ∀ {l : List (Nat × Nat)} {p q : Nat} {s : Nat × Nat} {z : Nat}, Chain p q l → q ≤ s.1 → s.1 ≤ s.2 → s.2 ≤ z → Chain p z (l ++ [s])
  | [], p, q, s, z, h, h1, h2, h3 => ⟨by have : p ≤ q := h; omega, h2, h3⟩
  | a :: r, p, q, s, z, h, h1, h2, h3 => ⟨h.1, h.2.1, chain_app h.2.2 h1 h2 h3⟩
theorem chain_up : ∀ {l : List (Nat × Nat)} {p q z : Nat}, Chain p q l → q ≤ z → Chain p z l
  | [], p, q, z, h, h1 => Nat.le_trans h h1
  | a :: r, p, q, z, h, h1 => ⟨h.1, h.2.1, chain_up h.2.2 h1⟩
/-- the last span turned -/
theorem chain_last : ∀ {l : List (Nat × Nat)} {p q : Nat} {s : Nat × Nat}, Chain p q (l ++ [s]) → ∀ e, s.1 ≤ e → Chain p e (l ++ [(s.1, e)])
  | [], p, q, s, h, e, he => ⟨h.1, he, Nat.le_refl e⟩
  | a :: r, p, q, s, h, e, he => ⟨h.1, h.2.1, chain_last h.2.2 e he⟩
theorem last_split {α : Type} {l : List α} {s : α} (h : l.getLast? = some s) : l = l.dropLast ++ [s] := by
  have hne : l ≠ [] := by rintro rfl; cases h
  have h2 := List.dropLast_concat_getLast hne
  rw [List.getLast?_eq_some_getLast hne] at h
  rw [Option.some.inj h] at h2
  exact h2.symm
/-- the spans while they are cut: all but the last one end ahead of p, the last one begins ahead of p -/
theorem cutGo_chain (m : List UInt8) (fin : Nat) (dl : List UInt8) (b : Nat) : ∀ (ls : List (List UInt8)) (out : List (Nat × Nat)) (p : Nat), b ≤ p → p + ls.flatten.length ≤ fin →
    (out = [] ∨ ∃ l s, out = l ++ [(s, fin)] ∧ s ≤ p ∧ Chain b fin (l ++ [(s, fin)])) → Chain b fin (cutGo m fin dl out p ls)
  | [], out, p, hb, hp, ho => by
    rw [cutGo]
    rcases ho with rfl | ⟨l, s, rfl, _, h⟩
    · show b ≤ fin
      simp at hp; omega
    · exact h
  | x :: ls, out, p, hb, hp, ho => by
    simp only [List.flatten_cons, List.length_append] at hp
    have hend : Chain b p (endL (aheadL m p) out) := by
      rcases ho with rfl | ⟨l, s, rfl, hs, h⟩
      · exact hb
      · unfold endL
        rw [List.getLast?_append, List.getLast?_singleton]
        simp only [Option.some_or, List.dropLast_concat]
        have ha := aheadL_le m p
        exact chain_up (chain_last h (max (aheadL m p) s) (Nat.le_max_right _ _)) (by omega)
    rw [cutGo]
    split
    · exact chain_up hend (by omega)
    · split
      · refine cutGo_chain m fin dl b ls _ (p + x.length) (by omega) (by omega) (.inr ⟨_, p + x.length, rfl, Nat.le_refl _, ?_⟩)
        exact chain_app hend (by simp) (by simp; omega) (Nat.le_refl _)
      · refine cutGo_chain m fin dl b ls out (p + x.length) (by omega) (by omega) ?_
        rcases ho with h | ⟨l, s, h1, h2, h3⟩
        · exact .inl h
        · exact .inr ⟨l, s, h1, by omega, h3⟩
theorem cutM_chain (m : List UInt8) (p fin : Nat) (dl : List UInt8) (h : p ≤ fin) (hm : fin ≤ m.length) : Chain p fin (cutM m p fin dl) := by
  refine cutGo_chain m fin dl p _ [] p (Nat.le_refl _) ?_ (.inl rfl)
  rw [linesOf_flatten]
  unfold pieceM
  rw [List.length_take, List.length_drop]
  omega

/-! ### parts -/
def textT : List UInt8 := [116, 101, 120, 116]
def plainT : List UInt8 := [112, 108, 97, 105, 110]
def multiT : List UInt8 := [109, 117, 108, 116, 105, 112, 97, 114, 116]
def applT : List UInt8 := [97, 112, 112, 108, 105, 99, 97, 116, 105, 111, 110]
def octT : List UInt8 := [111, 99, 116, 101, 116, 45, 115, 116, 114, 101, 97, 109]
def bit7T : List UInt8 := [55, 98, 105, 116]
def boundT : List UInt8 := [98, 111, 117, 110, 100, 97, 114, 121]
def ctypeT : List UInt8 := [99, 111, 110, 116, 101, 110, 116, 45, 116, 121, 112, 101]
def cidT : List UInt8 := [99, 111, 110, 116, 101, 110, 116, 45, 105, 100]
def cdescT : List UInt8 := [99, 111, 110, 116, 101, 110, 116, 45, 100, 101, 115, 99, 114, 105, 112, 116, 105, 111, 110]
def cencT : List UInt8 := [99, 111, 110, 116, 101, 110, 116, 45, 116, 114, 97, 110, 115, 102, 101, 114, 45, 101, 110, 99, 111, 100, 105, 110, 103]
/-- the first value of a name (in small letters); none: "" -/
def first1 (fs : List Fld) (nm : List UInt8) : List UInt8 := match fs.find? fun f => lowL f.name == nm with
  | some f => f.value
  | none => []
def encOf (fs : List Fld) : List UInt8 := if lowL (first1 fs cencT) = [] then bit7T else lowL (first1 fs cencT)
def boundOf (ps : List Prm) : List UInt8 := match ps.find? fun p => p.1 == boundT with
  | some p => p.2
  | none => []
def typeOf (fs : List Fld) : List UInt8 × List UInt8 × List Prm := match typeP (first1 fs ctypeT) with
  | some t => t
  | none => (textT, plainT, [])
/-- a multipart of these kids; of none: no multipart -/
def wrapT (fs : List Fld) (ty : List UInt8 × List UInt8 × List Prm) (p b fin : Nat) (ln : Int) (ks : List Prt) : Prt :=
  if ks.isEmpty = true then .mk applT octT [] (first1 fs cidT) (first1 fs cdescT) (encOf fs) p b fin ln []
  else .mk ty.1 ty.2.1 ty.2.2 (first1 fs cidT) (first1 fs cdescT) (encOf fs) p b fin ln ks
def bodyAt (m : List UInt8) (p fin : Nat) : Nat := p + bodyL (pieceM m p fin)
def kidsT (m : List UInt8) (kid : Nat → Nat → Prt) (deep : Bool) (b fin : Nat) (bd : List UInt8) : List Prt :=
  if deep = true ∧ 1 ≤ bd.length ∧ bd.length ≤ 70 then ((cutM m b fin ([45, 45] ++ bd)).take 100).map fun s => kid s.1 s.2 else []
def buildT (m : List UInt8) (kid : Nat → Nat → Prt) (deep : Bool) (p fin : Nat) : Prt :=
  if (typeOf (flds200 (pieceM m p fin))).1 = multiT then wrapT (flds200 (pieceM m p fin)) (typeOf (flds200 (pieceM m p fin))) p (bodyAt m p fin) fin ((linesOf (pieceM m (bodyAt m p fin) fin)).length : Nat) (kidsT m kid deep (bodyAt m p fin) fin (boundOf (typeOf (flds200 (pieceM m p fin))).2.2))
  else .mk (typeOf (flds200 (pieceM m p fin))).1 (typeOf (flds200 (pieceM m p fin))).2.1 (typeOf (flds200 (pieceM m p fin))).2.2 (first1 (flds200 (pieceM m p fin)) cidT) (first1 (flds200 (pieceM m p fin)) cdescT) (encOf (flds200 (pieceM m p fin))) p (bodyAt m p fin) fin ((linesOf (pieceM m (bodyAt m p fin) fin)).length : Nat) []
/-- the part that stands from p to fin, with n parts at most one within the other -/
def partT (m : List UInt8) : Nat → Nat → Nat → Prt
  | 0 => buildT m (fun _ _ => .mk [] [] [] [] [] [] 0 0 0 0 []) false
  | n + 1 => buildT m (partT m n) true

/-- kids one behind the other, each as W says -/
def KidsIn (W : Prt → Prop) (fin : Int) : Int → List Prt → Prop
  | _, [] => True
  | a, k :: ks => a ≤ k.pos ∧ k.fin ≤ fin ∧ W k ∧ KidsIn W fin k.fin ks
/-- a part's kids stand within it -/
def WithinP : Nat → Nat → Prt → Prop
  | 0, _, _ => False
  | f + 1, d, p => p.pos ≤ p.body ∧ p.body ≤ p.fin ∧ d ≤ 32 ∧ p.kids.length ≤ 100 ∧ ((p.typ == multiT) = !p.kids.isEmpty) ∧ KidsIn (WithinP f (d + 1)) p.fin p.body p.kids
theorem chain_take : ∀ {l : List (Nat × Nat)} {p q : Nat} (k : Nat), Chain p q l → Chain p q (l.take k)
  | [], p, q, k, h => by simpa using h
  | s :: r, p, q, 0, h => by
    have := chain_le h
    rw [List.take_zero]
    exact this
  | s :: r, p, q, k + 1, h => ⟨h.1, h.2.1, chain_take k h.2.2⟩
theorem buildT_at (m : List UInt8) (kid : Nat → Nat → Prt) (deep : Bool) (p fin : Nat) : (buildT m kid deep p fin).pos = p ∧ (buildT m kid deep p fin).fin = fin ∧ (buildT m kid deep p fin).body = ((bodyAt m p fin : Nat) : Int) := by
  unfold buildT
  split
  · unfold wrapT
    split <;> exact ⟨rfl, rfl, rfl⟩
  · exact ⟨rfl, rfl, rfl⟩
theorem partT_at (m : List UInt8) (n p fin : Nat) : (partT m n p fin).pos = p ∧ (partT m n p fin).fin = fin ∧ (partT m n p fin).body = ((bodyAt m p fin : Nat) : Int) := by
  cases n with
  | zero => exact buildT_at _ _ _ _ _
  | succ n => exact buildT_at _ _ _ _ _
theorem kids_in {W : Prt → Prop} (m : List UInt8) (n : Nat) (fin : Nat) : ∀ (l : List (Nat × Nat)) (b : Nat), Chain b fin l → (∀ s ∈ l, W (partT m n s.1 s.2)) → KidsIn W fin b (l.map fun s => partT m n s.1 s.2)
  | [], b, _, _ => trivial
  | s :: r, b, h, hw => by
    obtain ⟨e1, e2, _⟩ := partT_at m n s.1 s.2
    have h3 := chain_le h.2.2
    have h1 := h.1
    refine ⟨by rw [e1]; omega, by rw [e2]; omega, hw s (by simp), ?_⟩
    have := kids_in m n fin r s.2 h.2.2 (fun x hx => hw x (List.mem_cons_of_mem _ hx))
    rw [e2]
    exact this
theorem chain_mem : ∀ {l : List (Nat × Nat)} {p q : Nat}, Chain p q l → ∀ s ∈ l, s.1 ≤ s.2 ∧ s.2 ≤ q
  | [], _, _, _, s, hs => by cases hs
  | a :: r, p, q, h, s, hs => by
    rcases List.mem_cons.1 hs with rfl | hs
    · exact ⟨h.2.1, chain_le h.2.2⟩
    · exact chain_mem h.2.2 s hs
theorem kidsT_len (m : List UInt8) (kid : Nat → Nat → Prt) (deep : Bool) (b fin : Nat) (bd : List UInt8) : (kidsT m kid deep b fin bd).length ≤ 100 := by
  unfold kidsT
  split
  · rw [List.length_map, List.length_take]; omega
  · simp
theorem build_in (m : List UInt8) (kid : Nat → Nat → Prt) (deep : Bool) (p fin f d : Nat) (h1 : p ≤ fin) (h2 : fin ≤ m.length) (hd : d ≤ 32) (hk : ∀ b bd, b ≤ fin → KidsIn (WithinP f (d + 1)) fin b (kidsT m kid deep b fin bd)) : WithinP (f + 1) d (buildT m kid deep p fin) := by
  have hb := bodyL_bd (pieceM m p fin)
  have hpl : (pieceM m p fin).length = fin - p := by unfold pieceM; rw [List.length_take, List.length_drop]; omega
  have hbf : p ≤ bodyAt m p fin ∧ bodyAt m p fin ≤ fin := by unfold bodyAt; omega
  obtain ⟨e1, e2, e3⟩ := buildT_at m kid deep p fin
  refine ⟨by rw [e1, e3]; omega, by rw [e3, e2]; omega, hd, ?_⟩
  rw [e2, e3]
  unfold buildT
  split
  · rename_i hty
    obtain ⟨K, hK⟩ : ∃ K, kidsT m kid deep (bodyAt m p fin) fin (boundOf (typeOf (flds200 (pieceM m p fin))).2.2) = K := ⟨_, rfl⟩
    have hk2 := hk (bodyAt m p fin) (boundOf (typeOf (flds200 (pieceM m p fin))).2.2) hbf.2
    have hkl := kidsT_len m kid deep (bodyAt m p fin) fin (boundOf (typeOf (flds200 (pieceM m p fin))).2.2)
    rw [hK] at hk2 hkl ⊢
    unfold wrapT
    split
    · exact ⟨by simp [Prt.kids], by rfl, trivial⟩
    · rename_i hne
      refine ⟨hkl, ?_, hk2⟩
      simp only [Prt.kids, Prt.typ]
      rw [hty]
      simpa using hne
  · rename_i hty
    refine ⟨by simp [Prt.kids], ?_, trivial⟩
    simp only [Prt.kids, Prt.typ]
    simpa using hty
/-- each part stands within the one that it is a kid of -/
theorem within_part (m : List UInt8) : ∀ (n p fin : Nat), p ≤ fin → fin ≤ m.length → n ≤ 32 → WithinP (n + 1) (32 - n) (partT m n p fin)
  | 0, p, fin, h1, h2, hn => build_in m _ false p fin 0 32 h1 h2 (Nat.le_refl _) (fun b bd _ => by
      unfold kidsT
      rw [if_neg (fun h => by cases h.1)]
      trivial)
  | n + 1, p, fin, h1, h2, hn => build_in m _ true p fin (n + 1) (32 - (n + 1)) h1 h2 (by omega) (fun b bd hb => by
      have hch := chain_take 100 (cutM_chain m b fin ([45, 45] ++ bd) hb h2)
      unfold kidsT
      split
      · refine kids_in m n fin _ _ hch (fun s hs => ?_)
        obtain ⟨a1, a2⟩ := chain_mem hch s hs
        have := within_part m n s.1 s.2 a1 (by omega) (by omega)
        rw [show 32 - (n + 1) + 1 = 32 - n by omega]
        exact this
      · trivial)

end Go.Proofs.YtalgmnlclflllaaGreatDoor
end

/- Rows of parameters that a call made. -/
set_option linter.unusedVariables false
set_option linter.unusedSimpArgs false
section
namespace Go.Proofs.YtalgmnlclflllaaGreatDoor
open Go.RowKit Go

theorem info_prm : (Tryz.prog.info? 51).map (fun i => (i.zero, i.size, i.bytes)) = some (some (.agg #[.string ⟨#[]⟩, .string ⟨#[]⟩]), 2, 32) := by kernel_rfl

def cellsPrm (f : Prm) : List Value := [.string (bs f.1), .string (bs f.2)]
/-- fields as cells -/
def cellsPm (fs : List Prm) : List Value := fs.flatMap cellsPrm
theorem cellsPm_length (fs : List Prm) : (cellsPm fs).length = fs.length * 2 := by
  induction fs with
  | nil => rfl
  | cons f r ih => simp only [cellsPm, List.flatMap_cons, List.length_append, List.length_cons] at ih ⊢; rw [ih]; simp [cellsPrm]; omega
theorem cellsPm_append (a b : List Prm) : cellsPm (a ++ b) = cellsPm a ++ cellsPm b := by simp [cellsPm]
theorem cellsPm_at (fs : List Prm) (i j : Nat) (f : Prm) (hf : fs[i]? = some f) (hj : j < 2) : (cellsPm fs)[i * 2 + j]? = (cellsPrm f)[j]? := by
  induction fs generalizing i with
  | nil => simp at hf
  | cons x r ih =>
    have hc : cellsPm (x :: r) = cellsPrm x ++ cellsPm r := rfl
    have hx : (cellsPrm x).length = 2 := rfl
    rw [hc]
    cases i with
    | zero =>
      obtain rfl : x = f := by simpa using hf
      rw [Nat.zero_mul, Nat.zero_add, List.getElem?_append_left (by omega)]
    | succ i =>
      rw [List.getElem?_append_right (by omega), hx, show (i + 1) * 2 + j - 2 = i * 2 + j by omega]
      exact ih i (by simpa using hf)

/-- a slice of fields that the call itself made, in blocks from B on -/
def OwnPm (w : World) (B : Nat) (v : Value) (fs : List Prm) : Prop := w.ownsRow B 51 2 v fs.length (cellsPm fs)

theorem OwnPm.parts {w : World} {B : Nat} {v : Value} {fs : List Prm} (h : OwnPm w B v fs) : (v = .slice none 0 0 ∧ fs = []) ∨ ∃ g cap, v = .slice (some ⟨g, 0, none⟩) fs.length cap ∧ B ≤ g ∧ g < w.heap.size := by
  have hlt := World.ownsRow.lt h
  rcases h.2 with ⟨rfl, h0⟩ | ⟨g, cap, cur, rfl, hb, hg, hc, _, _, ht⟩
  · exact .inl ⟨rfl, List.eq_nil_of_length_eq_zero h0⟩
  · exact .inr ⟨g, cap, rfl, hb, (hlt g rfl).2⟩
theorem OwnPm.later {w w' : World} {B : Nat} {v : Value} {fs : List Prm} (h : OwnPm w B v fs) (hb : ∀ k, v.ownBlock = some k → w'.heap[k]? = w.heap[k]?) : OwnPm w' B v fs := by
  refine ⟨h.1, ?_⟩
  rcases h.2 with h0 | ⟨g, cap, cur, rfl, h1, h2, r⟩
  · exact .inl h0
  · exact .inr ⟨g, cap, cur, rfl, h1, (hb g rfl).trans h2, r⟩
theorem OwnPm.below {w w' : World} {B : Nat} {v : Value} {fs : List Prm} (h : OwnPm w B v fs) (hb : Below w.heap.size w w') : OwnPm w' B v fs :=
  h.later fun k hk => hb.block k (World.ownsRow.lt h k hk).2
theorem OwnPm.cell {w : World} {B g n cap : Nat} {fs : List Prm} (h : OwnPm w B (.slice (some ⟨g, 0, none⟩) n cap) fs) (i j : Nat) (f : Prm) (hf : fs[i]? = some f) (hj : j < 2) : w.cell? ⟨g, i * 2 + j, none⟩ = (cellsPrm f)[j]? := by
  have hc := cellsPm_at fs i j f hf hj
  have hlt : j < (cellsPrm f).length := hj
  rw [List.getElem?_eq_getElem hlt] at hc ⊢
  have := World.ownsRow.cells h (g := g) rfl (i * 2 + j) _ hc
  rw [← this]
  by_cases h0 : i * 2 + j = 0
  · rw [h0]; rfl
  · have e : (⟨g, 0, none⟩ : Addr).add (i * 2 + j) = ⟨g, i * 2 + j, none⟩ := by
      unfold Addr.add
      rw [if_neg h0]
      simp
    rw [e]


theorem OwnPm.base {w : World} {b b' : Nat} {v : Value} {l : List Prm} (h : OwnPm w b v l) (hb : b' ≤ b) : OwnPm w b' v l := by
  refine ⟨h.1, ?_⟩
  rcases h.2 with h0 | ⟨g, cap, cur, e, h1, r⟩
  · exact .inl h0
  · exact .inr ⟨g, cap, cur, e, Nat.le_trans hb h1, r⟩
theorem OwnPm.step {w' : World} {base : Nat} {v' : Value} {l : List Prm} {a : Prm} (h : w'.ownsRow base 51 2 v' (l.length + 1) (cellsPm l ++ cellsPrm a)) : OwnPm w' base v' (l ++ [a]) := by
  unfold OwnPm
  rw [cellsPm_append, List.length_append]
  have e : cellsPm [a] = cellsPrm a := by simp [cellsPm]
  rw [e]
  exact h
theorem OwnPm.cells {w : World} {B g n cap : Nat} {l : List Prm} (h : OwnPm w B (.slice (some ⟨g, 0, none⟩) n cap) l) (i : Nat) (a : Prm) (ha : l[i]? = some a) :
    w.cell? ⟨g, i * 2, none⟩ = some (.string (bs a.1)) ∧ w.cell? ⟨g, i * 2 + 1, none⟩ = some (.string (bs a.2)) :=
  ⟨h.cell i 0 a ha (by decide), h.cell i 1 a ha (by decide)⟩
theorem OwnPm.form {w : World} {B : Nat} {v : Value} {l : List Prm} (h : OwnPm w B v l) : ∃ a cap, v = .slice a l.length cap := by
  rcases h.parts with ⟨rfl, rfl⟩ | ⟨g, cap, rfl, _⟩
  · exact ⟨_, _, rfl⟩
  · exact ⟨_, _, rfl⟩

end Go.Proofs.YtalgmnlclflllaaGreatDoor
end

/- Worlds that turned at one block alone, and grew. -/
set_option linter.unusedVariables false
set_option linter.unusedSimpArgs false
section
namespace Go.Proofs.YtalgmnlclflllaaGreatDoor
open Go.RowKit

/-- all that stood is as it was but block b -/
structure Upd (b : Nat) (w w' : World) : Prop where
  os : w'.os = w.os
  tape : w'.tape = w.tape
  output : w'.output = w.output
  size : w.heap.size ≤ w'.heap.size
  block : ∀ k, k < w.heap.size → k ≠ b → w'.heap[k]? = w.heap[k]?

theorem Upd.refl (b : Nat) (w : World) : Upd b w w := ⟨rfl, rfl, rfl, Nat.le_refl _, fun _ _ _ => rfl⟩
theorem Upd.trans {b : Nat} {u v w : World} (h : Upd b u v) (k : Upd b v w) : Upd b u w :=
  ⟨k.os.trans h.os, k.tape.trans h.tape, k.output.trans h.output, Nat.le_trans h.size k.size, fun i hi hb => (k.block i (Nat.lt_of_lt_of_le hi h.size) hb).trans (h.block i hi hb)⟩
theorem Upd.of_below {b : Nat} {w w' : World} (h : Below w.heap.size w w') : Upd b w w' := ⟨h.os, h.tape, h.output, h.size, fun i hi _ => h.block i hi⟩
theorem Upd.below {b B : Nat} {w w' : World} (h : Upd b w w') (hB : B ≤ b) (hs : B ≤ w.heap.size) : Below B w w' := ⟨h.os, h.tape, h.output, h.size, fun i hi => h.block i (by omega) (by omega)⟩
theorem Upd.drew {b : Nat} {w w' : World} (h : Upd b w w') : Upd b w w'.drew := ⟨h.os, h.tape, h.output, h.size, h.block⟩
theorem Upd.drewN {b : Nat} {w w' : World} (h : Upd b w w') (n : Nat) : Upd b w (w'.drewN n) := ⟨h.os, h.tape, h.output, h.size, h.block⟩
theorem Upd.alloc {b : Nat} {w w' : World} (h : Upd b w w') (o : Obj) : Upd b w (w'.alloc o) :=
  h.trans (.of_below ((Below.refl _ _).alloc (Nat.le_refl _) _))
theorem Upd.setCell {b : Nat} {w w' : World} (h : Upd b w w') (i : Nat) (v : Value) : Upd b w (w'.setCell ⟨b, i, none⟩ v) :=
  h.trans ⟨rfl, rfl, rfl, by simp [World.setCell], fun k _ hk => Below.heap_setCell _ _ _ _ hk⟩

theorem upd_cell {b : Nat} {w w' : World} {g i : Nat} {v : Value} (h : Upd b w w') (hb : g ≠ b) (hc : w.cell? ⟨g, i, none⟩ = some v) : w'.cell? ⟨g, i, none⟩ = some v := by
  have hlt : g < w.heap.size := cell_lt hc
  rw [← hc]
  simp only [World.cell?, h.block g hlt hb]

end Go.Proofs.YtalgmnlclflllaaGreatDoor
end

/- mime: parts in memory. -/
set_option linter.unusedVariables false
set_option linter.unusedSimpArgs false
section
namespace Go.Proofs.YtalgmnlclflllaaGreatDoor
open Go.RowKit Go

/-- parameters that stand somewhere, in blocks that are ok -/
def PmAt (w : World) (ok : Nat → Prop) (v : Value) (ps : List Prm) : Prop :=
  ∃ a c, v = .slice a ps.length c ∧ (ps ≠ [] → ∃ b o, a = some ⟨b, o, none⟩ ∧ ok b ∧ b < w.heap.size ∧ ∀ (j : Nat) (x : Prm), ps[j]? = some x → w.cell? ⟨b, o + j * 2, none⟩ = some (.string (bs x.1)) ∧ w.cell? ⟨b, o + j * 2 + 1, none⟩ = some (.string (bs x.2)))
def prtV (typ sub : List UInt8) (pv : Value) (id desc enc : List UInt8) (ap bo fi ln : Int) (kv : Value) : Value :=
  .agg #[.string (bs typ), .string (bs sub), pv, .string (bs id), .string (bs desc), .string (bs enc), .int .i64 ap, .int .i64 bo, .int .i64 fi, .int .i64 ln, kv]
/-- a value's cells stand from a place on -/
def CelAt (w : World) (b o : Nat) (v : Value) : Prop := ∀ (i : Nat) (x : Value), v.cells[i]? = some x → w.cell? ⟨b, o + i, none⟩ = some x
/-- a part stands as a value; its memory lies in blocks that are ok -/
inductive PtAt (w : World) (ok : Nat → Prop) : Value → Prt → Prop
  | mk (typ sub id desc enc : List UInt8) (pv : Value) (ps : List Prm) (ap bo fi ln : Int) (ka : Option Addr) (kc : Nat) (kids : List Prt) (kvs : Nat → Value)
    (hps : PmAt w ok pv ps)
    (hka : kids ≠ [] → ∃ b o, ka = some ⟨b, o, none⟩ ∧ ok b ∧ b < w.heap.size ∧ ∀ (j : Nat) (k : Prt), kids[j]? = some k → CelAt w b (o + j * 11) (kvs j))
    (hk : ∀ (j : Nat) (k : Prt), kids[j]? = some k → PtAt w ok (kvs j) k) :
    PtAt w ok (prtV typ sub pv id desc enc ap bo fi ln (.slice ka kids.length kc)) (.mk typ sub ps id desc enc ap bo fi ln kids)

theorem keep_lt {w w' : World} {b : Nat} (h : w'.heap[b]? = w.heap[b]?) (hb : b < w.heap.size) : b < w'.heap.size := by
  rw [Array.getElem?_eq_getElem hb] at h
  exact (Array.getElem?_eq_some_iff.1 h).1
theorem keep_cell {w w' : World} {b i : Nat} (h : w'.heap[b]? = w.heap[b]?) : w'.cell? ⟨b, i, none⟩ = w.cell? ⟨b, i, none⟩ := by simp only [World.cell?, h]
theorem PmAt.keep {w w' : World} {ok : Nat → Prop} {v : Value} {ps : List Prm} (h : PmAt w ok v ps) (hk : ∀ b, ok b → b < w.heap.size → w'.heap[b]? = w.heap[b]?) : PmAt w' ok v ps := by
  obtain ⟨a, c, rfl, h1⟩ := h
  refine ⟨a, c, rfl, fun hne => ?_⟩
  obtain ⟨b, o, rfl, h2, h3, h4⟩ := h1 hne
  have e := hk b h2 h3
  exact ⟨b, o, rfl, h2, keep_lt e h3, fun j x hx => ⟨(keep_cell e).trans (h4 j x hx).1, (keep_cell e).trans (h4 j x hx).2⟩⟩
theorem PmAt.imp {w : World} {ok ok' : Nat → Prop} {v : Value} {ps : List Prm} (h : PmAt w ok v ps) (hi : ∀ b, ok b → b < w.heap.size → ok' b) : PmAt w ok' v ps := by
  obtain ⟨a, c, rfl, h1⟩ := h
  refine ⟨a, c, rfl, fun hne => ?_⟩
  obtain ⟨b, o, e, h2, h3, h4⟩ := h1 hne
  exact ⟨b, o, e, hi b h2 h3, h3, h4⟩
theorem PtAt.keep {w w' : World} {ok : Nat → Prop} {v : Value} {p : Prt} (h : PtAt w ok v p) (hk : ∀ b, ok b → b < w.heap.size → w'.heap[b]? = w.heap[b]?) : PtAt w' ok v p := by
  induction h with
  | mk typ sub id desc enc pv ps ap bo fi ln ka kc kids kvs hps hka _ ih =>
    refine .mk typ sub id desc enc pv ps ap bo fi ln ka kc kids kvs (hps.keep hk) (fun hne => ?_) ih
    obtain ⟨b, o, e, h2, h3, h4⟩ := hka hne
    have e2 := hk b h2 h3
    exact ⟨b, o, e, h2, keep_lt e2 h3, fun j k hj i x hx => (keep_cell e2).trans (h4 j k hj i x hx)⟩
theorem PtAt.imp {w : World} {ok ok' : Nat → Prop} {v : Value} {p : Prt} (h : PtAt w ok v p) (hi : ∀ b, ok b → b < w.heap.size → ok' b) : PtAt w ok' v p := by
  induction h with
  | mk typ sub id desc enc pv ps ap bo fi ln ka kc kids kvs hps hka _ ih =>
    refine .mk typ sub id desc enc pv ps ap bo fi ln ka kc kids kvs (hps.imp hi) (fun hne => ?_) ih
    obtain ⟨b, o, e, h2, h3, h4⟩ := hka hne
    exact ⟨b, o, e, hi b h2 h3, h3, h4⟩
theorem PtAt.under {w w' : World} {ok : Nat → Prop} {v : Value} {p : Prt} (h : PtAt w ok v p) (hb : Below w.heap.size w w') : PtAt w' ok v p := h.keep fun b _ hl => hb.block b hl
theorem PmAt.below {w w' : World} {ok : Nat → Prop} {v : Value} {ps : List Prm} (h : PmAt w ok v ps) (hb : Below w.heap.size w w') : PmAt w' ok v ps := h.keep fun b _ hl => hb.block b hl

theorem OwnPm.pmAt {w : World} {B : Nat} {v : Value} {ps : List Prm} (h : OwnPm w B v ps) : PmAt w (fun b => B ≤ b ∧ b < w.heap.size) v ps := by
  rcases h.parts with ⟨rfl, rfl⟩ | ⟨g, cap, rfl, h1, h2⟩
  · exact ⟨none, 0, rfl, fun hne => absurd rfl hne⟩
  · refine ⟨some ⟨g, 0, none⟩, cap, rfl, fun _ => ⟨g, 0, rfl, ⟨h1, h2⟩, h2, fun j x hx => ?_⟩⟩
    have := h.cells j x hx
    rw [Nat.zero_add]
    exact this

/-- a kid's cells, its part -/
theorem PtAt.kid {w : World} {ok : Nat → Prop} {typ sub id desc enc : List UInt8} {pv : Value} {ps : List Prm} {ap bo fi ln : Int} {kv : Value} {kids : List Prt} (h : PtAt w ok (prtV typ sub pv id desc enc ap bo fi ln kv) (.mk typ sub ps id desc enc ap bo fi ln kids)) :
    PmAt w ok pv ps ∧ ∃ ka kc, kv = .slice ka kids.length kc ∧ (kids ≠ [] → ∃ b o, ka = some ⟨b, o, none⟩ ∧ ok b ∧ b < w.heap.size ∧ ∀ (j : Nat) (k : Prt), kids[j]? = some k → ∃ x, CelAt w b (o + j * 11) x ∧ PtAt w ok x k) := by
  unfold prtV at h
  cases h with
  | mk _ _ _ _ _ _ _ _ _ _ _ ka kc _ kvs hps hka hk =>
    refine ⟨hps, ka, kc, rfl, fun hne => ?_⟩
    obtain ⟨b, o, e, h2, h3, h4⟩ := hka hne
    exact ⟨b, o, e, h2, h3, fun j k hj => ⟨kvs j, h4 j k hj, hk j k hj⟩⟩
theorem PtAt.form {w : World} {ok : Nat → Prop} {v : Value} {p : Prt} (h : PtAt w ok v p) : ∃ typ sub id desc enc pv ps ap bo fi ln kv kids, v = prtV typ sub pv id desc enc ap bo fi ln kv ∧ p = .mk typ sub ps id desc enc ap bo fi ln kids := by
  cases h with
  | mk typ sub id desc enc pv ps ap bo fi ln ka kc kids kvs hps hka hk => exact ⟨_, _, _, _, _, _, _, _, _, _, _, _, _, rfl, rfl⟩
theorem CelAt.all {w : World} {b o : Nat} {typ sub id desc enc : List UInt8} {pv kv : Value} {ap bo fi ln : Int} (h : CelAt w b o (prtV typ sub pv id desc enc ap bo fi ln kv)) :
    w.cell? ⟨b, o, none⟩ = some (.string (bs typ)) ∧ w.cell? ⟨b, o + 1, none⟩ = some (.string (bs sub)) ∧ w.cell? ⟨b, o + 2, none⟩ = some pv ∧ w.cell? ⟨b, o + 3, none⟩ = some (.string (bs id)) ∧ w.cell? ⟨b, o + 4, none⟩ = some (.string (bs desc)) ∧ w.cell? ⟨b, o + 5, none⟩ = some (.string (bs enc)) ∧
      w.cell? ⟨b, o + 6, none⟩ = some (.int .i64 ap) ∧ w.cell? ⟨b, o + 7, none⟩ = some (.int .i64 bo) ∧ w.cell? ⟨b, o + 8, none⟩ = some (.int .i64 fi) ∧ w.cell? ⟨b, o + 9, none⟩ = some (.int .i64 ln) ∧ w.cell? ⟨b, o + 10, none⟩ = some kv :=
  ⟨h 0 _ rfl, h 1 _ rfl, h 2 _ rfl, h 3 _ rfl, h 4 _ rfl, h 5 _ rfl, h 6 _ rfl, h 7 _ rfl, h 8 _ rfl, h 9 _ rfl, h 10 _ rfl⟩

/-! ### a part in a block of its own -/
/-- the block c holds a part's cells -/
def PrtC (w : World) (c : Nat) (typ sub : List UInt8) (pv : Value) (id desc enc : List UInt8) (ap bo fi ln : Int) (kv : Value) : Prop :=
  w.heap[c]? = some (.cells #[.string (bs typ), .string (bs sub), pv, .string (bs id), .string (bs desc), .string (bs enc), .int .i64 ap, .int .i64 bo, .int .i64 fi, .int .i64 ln, kv] 26 (0, 0))
section
variable {w w' : World} {c : Nat} {typ sub id desc enc : List UInt8} {pv kv : Value} {ap bo fi ln : Int}
theorem PrtC.lt (h : PrtC w c typ sub pv id desc enc ap bo fi ln kv) : c < w.heap.size := (Array.getElem?_eq_some_iff.1 h).1
theorem PrtC.keep (h : PrtC w c typ sub pv id desc enc ap bo fi ln kv) (e : w'.heap[c]? = w.heap[c]?) : PrtC w' c typ sub pv id desc enc ap bo fi ln kv := e.trans h
theorem PrtC.below (h : PrtC w c typ sub pv id desc enc ap bo fi ln kv) (hb : Below w.heap.size w w') : PrtC w' c typ sub pv id desc enc ap bo fi ln kv := h.keep (hb.block c h.lt)
theorem PrtC.cells (h : PrtC w c typ sub pv id desc enc ap bo fi ln kv) :
    w.cell? ⟨c, 0, none⟩ = some (.string (bs typ)) ∧ w.cell? ⟨c, 1, none⟩ = some (.string (bs sub)) ∧ w.cell? ⟨c, 2, none⟩ = some pv ∧ w.cell? ⟨c, 3, none⟩ = some (.string (bs id)) ∧ w.cell? ⟨c, 4, none⟩ = some (.string (bs desc)) ∧ w.cell? ⟨c, 5, none⟩ = some (.string (bs enc)) ∧
      w.cell? ⟨c, 6, none⟩ = some (.int .i64 ap) ∧ w.cell? ⟨c, 7, none⟩ = some (.int .i64 bo) ∧ w.cell? ⟨c, 8, none⟩ = some (.int .i64 fi) ∧ w.cell? ⟨c, 9, none⟩ = some (.int .i64 ln) ∧ w.cell? ⟨c, 10, none⟩ = some kv := by
  unfold PrtC at h
  refine ⟨?_, ?_, ?_, ?_, ?_, ?_, ?_, ?_, ?_, ?_, ?_⟩ <;> simp [World.cell?, h]
theorem PrtC.frozen (h : PrtC w c typ sub pv id desc enc ap bo fi ln kv) (i : Nat) : w.frozen? ⟨c, i, none⟩ = false := by
  unfold PrtC at h
  simp [World.frozen?, h]
theorem PrtC.setKids (h : PrtC w c typ sub pv id desc enc ap bo fi ln kv) (x : Value) : PrtC (w.setCell ⟨c, 10, none⟩ x) c typ sub pv id desc enc ap bo fi ln x := by
  unfold PrtC at *
  simp [World.setCell, Array.getElem?_modify, h]
theorem PrtC.setLines (h : PrtC w c typ sub pv id desc enc ap bo fi ln kv) (x : Int) : PrtC (w.setCell ⟨c, 9, none⟩ (.int .i64 x)) c typ sub pv id desc enc ap bo fi x kv := by
  unfold PrtC at *
  simp [World.setCell, Array.getElem?_modify, h]
theorem PrtC.setEnc (h : PrtC w c typ sub pv id desc enc ap bo fi ln kv) (x : List UInt8) : PrtC (w.setCell ⟨c, 5, none⟩ (.string (bs x))) c typ sub pv id desc x ap bo fi ln kv := by
  unfold PrtC at *
  simp [World.setCell, Array.getElem?_modify, h]
theorem PrtC.setType (h : PrtC w c typ sub pv id desc enc ap bo fi ln kv) (t s : List UInt8) (p : Value) : PrtC (((w.setCell ⟨c, 0, none⟩ (.string (bs t))).setCell ⟨c, 1, none⟩ (.string (bs s))).setCell ⟨c, 2, none⟩ p) c t s p id desc enc ap bo fi ln kv := by
  unfold PrtC at *
  simp [World.setCell, Array.getElem?_modify, h]
end

/-! ### rows of kids -/
theorem info_prt : (Tryz.prog.info? 26).map (fun i => (i.zero, i.size, i.bytes)) = some (some (prtV [] [] (.slice none 0 0) [] [] [] 0 0 0 0 (.slice none 0 0)), 11, 160) := by kernel_rfl
/-- kids in a row that the call itself made, their memory in blocks from lo on, beside the row's own -/
def OwnK (w : World) (lo : Nat) (v : Value) (ks : List Prt) : Prop :=
  ∃ vals : List Value, w.ownsRow lo 26 11 v ks.length (vals.flatMap fun x => x.cells.toList) ∧ vals.length = ks.length ∧
    ∀ (j : Nat) (k : Prt), ks[j]? = some k → ∃ x, vals[j]? = some x ∧ x.cells.size = 11 ∧ PtAt w (fun b => lo ≤ b ∧ b < w.heap.size ∧ v.ownBlock ≠ some b) x k
theorem OwnK.nil (w : World) (lo : Nat) : OwnK w lo (.slice none 0 0) [] := ⟨[], World.ownsRow_nil _ _ _ _, rfl, fun j k h => by simp at h⟩
theorem OwnK.form {w : World} {lo : Nat} {v : Value} {ks : List Prt} (h : OwnK w lo v ks) : ∃ a cap, v = .slice a ks.length cap := by
  obtain ⟨vals, h, _⟩ := h
  rcases h.2 with ⟨rfl, h0⟩ | ⟨g, cap, cur, rfl, _⟩
  · exact ⟨none, 0, by rw [h0]⟩
  · exact ⟨_, _, rfl⟩
theorem prtV_size {w : World} {ok : Nat → Prop} {v : Value} {p : Prt} (h : PtAt w ok v p) : v.cells.size = 11 := by
  cases h with
  | mk => rfl

end Go.Proofs.YtalgmnlclflllaaGreatDoor
end

/- mime: a part's boundary: the walk. -/
set_option linter.unusedVariables false
set_option linter.unusedSimpArgs false
section
namespace Go.Proofs.YtalgmnlclflllaaGreatDoor
open Go.RowKit Go

theorem bound1_any (a b : List UInt8) (w : World) : Calls Tryz.prog 100 #[.agg #[.string (bs a), .string (bs b)]] w fun e w' => e = .returned (.bool (a == boundT)) ∧ Below w.heap.size w w' := by
  go_enter Tryz.func100, Tryz.ntmps100
  go_wp2
  go_ret
  exact ⟨rfl, (Below.refl _ _).alloc (Nat.le_refl _) _⟩

/-- where the boundary stands among the parameters -/
def BoundI (ps : List Prm) (i : Int) : Prop := (∃ (j : Nat) (x : Prm), i = j ∧ ps[j]? = some x ∧ boundOf ps = x.2) ∨ (i = -1 ∧ boundOf ps = [])
theorem boundOf_cons (x : Prm) (ps : List Prm) : boundOf (x :: ps) = if (x.1 == boundT) = true then x.2 else boundOf ps := by
  unfold boundOf
  rw [List.find?_cons]
  cases h : (x.1 == boundT) <;> simp

set_option maxRecDepth 100000 in
set_option maxHeartbeats 1000000 in
theorem boundIdx_any (v : Value) (ps : List Prm) (ok : Nat → Prop) (w : World) (h : PmAt w ok v ps) (hl : ps.length ≤ 1000000000) :
    Calls Tryz.prog 99 #[v, .func (.func 100) #[] #[]] w fun e w' => (∃ i : Int, e = .returned (.int .i64 i) ∧ BoundI ps i) ∧ Below w.heap.size w w' := by
  obtain ⟨a, cap, rfl, hform⟩ := h
  have HF := Lib.hid hform
  obtain ⟨A, hA⟩ : ∃ A, boundOf ps = A := ⟨_, rfl⟩
  have HA := Lib.hid hA
  clear hform hA
  go_enter Tryz.func99, Tryz.ntmps99
  go_wp2
  go_loopw [8] (fun i wr => ∃ k : Nat, k ≤ ps.length ∧ i = .int .i64 k ∧ Hid (boundOf (ps.drop k) = A) ∧ Below w.heap.size w wr) (fun i _ => ps.length - (intOf i).toNat)
  case atStart => exact ⟨0, Nat.zero_le _, rfl, HA, Below.refl _ _⟩
  case round =>
    obtain ⟨k, hk, rfl, hr, hB⟩ := hrel
    have hzr := hB.size
    by_cases hlt : k < ps.length
    · obtain ⟨b, o, rfl, hok, hb, hcells⟩ := HF.out (by rintro rfl; simp at hlt)
      obtain ⟨x, hx⟩ : ∃ x, ps[k]? = some x := ⟨_, List.getElem?_eq_getElem hlt⟩
      obtain ⟨c0, c1⟩ := hcells k x hx
      replace c0 := (hB.cell (p := ⟨b, o + k * 2, none⟩) hb).trans c0
      replace c1 := (hB.cell (p := ⟨b, o + k * 2 + 1, none⟩) hb).trans c1
      have hr2 := hr.out
      rw [List.drop_eq_getElem_cons hlt, (List.getElem?_eq_some_iff.1 hx).2, boundOf_cons] at hr2
      have HR2 := Lib.hid hr2
      have HX := Lib.hid hx
      have hlt' : (k : Int) < ps.length := by omega
      clear hcells hr hr2 hx
      obtain ⟨x1, x2⟩ := x
      go_wp2_with fail
      refine (bound1_any x1 x2 _).mono ?_
      rintro e w1 ⟨rfl, hb1⟩
      have hB1 := hB.trans (hb1.mono (by first | omega | (simp; omega)))
      rcases hs : (x1 == boundT) with _ | _
      · have hr3 := HR2.out
        simp only [hs, Bool.false_eq_true, if_false] at hr3
        have HR3 := Lib.hid hr3
        clear hr3 HR2 hs
        go_wp2
        go_roundw
        case rel => exact ⟨k + 1, by omega, by go_num, HR3.out, hB1⟩
        case measure => simp [intOf]; omega
      · have hr3 := HR2.out
        simp only [hs, if_true] at hr3
        have HR3 := Lib.hid hr3
        clear hr3 HR2 hs
        go_wp2
        go_ret
        exact ⟨⟨k, rfl, .inl ⟨k, _, rfl, HX.out, by rw [HA.out, ← HR3.out]⟩⟩, hB1⟩
    · obtain rfl : k = ps.length := by omega
      have hr2 := hr.out
      rw [List.drop_length] at hr2
      have hr3 : A = [] := by rw [← hr2]; rfl
      have HA2 := HA.out
      rw [hr3] at HA2
      have HA3 := Lib.hid HA2
      clear hr hr2 HA2
      go_wp2
      go_ret
      exact ⟨⟨-1, rfl, .inr ⟨rfl, HA3.out⟩⟩, hB⟩

/-- the boundary that a multipart's kids stand between; "": none -/
def bnd70 (ps : List Prm) : List UInt8 := if 70 < (boundOf ps).length then [] else boundOf ps

set_option maxRecDepth 100000 in
set_option maxHeartbeats 1000000 in
theorem boundary_any (typ sub id desc enc : List UInt8) (pv kv : Value) (ps : List Prm) (ap bo fi ln : Int) (ok : Nat → Prop) (w : World) (h : PmAt w ok pv ps) (hl : ps.length ≤ 1000000000) :
    Calls Tryz.prog 81 #[prtV typ sub pv id desc enc ap bo fi ln kv] w fun e w' => e = .returned (.string (bs (bnd70 ps))) ∧ Below w.heap.size w w' := by
  have HW := Lib.hid (fun (w1 : World) (hb : Below w.heap.size w w1) => boundIdx_any pv ps ok w1 (h.below hb) hl)
  obtain ⟨a, cap, rfl, hform⟩ := h
  have HF := Lib.hid hform
  obtain ⟨R, hR⟩ : ∃ R, bnd70 ps = R := ⟨_, rfl⟩
  rw [hR]
  unfold bnd70 at hR
  have HR := Lib.hid hR
  clear hform hR
  show Calls _ _ #[.agg #[.string (bs typ), .string (bs sub), .slice a ps.length cap, .string (bs id), .string (bs desc), .string (bs enc), .int .i64 ap, .int .i64 bo, .int .i64 fi, .int .i64 ln, kv]] _ _
  go_enter Tryz.func81, Tryz.ntmps81
  go_wp2_with fail
  have hb0 := (Below.refl _ w).alloc (Nat.le_refl _) (.cells #[.string (bs typ), .string (bs sub), .slice a ps.length cap, .string (bs id), .string (bs desc), .string (bs enc), .int .i64 ap, .int .i64 bo, .int .i64 fi, .int .i64 ln, kv] 26)
  refine (HW.out _ hb0).mono ?_
  rintro e w1 ⟨⟨i, rfl, hi⟩, hb1⟩
  have hB1 := hb0.trans (hb1.mono (by simp))
  have c2 : w1.cell? ⟨w.heap.size, 2, none⟩ = some (.slice a ps.length cap) := (hb1.cell (p := ⟨w.heap.size, 2, none⟩) (by simp)).trans (by simp)
  clear HW hb0 hb1
  rcases hi with ⟨j, x, rfl, hx, hbd⟩ | ⟨rfl, hbd⟩
  · obtain ⟨b, o, rfl, hok, hb, hcells⟩ := HF.out (by rintro rfl; simp at hx)
    obtain ⟨d0, d1⟩ := hcells j x hx
    replace d1 := (hB1.cell (p := ⟨b, o + j * 2 + 1, none⟩) hb).trans d1
    have hlt : (j : Int) < ps.length := by have := (List.getElem?_eq_some_iff.1 hx).1; omega
    obtain ⟨x1, x2⟩ := x
    simp only at d1 hbd
    have hr := HR.out
    rw [hbd] at hr
    clear hcells hx d0 HF hbd HR
    by_cases h70 : 70 < x2.length
    · have h71 : (70 : Int) < x2.length := by omega
      rw [if_pos h70] at hr
      subst hr
      clear h70
      go_wp2
      go_ret
      exact ⟨rfl, hB1⟩
    · have h71 : (x2.length : Int) ≤ 70 := by omega
      rw [if_neg h70] at hr
      subst hr
      clear h70
      go_wp2
      go_ret
      exact ⟨rfl, hB1⟩
  · have hr := HR.out
    rw [hbd, if_neg (by simp)] at hr
    subst hr
    clear HF hbd HR
    go_wp2
    go_ret
    exact ⟨rfl, hB1⟩

end Go.Proofs.YtalgmnlclflllaaGreatDoor
end

/- Slices of bytes, as lists. -/
set_option linter.unusedVariables false
set_option linter.unusedSimpArgs false
section
namespace Go.Proofs.YtalgmnlclflllaaGreatDoor
open Go.RowKit

/-- a slice of bytes reads as the list l -/
def BytesAt (w : World) (v : Value) (l : List UInt8) : Prop :=
  (v = .slice none 0 0 ∧ l = []) ∨ ∃ (sb so cap : Nat), v = .slice (some ⟨sb, so, none⟩) l.length cap ∧ ∀ i, i < l.length → w.cell? ⟨sb, so + i, none⟩ = some (.int .u8 (l.getD i 0).toNat)

theorem bs_strOfNums (l : List UInt8) : strOfNums (l.map fun c => ((c.toNat : Nat) : Int)) = bs l := by
  apply ByteArray.ext
  apply Array.toList_inj.1
  rw [strOfNums_data]
  simp [Function.comp_def]

theorem convert_bytes {w : World} {v : Value} {l : List UInt8} (h : BytesAt w v l) : (convert 68 9 v).run Tryz.prog w = .ok (.string (bs l)) w := by
  rcases h with ⟨rfl, rfl⟩ | ⟨sb, so, cap, rfl, hc⟩
  · exact run_convert_bytes_nil w 68 5 Tryz.underlying68 Tryz.underlying5 0 0 9 Tryz.underlying9
  · rw [← bs_strOfNums]
    refine run_convert_bytes_arg w 68 5 Tryz.underlying68 Tryz.underlying5 sb so l.length cap _ (by simp) (fun i hi => ?_) 9 Tryz.underlying9
    rw [hc i hi]
    simp [List.getD, hi]

theorem info_u8 : (Tryz.prog.info? 5).map (fun i => (i.zero, i.size, i.bytes)) = some (some (.int .u8 0), 1, 1) := by kernel_rfl

/-- bytes as cells -/
def cellsB (l : List UInt8) : List Value := l.map fun c => .int .u8 ((c.toNat : Nat) : Int)
theorem cellsB_length (l : List UInt8) : (cellsB l).length = l.length := by simp [cellsB]
theorem cellsB_append (a b : List UInt8) : cellsB (a ++ b) = cellsB a ++ cellsB b := by simp [cellsB]

/-- a slice of bytes that the call itself made -/
def OwnB (w : World) (base : Nat) (v : Value) (l : List UInt8) : Prop := w.ownsRow base 5 1 v l.length (cellsB l)

theorem OwnB.bytes {w : World} {base : Nat} {v : Value} {l : List UInt8} (h : OwnB w base v l) : BytesAt w v l := by
  rcases h.2 with ⟨rfl, h0⟩ | ⟨g, cap, cur, rfl, _, hg, _, _, _, ht⟩
  · exact Or.inl ⟨rfl, List.eq_nil_of_length_eq_zero h0⟩
  · refine Or.inr ⟨g, 0, cap, rfl, fun i hi => ?_⟩
    have e : (cellsB l)[i]? = some (.int .u8 (l.getD i 0).toNat) := by simp [cellsB, hi]
    rw [← ht, List.getElem?_take, if_pos (by omega)] at e
    simp only [World.cell?, hg, Nat.zero_add]
    simpa using e

theorem OwnB.step {w' : World} {base : Nat} {v' : Value} {l : List UInt8} {c : UInt8} (h : w'.ownsRow base 5 1 v' (l.length + 1) (cellsB l ++ [.int .u8 ((c.toNat : Nat) : Int)])) : OwnB w' base v' (l ++ [c]) := by
  unfold OwnB
  rw [cellsB_append, List.length_append]
  exact h

theorem OwnB.form {w : World} {base : Nat} {v : Value} {l : List UInt8} (h : OwnB w base v l) : ∃ a n cap, v = .slice a n cap ∧ Hid (n = l.length) := by
  rcases h.2 with ⟨rfl, h0⟩ | ⟨g, cap, cur, rfl, _, _, _, _, _, _⟩
  · exact ⟨none, 0, 0, rfl, h0.symm⟩
  · exact ⟨_, _, _, rfl, rfl⟩

theorem OwnB.below {B : Nat} {u w w' : World} {v : Value} {l : List UInt8} (hb : Below B u w) (h : OwnB w B v l) (hg : w.grownBy w' v.ownBlock) (hB : B ≤ w.heap.size) : Below B u w' :=
  hb.grown hg hB (fun k e => (World.ownsRow.lt h k e).1)


end Go.Proofs.YtalgmnlclflllaaGreatDoor
end

/- []byte(s). -/
set_option linter.unusedVariables false
set_option linter.unusedSimpArgs false
section
namespace Go.Proofs.YtalgmnlclflllaaGreatDoor
open Go.RowKit

theorem to_bytes (l : List UInt8) (w : World) : ∃ (cap : Nat) (w' : World), (convert 9 68 (.string (bs l))).run Tryz.prog w = .ok (.slice (some ⟨w.heap.size, 0, none⟩) l.length cap) w' ∧
    (∀ i, i < l.length → w'.cell? ⟨w.heap.size, i, none⟩ = some (.int .u8 ((l.getD i 0).toNat : Int))) ∧ Below w.heap.size w w' ∧ w.heap.size < w'.heap.size := by
  have h := run_bytes_of_string (P := Tryz.prog) w 9 68 5 (bs l) Tryz.underlying9 Tryz.underlying68 Tryz.underlying5
  rw [bs_size] at h
  refine ⟨_, _, h, fun i hi => ?_, ((Below.refl _ w).drew).alloc (Nat.le_refl _) _, by simp⟩
  have hb := bytesRow_at (bs l) (grownCap w l.length 0 5) i (by simpa using hi)
  have hn : (w.drew.alloc (.cells (bytesRow (bs l) (grownCap w l.length 0 5)) 5 ((bytesRow (bs l) (grownCap w l.length 0 5)).size, (bytesRow (bs l) (grownCap w l.length 0 5)).size + 1))).heap[w.heap.size]? = some (.cells (bytesRow (bs l) (grownCap w l.length 0 5)) 5 ((bytesRow (bs l) (grownCap w l.length 0 5)).size, (bytesRow (bs l) (grownCap w l.length 0 5)).size + 1)) := heap_new w.drew _
  simp only [World.cell?, hn]
  simp only [Option.isSome_none, Bool.false_eq_true, if_false]
  rw [hb]
  simp [List.getD, hi]

end Go.Proofs.YtalgmnlclflllaaGreatDoor
end

/- header.text, goesOn, name. -/
set_option linter.unusedVariables false
set_option linter.unusedSimpArgs false
section
namespace Go.Proofs.YtalgmnlclflllaaGreatDoor
open Go.RowKit

theorem textL_len (l : List UInt8) : (textL l).length ≤ l.length := by
  have h : ∀ (a b : List UInt8), (Lib.trimSuffix a b).length ≤ a.length := by
    intro a b; unfold Lib.trimSuffix; split <;> simp
  unfold textL
  split
  · exact Nat.le_trans (h _ _) (h _ _)
  · exact Nat.le_refl _

theorem cutSuffix_any (l p : List UInt8) (w : World) (hl : l.length ≤ 9223372036854775807) : Calls Tryz.prog 139 #[.string (bs l), .string (bs p)] w fun e w' => e = .returned (.tuple #[.string (bs (Lib.trimSuffix l p)), .bool (Lib.hasSuffix l p)]) ∧ w = w' :=
  (Tryz.strings_CutSuffix (bs l) (bs p) w (by rw [bs_size]; exact hl)).mono fun _ _ ⟨h, k⟩ => ⟨h, k.symm⟩
theorem trimSuffix_any (l p : List UInt8) (w : World) (hl : l.length ≤ 9223372036854775807) : Calls Tryz.prog 102 #[.string (bs l), .string (bs p)] w fun e w' => e = .returned (.string (bs (Lib.trimSuffix l p))) ∧ w = w' :=
  (Tryz.strings_TrimSuffix (bs l) (bs p) w (by rw [bs_size]; exact hl)).mono fun _ _ ⟨h, k⟩ => ⟨h, k.symm⟩

theorem trimSuffix_len (a b : List UInt8) : (Lib.trimSuffix a b).length ≤ a.length := by unfold Lib.trimSuffix; split <;> simp

theorem text_any (l : List UInt8) (w : World) (hl : l.length ≤ 1099511627776) : Calls Tryz.prog 118 #[.string (bs l)] w fun e w' => e = .returned (.string (bs (textL l))) ∧ w = w' := by
  have h1 := trimSuffix_len l [10]
  unfold textL
  obtain ⟨b, hb⟩ : ∃ b, Lib.hasSuffix l [10] = b := ⟨_, rfl⟩
  obtain ⟨t, ht⟩ : ∃ t, Lib.trimSuffix l [10] = t := ⟨_, rfl⟩
  rw [ht] at h1
  have hno : b = false → t = l := by
    rintro rfl
    rw [← ht]; unfold Lib.trimSuffix; rw [hb]; rfl
  rw [hb, ht]
  have HB := Lib.hid hb
  have HT := Lib.hid ht
  clear hb ht
  cases b
  · obtain rfl := hno rfl
    go_enter Tryz.func118, Tryz.ntmps118
    go_wp2_with fail
    refine (cutSuffix_any _ [10] _ (by omega)).mono ?_
    rintro e w' ⟨rfl, rfl⟩
    rw [HB.out, HT.out]
    go_wp2
    go_ret
    exact ⟨rfl, rfl⟩
  · clear hno
    go_enter Tryz.func118, Tryz.ntmps118
    go_wp2_with fail
    refine (cutSuffix_any l [10] _ (by omega)).mono ?_
    rintro e w' ⟨rfl, rfl⟩
    rw [HB.out, HT.out]
    go_wp2_with fail
    refine (trimSuffix_any t [13] _ (by omega)).mono ?_
    rintro e w' ⟨rfl, rfl⟩
    go_wp2
    go_ret
    exact ⟨rfl, rfl⟩

theorem goesOn_any (t : List UInt8) (w : World) : Calls Tryz.prog 120 #[.string (bs t)] w fun e w' => e = .returned (.bool (goesB t)) ∧ w = w' := by
  cases t with
  | nil =>
    go_enter Tryz.func120, Tryz.ntmps120
    go_wp2
    go_ret
    exact ⟨rfl, rfl⟩
  | cons c r =>
    have hx : (bs (c :: r))[0]'(by rw [bs_size]; simp) = c := rfl
    have hib : Lib.indexByte [32, 9] c = if c = 32 then 0 else if c = 9 then 1 else -1 := by
      by_cases h1 : c = 32
      · subst h1; rfl
      · have e1 : ((32 : UInt8) == c) = false := by simpa using fun e : (32 : UInt8) = c => h1 e.symm
        by_cases h2 : c = 9
        · subst h2; rfl
        · have e2 : ((9 : UInt8) == c) = false := by simpa using fun e : (9 : UInt8) = c => h2 e.symm
          simp [Lib.indexByte, e1, e2, h1, h2]
    have hcall : Calls Tryz.prog 72 #[.string ⟨#[32, 9]⟩, .int .u8 (c.toNat : Int)] w fun e w' => e = .returned (.int .i64 (if c = 32 then 0 else if c = 9 then 1 else -1)) ∧ w = w' := by
      refine (Tryz.strings_IndexByte ⟨#[32, 9]⟩ (c.toNat : Int) w).mono fun _ _ ⟨h, k⟩ => ⟨?_, k.symm⟩
      rw [h, ← hib]
      simp
    have HC := Lib.hid hcall
    unfold goesB blankB
    clear hib hcall
    by_cases h1 : c = 32
    · subst h1
      go_enter Tryz.func120, Tryz.ntmps120
      go_wp2_with fail
      refine HC.out.mono ?_
      rintro e w' ⟨rfl, rfl⟩
      go_wp2
      go_ret
      exact ⟨rfl, rfl⟩
    · by_cases h2 : c = 9
      · subst h2
        go_enter Tryz.func120, Tryz.ntmps120
        go_wp2_with fail
        refine HC.out.mono ?_
        rintro e w' ⟨rfl, rfl⟩
        go_wp2
        go_ret
        exact ⟨rfl, rfl⟩
      · go_enter Tryz.func120, Tryz.ntmps120
        go_wp2_with fail
        refine HC.out.mono ?_
        rintro e w' ⟨rfl, rfl⟩
        rw [if_neg h1, if_neg h2]
        go_wp2
        go_ret
        exact ⟨by simp [h1, h2], rfl⟩

theorem index58 (t : List UInt8) : Lib.indexByte t 58 = match cutC t with | none => -1 | some (a, _) => (a.length : Int) := by
  induction t with
  | nil => rfl
  | cons c t ih =>
    unfold Lib.indexByte cutC
    by_cases hc : c = 58
    · simp [hc]
    · simp only [beq_iff_eq, hc, if_false]
      cases hq : cutC t with
      | none => rw [hq] at ih; simp [ih]
      | some p =>
        obtain ⟨a, b⟩ := p
        rw [hq] at ih
        simp only at ih
        rw [ih, if_neg (by omega)]
        simp
theorem cutC_some {t a r : List UInt8} (e : cutC t = some (a, r)) : t = a ++ 58 :: r := by
  induction t generalizing a r with
  | nil => simp [cutC] at e
  | cons c t ih =>
    unfold cutC at e
    by_cases hc : c = 58
    · rw [if_pos hc] at e
      obtain ⟨rfl, rfl⟩ := Prod.mk.inj (Option.some.inj e)
      simp [hc]
    · rw [if_neg hc] at e
      cases hq : cutC t with
      | none => rw [hq] at e; cases e
      | some p =>
        obtain ⟨x, y⟩ := p
        rw [hq] at e
        obtain ⟨rfl, rfl⟩ := Prod.mk.inj (Option.some.inj e)
        rw [ih hq]; rfl

theorem index_one (t : List UInt8) (w : World) : Calls Tryz.prog 113 #[.string (bs t), .string (bs [58])] w fun e w' => e = .returned (.int .i64 (match cutC t with | none => -1 | some (a, _) => (a.length : Int))) ∧ w = w' :=
  (Tryz.stringslite_Index_one (bs t) 58 w).mono fun _ _ ⟨h, k⟩ => ⟨by rw [h, ← index58], k.symm⟩

theorem cutl_some (t a r : List UInt8) (w : World) (hc : cutC t = some (a, r)) (hl : t.length ≤ 1099511627776) : Calls Tryz.prog 149 #[.string (bs t), .string (bs [58])] w fun e w' => e = .returned (.tuple #[.string (bs a), .string (bs r), .bool true]) ∧ Below w.heap.size w w' := by
  have hi := index_one t
  rw [hc] at hi
  have ht := cutC_some hc
  have htl : t.length = a.length + 1 + r.length := by rw [ht]; simp; omega
  have h1 := run_to t a.length (by omega)
  have h2 := run_from t (a.length + 1) (by omega)
  rw [show t.take a.length = a by rw [ht]; simp] at h1
  rw [show t.drop (a.length + 1) = r by rw [ht, show a ++ 58 :: r = (a ++ [58]) ++ r by simp]; exact List.drop_left' (by simp), show ((a.length + 1 : Nat) : Int) = (a.length : Int) + 1 by simp] at h2
  have hal : a.length + 1 ≤ t.length := by omega
  have HI := Lib.hid hi
  have d0 : decide (0 ≤ (a.length : Int)) = true := by simp
  clear hi hc ht htl
  go_enter Tryz.func149, Tryz.ntmps149
  go_wp2_with fail
  refine (HI.out _).mono ?_
  rintro e w' ⟨rfl, rfl⟩
  go_wp2
  go_quiet (fail)
  go_wp2
  go_ret3
  exact ⟨rfl, below_drewN (Below.refl _ _) _⟩
theorem cutl_none (t : List UInt8) (w : World) (hc : cutC t = none) : Calls Tryz.prog 149 #[.string (bs t), .string (bs [58])] w fun e w' => e = .returned (.tuple #[.string (bs t), .string (bs []), .bool false]) ∧ Below w.heap.size w w' := by
  have hi := index_one t
  rw [hc] at hi
  have HI := Lib.hid hi
  clear hi hc
  go_enter Tryz.func149, Tryz.ntmps149
  go_wp2_with fail
  refine (HI.out _).mono ?_
  rintro e w' ⟨rfl, rfl⟩
  go_wp2
  go_ret3
  exact ⟨rfl, Below.refl _ _⟩
theorem cut_some (t a r : List UInt8) (w : World) (hc : cutC t = some (a, r)) (hl : t.length ≤ 1099511627776) : Calls Tryz.prog 140 #[.string (bs t), .string (bs [58])] w fun e w' => e = .returned (.tuple #[.string (bs a), .string (bs r), .bool true]) ∧ Below w.heap.size w w' := by
  have HC := Lib.hid hc
  clear hc
  go_enter Tryz.func140, Tryz.ntmps140
  go_wp2_with fail
  refine (cutl_some t a r _ HC.out hl).mono ?_
  rintro e w' ⟨rfl, hb⟩
  go_wp2
  go_ret3
  exact ⟨rfl, hb⟩
theorem cut_none (t : List UInt8) (w : World) (hc : cutC t = none) : Calls Tryz.prog 140 #[.string (bs t), .string (bs [58])] w fun e w' => e = .returned (.tuple #[.string (bs t), .string (bs []), .bool false]) ∧ Below w.heap.size w w' := by
  have HC := Lib.hid hc
  clear hc
  go_enter Tryz.func140, Tryz.ntmps140
  go_wp2_with fail
  refine (cutl_none t _ HC.out).mono ?_
  rintro e w' ⟨rfl, hb⟩
  go_wp2
  go_ret3
  exact ⟨rfl, hb⟩

theorem ok_bounds (c : UInt8) : okC c = true ↔ 33 ≤ (c.toNat : Int) ∧ (c.toNat : Int) ≤ 126 := by unfold okC; simp; omega

/-- the loop of name over the bytes ahead of the ":" -/
def nameV (t : List UInt8) (e : Ending) (w w' : World) : Prop :=
  (match nameL t with
   | some (n, v) => e = .returned (.tuple #[.string (bs n), .string (bs v), .bool true])
   | none => ∃ x y, e = .returned (.tuple #[.string (bs x), .string (bs y), .bool false])) ∧ Below w.heap.size w w'

set_option maxRecDepth 100000 in
set_option maxHeartbeats 1000000 in
theorem name_any (t : List UInt8) (w : World) (hl : t.length ≤ 1099511627776) : Calls Tryz.prog 119 #[.string (bs t)] w fun e w' => nameV t e w w' := by
  obtain ⟨a, r, is, hcut, hal, hnm⟩ : ∃ (a r : List UInt8) (is : Bool), Hid (∀ w, Calls Tryz.prog 140 #[.string (bs t), .string (bs [58])] w fun e w' => e = .returned (.tuple #[.string (bs a), .string (bs r), .bool is]) ∧ Below w.heap.size w w') ∧ a.length ≤ t.length ∧ nameL t = if is = true ∧ a ≠ [] ∧ a.all okC = true then some (a, r) else none := by
    cases hc : cutC t with
    | none => exact ⟨t, [], false, fun w => cut_none t w hc, Nat.le_refl _, by unfold nameL; rw [hc]; simp⟩
    | some q =>
      obtain ⟨a, r⟩ := q
      refine ⟨a, r, true, fun w => cut_some t a r w hc hl, by rw [cutC_some hc]; simp, ?_⟩
      unfold nameL
      rw [hc]
      simp
  obtain ⟨R, hR⟩ : ∃ R, nameL t = R := ⟨_, rfl⟩
  unfold nameV
  rw [hR]
  rw [hR] at hnm
  have HN := Lib.hid hnm
  clear hnm hR
  go_enter Tryz.func119, Tryz.ntmps119
  go_wp2_with fail
  refine (hcut.out _).mono ?_
  rintro e w1 ⟨rfl, hb1⟩
  obtain ⟨cap, w2, hconv, hcells, hb2, hlt2⟩ := to_bytes a w1
  have HC := Lib.hid hcells
  clear hcells
  go_wp2
  clear hconv
  go_loop [9, 19] (fun _ i => ∃ k : Nat, k ≤ a.length ∧ i = .int .i64 k ∧ Hid (∀ j, j < k → okC (a.getD j 0) = true)) (fun _ i => a.length - (intOf i).toNat)
  case atStart => exact ⟨0, Nat.zero_le _, rfl, by intro j hj; omega⟩
  case round =>
    obtain ⟨k, hk, rfl, hok⟩ := hrel
    by_cases hlt : k < a.length
    · have hck := HC.out k hlt
      have hlt' : (k : Int) < a.length := by omega
      obtain ⟨c, hc⟩ : ∃ c, a.getD k 0 = c := ⟨_, rfl⟩
      rw [hc] at hck
      have hcm : c ∈ a := by rw [← hc, List.getD_eq_getElem?_getD, List.getElem?_eq_getElem hlt]; exact List.getElem_mem hlt
      have HK := Lib.hid hc
      clear hc
      by_cases ho : okC c = true
      · obtain ⟨o1, o2⟩ := (ok_bounds c).1 ho
        have HO := Lib.hid ho
        clear ho
        go_wp2
        go_round
        case rel =>
          refine ⟨k + 1, by omega, by go_num, ?_⟩
          intro j hj
          rcases Nat.lt_or_ge j k with h1 | h1
          · exact hok.out j h1
          · obtain rfl : j = k := by omega
            rw [HK.out]; exact HO.out
        case measure => simp [intOf]; omega
      · have hnone : R = none := by
          rw [HN.out, if_neg]
          rintro ⟨_, _, h⟩
          exact ho (List.all_eq_true.1 h c hcm)
        subst hnone
        have hb : (c.toNat : Int) < 33 ∨ 33 ≤ (c.toNat : Int) ∧ 126 < (c.toNat : Int) := by
          have := ok_bounds c
          rcases Int.lt_or_le (c.toNat : Int) 33 with h1 | h1
          · exact .inl h1
          · refine .inr ⟨h1, ?_⟩
            rcases Int.lt_or_le 126 (c.toNat : Int) with h2 | h2
            · exact h2
            · exact absurd (this.2 ⟨h1, h2⟩) ho
        clear ho hcm
        rcases hb with hb | ⟨hb, hb'⟩
        all_goals
          go_wp2
          go_ret3
          exact ⟨⟨[], [], rfl⟩, hb1.trans (hb2.mono hb1.size)⟩
    · obtain rfl : k = a.length := by omega
      have hall : a.all okC = true := by
        rw [List.all_eq_true]
        intro c hc
        obtain ⟨j, hj, rfl⟩ := List.mem_iff_getElem.1 hc
        have := hok.out j hj
        rwa [List.getD_eq_getElem?_getD, List.getElem?_eq_getElem hj] at this
      have hR2 := HN.out
      rw [hall] at hR2
      clear hall hok
      by_cases h0 : a = []
      · subst h0
        have hR3 : R = none := by rw [hR2]; simp
        subst hR3
        clear hR2
        cases is
        all_goals
          go_wp2
          go_ret3
          exact ⟨⟨_, _, rfl⟩, hb1.trans (hb2.mono hb1.size)⟩
      · have hne : (!a == []) = true := by simp [h0]
        have hne2 : a.isEmpty = false := by simp [h0]
        cases is
        · have hR3 : R = none := by rw [hR2]; simp
          subst hR3
          clear hR2 h0
          go_wp2
          go_ret3
          exact ⟨⟨_, _, rfl⟩, hb1.trans (hb2.mono hb1.size)⟩
        · have hR3 : R = some (a, r) := by rw [hR2, if_pos ⟨rfl, h0, rfl⟩]
          subst hR3
          clear hR2 h0
          go_wp2
          go_ret3
          exact ⟨rfl, hb1.trans (hb2.mono hb1.size)⟩

end Go.Proofs.YtalgmnlclflllaaGreatDoor
end

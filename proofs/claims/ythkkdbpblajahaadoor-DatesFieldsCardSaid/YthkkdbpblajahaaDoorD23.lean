/- The dates' rules: what stands between two steps of a rule. -/
import Derived.Test.YthkkdbpblajahaaDoorD20
import Derived.Test.YthkkdbpblajahaaDoorD4
set_option linter.unusedVariables false
set_option linter.unusedSimpArgs false
namespace Go.Proofs.YthkkdbpblajahaaDoor
open Go.RowKit

def lit (t l : List UInt8) : Option (List UInt8) := if t.isPrefixOf l then some (l.drop t.length) else none
def skip (t l : List UInt8) : List UInt8 := if t.isPrefixOf l then l.drop t.length else l

theorem lit_len {t l r : List UInt8} (h : lit t l = some r) : r.length ≤ l.length ∧ l = t ++ r := by
  unfold lit at h
  by_cases hp : t.isPrefixOf l = true
  · rw [if_pos hp] at h
    obtain rfl := Option.some.inj h
    obtain ⟨r, rfl⟩ := List.isPrefixOf_iff_prefix.1 hp
    exact ⟨by simp, by simp⟩
  · rw [if_neg hp] at h; cases h
theorem skip_len (t l : List UInt8) : (skip t l).length ≤ l.length := by
  unfold skip
  split <;> simp

theorem is_any (t l : List UInt8) (b : Nat) (w : World) (hk : ScAt w b l) (hl : l.length ≤ 140737488355328) (ht : t.length ≤ 140737488355328) : Calls Tryd.prog 53 #[.pointer (some ⟨b, 0, none⟩), .string (bs t)] w fun e w' => e = .returned (.bool (t.isPrefixOf l)) ∧ ScAt w' b (skip t l) ∧ Upd b w w' := by
  unfold skip
  by_cases hp : t.isPrefixOf l = true
  · rw [if_pos hp, hp]
    obtain ⟨r, rfl⟩ := List.isPrefixOf_iff_prefix.1 hp
    rw [List.drop_left]
    exact is_yes t r b w hk hl
  · rw [if_neg hp, Bool.eq_false_iff.2 hp]
    exact is_no l t b w hk (fun h => hp (List.isPrefixOf_iff_prefix.2 h)) hl ht

/-- how reading a text that must stand may end -/
def Musts (b : Nat) (a : Addr) (w : World) (r : Option (List UInt8)) (e : Ending) (w' : World) : Prop :=
  match r with
  | none => e = badP (errV a) ∧ Upd b w w'
  | some l => e = .returned (.tuple #[]) ∧ ScAt w' b l ∧ Upd b w w'

theorem must_any (t l : List UInt8) (b : Nat) (w : World) (a : Addr) (hc : w.cell? ⟨1, 0, none⟩ = some (errV a)) (hb : 1 ≠ b) (hk : ScAt w b l) (hl : l.length ≤ 140737488355328) (ht : t.length ≤ 140737488355328) :
    Calls Tryd.prog 45 #[.pointer (some ⟨b, 0, none⟩), .string (bs t)] w (Musts b a w (lit t l)) := by
  unfold lit
  by_cases hp : t.isPrefixOf l = true
  · rw [if_pos hp]
    obtain ⟨r, rfl⟩ := List.isPrefixOf_iff_prefix.1 hp
    rw [List.drop_left]
    exact must_yes t r b w hk hl
  · rw [if_neg hp]
    exact must_no l t b w a hc hb hk (fun h => hp (List.isPrefixOf_iff_prefix.2 h)) hl ht

/-- between two steps of a rule: the scanner at block b stands before r; the date lies in block C, the result in block D -/
structure St (w : World) (b C D : Nat) (a : Addr) (cs : Array Value) (r : List UInt8) (wi : World) : Prop where
  sc : ScAt wi b r
  upd : Upd b w wi
  box : wi.heap[C]? = some (.cells cs 27 (0, 0))
  res : wi.heap[D]? = some (.cells civ0 27 (0, 0))
  err : wi.cell? ⟨1, 0, none⟩ = some (errV a)
  len : r.length ≤ 140737488355328

theorem St.call {w wi w' : World} {b C D : Nat} {a : Addr} {cs : Array Value} {r r' : List UInt8} (h : St w b C D a cs r wi) (hC : C ≠ b) (hD : D ≠ b) (hb : 1 ≠ b) (hk : ScAt w' b r') (hu : Upd b wi w') (hl : r'.length ≤ r.length) : St w b C D a cs r' w' where
  sc := hk
  upd := h.upd.trans hu
  box := (hu.block C (Array.getElem?_eq_some_iff.1 h.box).1 hC).trans h.box
  res := (hu.block D (Array.getElem?_eq_some_iff.1 h.res).1 hD).trans h.res
  err := upd_cell hu hb h.err
  len := Nat.le_trans hl h.len

theorem St.set {w wi : World} {b C D : Nat} {a : Addr} {cs : Array Value} {r : List UInt8} (h : St w b C D a cs r wi) (hC : C ≠ b) (hCD : D ≠ C) (hw : w.heap.size ≤ C) (hE : 1 ≠ C) (f : Nat) (v : Value) : St w b C D a (cs.setIfInBounds f v) r (wi.setCell ⟨C, f, none⟩ v) where
  sc := (Below.heap_setCell _ _ _ _ (by simpa using fun e => hC e.symm)).trans h.sc
  upd := ⟨h.upd.os, h.upd.tape, h.upd.output, by simpa [World.setCell] using h.upd.size, fun k hk hb => (Below.heap_setCell _ _ _ _ (by simp; omega)).trans (h.upd.block k hk hb)⟩
  box := blk_set h.box f v
  res := (Below.heap_setCell _ _ _ _ (by simpa using hCD)).trans h.res
  err := by
    have := h.err
    simp only [World.cell?] at this ⊢
    rw [Below.heap_setCell _ _ _ _ (by simpa using hE)]
    exact this
  len := h.len

theorem St.drew {w wi : World} {b C D : Nat} {a : Addr} {cs : Array Value} {r : List UInt8} (h : St w b C D a cs r wi) : St w b C D a cs r wi.drew := ⟨h.sc, h.upd.drew, h.box, h.res, h.err, h.len⟩

theorem St.cells {w wi : World} {b C D : Nat} {a : Addr} {cs : Array Value} {r : List UInt8} (h : St w b C D a cs r wi) (i : Nat) : wi.cell? ⟨C, i, none⟩ = cs[i]? ∧ wi.frozen? ⟨C, i, none⟩ = false := ⟨blk_cell h.box i, blk_free h.box i⟩

theorem St.fin {w W : World} {b C D : Nat} {a : Addr} {cs : Array Value} {r : List UInt8} (h : St w b C D a cs r W) (hDb : D ≠ b) (hw : w.heap.size ≤ D) (v0 v1 v2 v3 v4 v5 v6 : Value) :
    (((((((W.setCell ⟨D, 0, none⟩ v0).setCell ⟨D, 1, none⟩ v1).setCell ⟨D, 2, none⟩ v2).setCell ⟨D, 3, none⟩ v3).setCell ⟨D, 4, none⟩ v4).setCell ⟨D, 5, none⟩ v5).setCell ⟨D, 6, none⟩ v6).heap[D]? = some (.cells #[v0, v1, v2, v3, v4, v5, v6] 27 (0, 0)) ∧
    ScAt (((((((W.setCell ⟨D, 0, none⟩ v0).setCell ⟨D, 1, none⟩ v1).setCell ⟨D, 2, none⟩ v2).setCell ⟨D, 3, none⟩ v3).setCell ⟨D, 4, none⟩ v4).setCell ⟨D, 5, none⟩ v5).setCell ⟨D, 6, none⟩ v6) b r ∧
    Upd b w (((((((W.setCell ⟨D, 0, none⟩ v0).setCell ⟨D, 1, none⟩ v1).setCell ⟨D, 2, none⟩ v2).setCell ⟨D, 3, none⟩ v3).setCell ⟨D, 4, none⟩ v4).setCell ⟨D, 5, none⟩ v5).setCell ⟨D, 6, none⟩ v6) := by
  have sc1 : ∀ (V : World) (i : Nat) (v : Value), ScAt V b r → ScAt (V.setCell ⟨D, i, none⟩ v) b r := fun V i v hs => (Below.heap_setCell _ _ _ _ (by simpa using fun e => hDb e.symm)).trans hs
  have up1 : ∀ (V : World) (i : Nat) (v : Value), Upd b w V → Upd b w (V.setCell ⟨D, i, none⟩ v) := fun V i v hu => ⟨hu.os, hu.tape, hu.output, by simpa [World.setCell] using hu.size, fun k hk hb => (Below.heap_setCell _ _ _ _ (by simp; omega)).trans (hu.block k hk hb)⟩
  exact ⟨blk_set (blk_set (blk_set (blk_set (blk_set (blk_set (blk_set h.res 0 v0) 1 v1) 2 v2) 3 v3) 4 v4) 5 v5) 6 v6,
    sc1 _ _ _ (sc1 _ _ _ (sc1 _ _ _ (sc1 _ _ _ (sc1 _ _ _ (sc1 _ _ _ (sc1 _ _ _ h.sc)))))), up1 _ _ _ (up1 _ _ _ (up1 _ _ _ (up1 _ _ _ (up1 _ _ _ (up1 _ _ _ (up1 _ _ _ h.upd))))))⟩

def RuleD : Type := (Int × Int × Int × Int × Int × Int) × Int
def dateV (y m d h mi s : Int) : Value := .agg #[.int .i64 y, .int .i64 m, .int .i64 d, .int .i64 h, .int .i64 mi, .int .i64 s, .int .i64 0]

/-- how a rule may end -/
def Rules (b : Nat) (a : Addr) (w : World) (R : Option (RuleD × List UInt8)) (e : Ending) (w' : World) : Prop :=
  match R with
  | none => e = badP (errV a) ∧ Upd b w w'
  | some (((y, m, d, h, mi, s), z), r) => e = .returned (.tuple #[dateV y m d h mi s, .int .i64 z]) ∧ ScAt w' b r ∧ Upd b w w'

/-- the names of the months -/
def monthsL : List UInt8 := [74, 97, 110, 70, 101, 98, 77, 97, 114, 65, 112, 114, 77, 97, 121, 74, 117, 110, 74, 117, 108, 65, 117, 103, 83, 101, 112, 79, 99, 116, 78, 111, 118, 68, 101, 99]
def daysL : List UInt8 := [83, 117, 110, 77, 111, 110, 84, 117, 101, 87, 101, 100, 84, 104, 117, 70, 114, 105, 83, 97, 116]

theorem nm_bd : ∀ (k i : Nat) (t l : List UInt8) (v : Int) (r : List UInt8), nm k i t l = some (v, r) → (i : Int) ≤ v ∧ v < i + k ∧ r.length ≤ l.length
  | 0, _, _, _, _, _, h => by unfold nm at h; cases h
  | k + 1, i, t, l, v, r, h => by
    unfold nm at h
    split at h
    · obtain ⟨rfl, rfl⟩ := Prod.mk.inj (Option.some.inj h)
      simp; omega
    · obtain ⟨a, b, c⟩ := nm_bd k (i + 1) _ _ _ _ h
      exact ⟨by omega, by omega, c⟩
theorem short_bd {l : List UInt8} {v : Int} {r : List UInt8} (h : short l = some (v, r)) : 0 ≤ v ∧ v ≤ 99 ∧ r.length ≤ l.length := by
  unfold short at h
  rcases hn : num 1 0 l with _ | ⟨x, r1⟩
  · rw [hn] at h; cases h
  · rw [hn] at h
    obtain ⟨a1, a2, a3⟩ := num_bd _ _ _ _ _ hn (by omega)
    simp only at h
    split at h
    · rcases hm : num 1 0 r1 with _ | ⟨y, r2⟩
      · rw [hm] at h; cases h
      · rw [hm] at h
        obtain ⟨b1, b2, b3⟩ := num_bd _ _ _ _ _ hm (by omega)
        obtain ⟨rfl, rfl⟩ := Prod.mk.inj (Option.some.inj h)
        simp at a2 b2
        omega
    · obtain ⟨rfl, rfl⟩ := Prod.mk.inj (Option.some.inj h)
      simp at a2
      omega
theorem zoneNum_bd {sg : Int} (hs : sg = 1 ∨ sg = -1) {l : List UInt8} {z : Int} {r : List UInt8} (h : zoneNum sg l = some (z, r)) : -86400 ≤ z ∧ z ≤ 86400 ∧ r.length ≤ l.length := by
  unfold zoneNum at h
  rcases hn : num 2 0 l with _ | ⟨x, r1⟩
  · rw [hn] at h; cases h
  · rw [hn] at h
    obtain ⟨a1, a2, a3⟩ := num_bd _ _ _ _ _ hn (by omega)
    simp only at h
    rcases hm : num 2 0 r1 with _ | ⟨y, r2⟩
    · rw [hm] at h; cases h
    · rw [hm] at h
      obtain ⟨b1, b2, b3⟩ := num_bd _ _ _ _ _ hm (by omega)
      simp only at h
      split at h
      · obtain ⟨rfl, rfl⟩ := Prod.mk.inj (Option.some.inj h)
        rcases hs with rfl | rfl <;> omega
      · cases h
theorem zone_bd {l : List UInt8} {z : Int} {r : List UInt8} (h : zone l = some (z, r)) : -86400 ≤ z ∧ z ≤ 86400 ∧ r.length ≤ l.length := by
  cases l with
  | nil => cases h
  | cons c t =>
    have e : zone (c :: t) = if c = 43 then zoneNum 1 t else if c = 45 then zoneNum (-1) t else none := rfl
    rw [e] at h
    by_cases h1 : c = 43
    · rw [if_pos h1] at h
      obtain ⟨a, b, c⟩ := zoneNum_bd (.inl rfl) h
      exact ⟨a, b, by simp; omega⟩
    · rw [if_neg h1] at h
      by_cases h2 : c = 45
      · rw [if_pos h2] at h
        obtain ⟨a, b, c⟩ := zoneNum_bd (.inr rfl) h
        exact ⟨a, b, by simp; omega⟩
      · rw [if_neg h2] at h; cases h

end Go.Proofs.YthkkdbpblajahaaDoor

/- LinesPlays: a script that came in. -/
import Derived.Test.YtglopeijohdobaaDoorLD
import Derived.Deep.Slices
import Derived.Deep.Fields
import Derived.SizedLaws
set_option linter.unusedVariables false
set_option linter.unusedSimpArgs false
namespace Go.Proofs.YtglopeijohdobaaDoor
open Go.RowKit Go.Deep Go.WideShapes Go.ChangeShapes

section
variable {H : Type} {enc : TypeId × Value → H} {W : World}

theorem weightsAll_mem {e : TypeId} {d : DataW H} : ∀ {ds : List (DataW H)}, d ∈ ds → ∀ n ∈ d.weights Tryd.prog e, n ∈ DataW.weightsAll Tryd.prog e ds
  | [], h, _, _ => by cases h
  | d0 :: ds, h, n, hn => by
    rcases List.mem_cons.1 h with rfl | h
    · exact List.mem_append_left _ hn
    · exact List.mem_append_right _ (weightsAll_mem h n hn)

theorem open_bytes {n : Nat} {v : Value} {y : DataW H × List MemPlace} (h : DataW.trod enc Tryd.prog W 0 (fun _ => true) true n 22 [v] = some y) : ∃ l, ArgBN W v l ∧ ∀ M, (∀ z ∈ y.1.weights Tryd.prog 22, z ≤ M) → l.length ≤ M := by
  have h0 := h
  rcases open_slice Tryd.underlying22 h with ⟨hv, hy⟩ | ⟨a, len, cap, m, k, D, Pl, hcs, hb, hl, hm, hmm, hx, hi⟩
  · simp at hv
    subst hv
    obtain ⟨l, hl, _, _⟩ := arg_bytes (enc := enc) (d := y.1) (p := y.2) Tryd.underlying22 ⟨n, h0⟩
    have hl0 : l.length = 0 := by
      obtain ⟨_, _, e, _⟩ := hl
      simp at e
      omega
    exact ⟨l, ⟨hl, fun n c e => by simp at e; omega⟩, fun M _ => by omega⟩
  · simp at hcs
    subst hcs
    obtain ⟨l, hl9, _, _⟩ := arg_bytes (enc := enc) (d := y.1) (p := y.2) Tryd.underlying22 ⟨n, h0⟩
    have hll : l.length = len := by
      obtain ⟨_, _, e, _⟩ := hl9
      simp at e
      omega
    refine ⟨l, ⟨hl9, fun n c e => by simp at e⟩, fun M hM => ?_⟩
    have hb1 : Tryd.prog.bytesOf 5 = 1 := by kernel_rfl
    have h9 := hM (((List.range len).map D).length + ((List.range (m - len)).map fun j => D (len + j)).length) (by
      rw [hx]
      unfold DataW.weights
      rw [Tryd.underlying22]
      simp only [hb1, Nat.mul_one]
      exact List.mem_cons_self)
    simp at h9
    omega

set_option maxRecDepth 100000 in
theorem open_iib {t : TypeId} {f0 f1 f2 : Field} {n : Nat} {cs : List Value} {x : DataW H × List MemPlace} (hs : Tryd.prog.underlying t = some (.struct #[f0, f1, f2])) (hone : oneCellFields Tryd.prog #[f0, f1, f2] = true) (hC : Tryd.prog.cellsOf t = 3)
    (t0 : f0.type = 3) (t1 : f1.type = 3) (t2 : f2.type = 22) (h : DataW.trod enc Tryd.prog W 0 (fun _ => true) true n t cs = some x) :
    ∃ op : Opn, cs = [.int .i64 op.kind, .int .i64 op.n, op.v] ∧ ArgBN W op.v op.l ∧ ∀ M, (∀ z ∈ x.1.weights Tryd.prog t, z ≤ M) → op.l.length ≤ M := by
  obtain ⟨xs, m, _, hx, hl, hlen, hf⟩ := DataW.trod_struct hs h
  rw [hC] at hl
  match cs, hl, xs, hlen with
  | [c0, c1, c2], _, [y0, y1, y2], _ =>
    obtain ⟨o0, k0⟩ := hone_of hone 0 f0 rfl
    obtain ⟨o1, k1⟩ := hone_of hone 1 f1 rfl
    obtain ⟨o2, k2⟩ := hone_of hone 2 f2 rfl
    have h0 := hf 0 f0 rfl
    have h1 := hf 1 f1 rfl
    have h2 := hf 2 f2 rfl
    rw [o0, k0, t0] at h0
    rw [o1, k1, t1] at h1
    rw [o2, k2, t2] at h2
    obtain ⟨a0, e0, _, _⟩ := DataW.trod_int Tryd.underlying3 h0
    obtain ⟨a1, e1, _, _⟩ := DataW.trod_int Tryd.underlying3 h1
    simp at e0 e1
    subst e0 e1
    obtain ⟨l, hl1, hl2⟩ := open_bytes (v := c2) (y := y2) (n := m) (by simpa using h2)
    refine ⟨⟨a0, a1, c2, l⟩, rfl, hl1, fun M hM => hl2 M fun z hz => hM z ?_⟩
    rw [hx]
    unfold DataW.weights
    rw [hs]
    show z ∈ DataW.weightsEach Tryd.prog [f0.type, f1.type, f2.type] [y0.1, y1.1, y2.1]
    rw [t2]
    exact List.mem_append_right _ (List.mem_append_right _ (List.mem_append_left _ hz))
set_option maxRecDepth 100000 in
theorem open_op {n : Nat} {cs : List Value} {x : DataW H × List MemPlace} (h : DataW.trod enc Tryd.prog W 0 (fun _ => true) true n 42 cs = some x) :
    ∃ op : Opn, cs = [.int .i64 op.kind, .int .i64 op.n, op.v] ∧ ArgBN W op.v op.l ∧ ∀ M, (∀ z ∈ x.1.weights Tryd.prog 42, z ≤ M) → op.l.length ≤ M :=
  open_iib Tryd.underlying42 (by kernel_rfl) (by kernel_rfl) rfl rfl rfl h

set_option maxRecDepth 100000 in
theorem arg_ops {t : TypeId} (ht : Tryd.prog.underlying t = some (.slice 42)) {a0 : Option Addr} {len cap : Nat} {d : DataW H} {p : List MemPlace}
    (h0 : DataW.Trod enc Tryd.prog W 0 (fun _ => true) true t (.slice a0 len cap) d p) : ∃ ops, ArgO W (.slice a0 len cap) ops ∧ (∀ M, (∀ z ∈ d.weights Tryd.prog t, z ≤ M) → ∀ op ∈ ops, op.l.length ≤ M) ∧ True := by
  obtain ⟨fuel, hf⟩ := h0
  have hlt := DataW.trod_lt _ _ _ _ hf
  have hC : Tryd.prog.cellsOf 42 = 3 := by kernel_rfl
  rcases open_slice ht hf with ⟨hcs, hx⟩ | ⟨a, len', cap', m, n, D, Pl, hcs, _, hl, hm, hmm, hx, hel⟩
  · simp [Value.cells] at hcs
    obtain ⟨rfl, rfl, rfl⟩ := hcs
    exact ⟨[], ⟨_, _, rfl, fun h => absurd rfl h⟩, by simp, trivial⟩
  · simp [Value.cells] at hcs
    obtain ⟨rfl, rfl, rfl⟩ := hcs
    simp only [Prod.mk.injEq] at hx
    obtain ⟨rfl, rfl⟩ := hx
    simp only [if_true] at hmm
    subst hmm
    rw [hC] at hel
    by_cases h1 : len = 0
    · subst h1
      exact ⟨[], ⟨_, _, rfl, fun h => absurd rfl h⟩, by simp, trivial⟩
    · have key : ∀ i, i < m → ∃ f : Opn, W.cells? 0 (a.add (i * 3)) 3 = some [.int .i64 f.kind, .int .i64 f.n, f.v] ∧ ArgBN W f.v f.l ∧ ∀ M, (∀ z ∈ (D i).weights Tryd.prog 42, z ≤ M) → f.l.length ≤ M := fun i hi => by
        obtain ⟨cs', h1, h2⟩ := hel i hi
        obtain ⟨f, rfl, h3, h4⟩ := open_op h2
        exact ⟨f, h1, h3, h4⟩
      haveI : Inhabited Opn := ⟨⟨0, 0, .nilIface, []⟩⟩
      obtain ⟨F, hF⟩ := choose_lt key
      obtain ⟨b, off, spot⟩ := a
      have hcell0 := (World.cells?_some (hF 0 (by omega)).1).2.2 0 (by decide)
      have hspot : spot = none := by simpa [Addr.add] using World.cell?_spot hcell0
      subst hspot
      have hlen : ((List.range len).map F).length = len := by simp
      refine ⟨(List.range len).map F, ⟨_, m, by rw [hlen], fun _ => ⟨b, off, rfl, ?_, fun j f hj => ?_⟩⟩, ?_, trivial⟩
      · exact hlt (.cell b off) (List.mem_append_left _ (MemPlace.mem_row.2 ⟨0, by rw [hC]; omega, by simp⟩))
      · obtain ⟨hj1, hj2⟩ := List.getElem?_eq_some_iff.1 hj
        rw [hlen] at hj1
        simp only [List.getElem_map, List.getElem_range] at hj2
        subst hj2
        have hat := (World.cells?_some (hF j (by omega)).1).2.2
        have q0 := hat 0 (by decide)
        have q1 := hat 1 (by decide)
        have q2 := hat 2 (by decide)
        rw [add_add, add_plain] at q0 q1 q2
        exact ⟨q0, q1, q2, (hF j (by omega)).2.1⟩
      · intro M hM op hop
        obtain ⟨j, hj, rfl⟩ := List.mem_map.1 hop
        have hjl := List.mem_range.1 hj
        refine (hF j (by omega)).2.2 M fun z hz => hM z ?_
        unfold DataW.weights
        rw [ht]
        exact List.mem_cons_of_mem _ (List.mem_append_left _ (weightsAll_mem (List.mem_map.2 ⟨j, hj, rfl⟩) z hz))
theorem ops_sized {ts : List TypeId} {ds : List (DataW H)} {t : TypeId} {d : DataW H} {ops : List Opn} (h : (DataW.weightsEach Tryd.prog ts ds).all (· ≤ reachBytes) = true) (j : Nat) (ht : ts[j]? = some t) (hd : ds[j]? = some d) (g : ∀ M, (∀ z ∈ d.weights Tryd.prog t, z ≤ M) → ∀ op ∈ ops, op.l.length ≤ M) : ∀ op ∈ ops, op.l.length ≤ 140737488351232 :=
  g _ fun z hz => by
    have := List.all_eq_true.1 h _ (DataW.weights_mem_each ht hd z hz)
    exact Nat.le_trans (of_decide_eq_true this) (by decide)
end

theorem linesPlays_any (v : Value) (ops : List Opn) (w : World) (hv : ArgO w v ops) (hn : ∀ op ∈ ops, op.l.length ≤ 140737488351232) (a : Nat → Addr) (hE : Errs w a) :
    Calls Tryd.prog 5 #[v] w fun e w' => e = .returned (.bool true) ∧ Below w.heap.size w w' :=
  linesPlays_list v ops a w hv hn hE

end Go.Proofs.YtglopeijohdobaaDoor

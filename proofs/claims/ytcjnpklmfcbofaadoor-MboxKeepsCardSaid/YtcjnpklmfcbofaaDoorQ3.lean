/- quote.Encode, Size. -/
import Derived.Test.YtcjnpklmfcbofaaDoorQ2
set_option linter.unusedVariables false
set_option linter.unusedSimpArgs false
namespace Go.Proofs.YtcjnpklmfcbofaaDoor
open Go.RowKit Go Go.Shelf

theorem encode_any (s : List UInt8) (w : World) (hs : s.length ≤ 1000000000) : Calls Tryd.prog 20 #[.string (bs s)] w fun e w' => e = .returned (.string (bs (encodeL s))) ∧ Below w.heap.size w w' := by
  have hq := quotes_length (linesOf s)
  rw [linesOf_flatten] at hq
  have hll := linesOf_length s
  have h1 : ((linesOf s).map quoteL).flatten.length ≤ 140737488355328 := by omega
  have h2 : s.length ≤ 1099511627776 := by omega
  have H1 := Lib.hid h1
  have H2 := Lib.hid h2
  clear h1 h2 hq hll hs
  unfold encodeL
  obtain ⟨q, hq⟩ : ∃ q, ((linesOf s).map quoteL).flatten = q := ⟨_, rfl⟩
  have hql : q.length ≤ 140737488355328 := by rw [← hq]; exact H1.out
  have HQ := Lib.hid hq
  rw [hq]
  clear hq
  go_enter Tryd.func20, Tryd.ntmps20
  go_wp2_with fail
  refine (each_quote s _ H2.out H1.out).mono ?_
  rintro e w1 ⟨rfl, hb1⟩
  rw [HQ.out]
  go_wp2
  go_ret
  exact ⟨by rw [← bs_append]; rfl, hb1⟩

end Go.Proofs.YtcjnpklmfcbofaaDoor

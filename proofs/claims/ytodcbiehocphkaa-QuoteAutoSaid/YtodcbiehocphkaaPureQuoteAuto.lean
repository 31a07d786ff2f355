/- Proved: without marks quote.Do tells nothing but counts, and by itself there are two pairs of marks; for every depth and both ways. No further conditions. -/
import Derived.Test.YtodcbiehocphkaaPx6
namespace Go.Proofs.Ytodcbiehocphkaa.Pure
open Go.RowKit Go.Proofs.Ytodcbiehocphkaa.P Go.Proofs.YtodcbiehocphkaaW.PrintWords Go.Proofs.YtodcbiehocphkaaW.PrintLast

theorem auto_all : ∀ n : Fin 1001, ∀ b : Bool, fleuronlaw17_QuoteAuto.f 5 (n.val : Int) b = some true := by decide +kernel

theorem QuoteAuto : fleuronlaw17_QuoteAuto.Pure := by
  intro a b _
  refine ⟨5, ?_⟩
  by_cases h0 : a < 0
  · unfold fleuronlaw17_QuoteAuto.f
    rw [if_pos h0]
    rw [fleuronlaw17_QuoteAuto.j0, if_pos rfl]; rfl
  by_cases h1 : a > 1000
  · unfold fleuronlaw17_QuoteAuto.f
    rw [if_neg h0, decide_eq_true h1]
    rw [fleuronlaw17_QuoteAuto.j0, if_pos rfl]; rfl
  · have h := auto_all ⟨a.toNat, by omega⟩ b
    have e : ((a.toNat : Nat) : Int) = a := by omega
    rw [e] at h
    exact h

end Go.Proofs.Ytodcbiehocphkaa.Pure

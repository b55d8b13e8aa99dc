/- PathsTells: what any text's elements are, and whether it may be a path, a module's or an import's, is the reference's answer; for every text. -/
import Derived.Test.YtcfmaeonginefaaPAx5
import Derived.Test.YtcfmaeonginefaaPAx1
import Derived.Test.YtcfmaeonginefaaRef01b
namespace Go.Proofs.Ytcfmaeonginefaa.Pure
open Go.RowKit Go.Proofs.Ytcfmaeonginefaa.PA Go.Proofs.YtcfmaeonginefaaW.PrintWords Go.Proofs.YtcfmaeonginefaaW.PrintLast
open Go.Proofs.Ytcfmaeonginefaa.For Go.Proofs.Ytcfmaeonginefaa.Cut Go.Proofs.Ytcfmaeonginefaa.Elems Go.Proofs.Ytcfmaeonginefaa.Collect Go.Proofs.Ytcfmaeonginefaa.Paths Go.Proofs.Ytcfmaeonginefaa.Module Go.Proofs.Ytcfmaeonginefaa.Import Go.Proofs.Ytcfmaeonginefaa.Ref01 Go.Proofs.Ytcfmaeonginefaa.Ref01b

theorem same_l0 (l : List ByteArray) (hl : l.length ≤ 1048577) : ∀ (d i : Nat), l.length - i = d → i ≤ l.length → Ev (fun k => graftbedlaw01_same.l0 k l l i) true
  | 0, i, hd, hi => by
    refine Ev.step (f := fun _ => some true) (fun k => ?_) (Ev.now _)
    simp only [graftbedlaw01_same.l0]
    rw [if_neg (by omega)]
  | d + 1, i, hd, hi => by
    refine Ev.step (fun k => ?_) (same_l0 l hl d (i + 1) (by omega) (by omega))
    simp only [graftbedlaw01_same.l0]
    rw [if_pos (by omega), if_pos (by omega), if_pos (by omega), if_pos trivial, wrap_nat (by omega)]
theorem same_ev (l : List ByteArray) (hl : l.length ≤ 1048577) : Ev (fun k => graftbedlaw01_same.f k l l) true := by
  unfold graftbedlaw01_same.f
  simp only [if_true]
  simpa using same_l0 l hl l.length 0 (by omega) (by omega)

theorem valid_a : paths_Valid.f (⟨#[97]⟩ : ByteArray) = some true := by decide +kernel

theorem PathsTells : graftbedlaw01_PathsTells.Pure := by
  intro s _
  refine Ev.rounds ?_
  unfold graftbedlaw01_PathsTells.f
  by_cases h : (s.size : Int) > 2048
  · simp only [h, if_true]; exact Ev.now _
  · simp only [h, if_false]
    have hs : s.size ≤ 1048576 := by omega
    have e1 : paths_Elems.f s = some (elemsB s) := if_pos hs
    have e2 : paths_Valid.f s = some (validB s) := if_pos hs
    have e3 : paths_Module.f s = some (errB (moduleB s)) := if_pos hs
    have e4 : paths_Import.f s = some (errB (importB s)) := if_pos hs
    simp only [e1, e2, e3, e4, valid_a, Option.bind_some]
    refine Ev.bind (elems_ev s hs) (Ev.bind (same_ev _ (by have := elemsB_length s; omega)) ?_)
    simp only [if_true]
    refine Ev.bind (valid_ev s hs) ?_
    simp only [beq_self_eq_true, if_true]
    refine Ev.bind (module_ev s hs) ?_
    simp only [if_true]
    refine Ev.bind (import_ev s hs) ?_
    simp only [if_true]
    exact Ev.now _
end Go.Proofs.Ytcfmaeonginefaa.Pure

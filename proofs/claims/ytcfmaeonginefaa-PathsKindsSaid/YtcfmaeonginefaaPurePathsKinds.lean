/- PathsKinds: a module's path that may be, and an import's, is a path; none of these has an odd element; for every text. -/
import Derived.Test.YtcfmaeonginefaaPAx6
import Derived.Test.YtcfmaeonginefaaRef01b
namespace Go.Proofs.Ytcfmaeonginefaa.Pure
open Go.RowKit Go.Proofs.Ytcfmaeonginefaa.PA Go.Proofs.YtcfmaeonginefaaW.PrintWords Go.Proofs.YtcfmaeonginefaaW.PrintLast
open Go.Proofs.Ytcfmaeonginefaa.For Go.Proofs.Ytcfmaeonginefaa.Cut Go.Proofs.Ytcfmaeonginefaa.Elems Go.Proofs.Ytcfmaeonginefaa.Collect Go.Proofs.Ytcfmaeonginefaa.Paths Go.Proofs.Ytcfmaeonginefaa.Module Go.Proofs.Ytcfmaeonginefaa.Import Go.Proofs.Ytcfmaeonginefaa.Ref01 Go.Proofs.Ytcfmaeonginefaa.Ref01b

theorem mod_abc : paths_Module.f (⟨#[97, 46, 98, 47, 99]⟩ : ByteArray) = some 0 := by decide +kernel
theorem imp_A : paths_Import.f (⟨#[65]⟩ : ByteArray) = some 0 := by decide +kernel
theorem mod_a : paths_Module.f (⟨#[97]⟩ : ByteArray) = some 10 := by decide +kernel
theorem not_odd (x : ByteArray) (h : okE x = true) : ¬ x.toList = ([] : List UInt8) ∧ ¬ x.toList = ([46] : List UInt8) ∧ ¬ x.toList = ([46, 46] : List UInt8) := by
  refine ⟨fun e => ?_, fun e => ?_, fun e => ?_⟩ <;> simp [okE, bad0, e] at h

theorem kinds_l0 (l : List ByteArray) (hl : l.length ≤ 1048577) (h0 : l ≠ []) (hx : l.all okE = true) : ∀ (d i : Nat), l.length - i = d → i ≤ l.length → Ev (fun k => graftbedlaw01_PathsKinds.l0 k l i) true
  | 0, i, hd, hi => by
    have hn : ¬ (l.length : Int) = 0 := by
      intro e
      exact h0 (List.eq_nil_of_length_eq_zero (by omega))
    refine Ev.step (f := fun _ => some true) (fun k => ?_) (Ev.now _)
    simp only [graftbedlaw01_PathsKinds.l0]
    rw [if_neg (show ¬ (i : Int) < (l.length : Int) by omega), if_neg hn]
    simp only [mod_abc, imp_A, mod_a, Option.bind_some, if_true]
    rfl
  | d + 1, i, hd, hi => by
    have hlt : i < l.length := by omega
    obtain ⟨n1, n2, n3⟩ := not_odd l[i] (List.all_eq_true.1 hx _ (List.getElem_mem hlt))
    refine Ev.step (fun k => ?_) (kinds_l0 l hl h0 hx d (i + 1) (by omega) (by omega))
    simp only [graftbedlaw01_PathsKinds.l0]
    rw [if_pos (show (i : Int) < (l.length : Int) by omega), if_pos (show (0 : Int) ≤ (i : Int) by omega), rd_get l i hlt, if_neg n1, if_neg n2, if_neg n3, wrap_nat (by omega)]

theorem PathsKinds : graftbedlaw01_PathsKinds.Pure := by
  intro s _
  refine Ev.rounds ?_
  unfold graftbedlaw01_PathsKinds.f
  by_cases h : (s.size : Int) > 2048
  · simp only [h, if_true]; exact Ev.now _
  · simp only [h, if_false]
    have hs : s.size ≤ 1048576 := by omega
    have e1 : paths_Elems.f s = some (elemsB s) := if_pos hs
    have e2 : paths_Valid.f s = some (validB s) := if_pos hs
    have e3 : paths_Module.f s = some (errB (moduleB s)) := if_pos hs
    have e4 : paths_Import.f s = some (errB (importB s)) := if_pos hs
    simp only [e2, e3, e4, Option.bind_some]
    have J : Ev (fun k => graftbedlaw01_PathsKinds.j0 k s (validB s) false) true := by
      cases hv : validB s with
      | false =>
        refine Ev.step (f := fun _ => some true) (fun k => ?_) (Ev.now _)
        simp only [graftbedlaw01_PathsKinds.j0, Bool.false_eq_true, if_false]
        simp only [mod_abc, imp_A, mod_a, Option.bind_some, if_true]
        rfl
      | true =>
        refine Ev.step (f := fun k => graftbedlaw01_PathsKinds.l0 k (elemsB s) 0) (fun k => ?_) ?_
        · simp only [graftbedlaw01_PathsKinds.j0, Bool.false_eq_true, if_false, if_true, e1, Option.bind_some]
        · obtain ⟨t, ht⟩ := elems_head s hv
          have hv2 := hv
          unfold validB at hv2
          rw [Bool.and_eq_true] at hv2
          exact kinds_l0 (elemsB s) (by have := elemsB_length s; omega) (by rw [ht]; simp) hv2.2 _ 0 rfl (by omega)
    have I := import_ev s hs
    cases hv : validB s with
    | false =>
      have m : moduleB s = false := by simp only [moduleB, hv, Bool.false_and]
      have i : importB s = false := by simp only [importB, hv, Bool.false_and]
      rw [hv] at J
      rw [i] at I
      simp only [m, i, errB, Bool.false_eq_true, if_false, show ¬ ((10 : Int) = 0) by decide]
      exact Ev.bind I (by simpa [errB] using J)
    | true =>
      rw [hv] at J
      have K : Ev (fun k => graftbedlaw01_PathsKinds.j0 k s true (errB (importB s) != errB (importB s))) true := by simpa using J
      cases hm : moduleB s <;> cases hi : importB s <;> (rw [hi] at I K; simp only [errB, Bool.false_eq_true, if_false, if_true, show ¬ ((10 : Int) = 0) by decide]; exact Ev.bind I K)
end Go.Proofs.Ytcfmaeonginefaa.Pure

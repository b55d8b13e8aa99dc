/- A slice of entries that came in, opened. -/
import Derived.Test.YtcfmaeonginefaaGreatDoorRow7
import Derived.Deep.Slices
import Derived.ChangeArms
import Derived.ChangeSame
namespace Go.Proofs.YtcfmaeonginefaaGreatDoor.Open7
open Go.ChangeShapes Go.WideShapes Go.Deep Go.Proofs.YtcfmaeonginefaaGreatDoor.Row7
set_option linter.unusedVariables false

section
variable {H : Type} {enc : TypeId × Value → H} {w : World} {base : Nat} {spare : Nat → Bool} {held : Bool}
/-- A place whose first cell is there is a plain one. -/
theorem plain_of {a : Addr} {v : Value} (h : w.cell? (a.add 0) = some v) : ∃ g o, a = ⟨g, o, none⟩ := by
  obtain ⟨g, o, sp⟩ := a
  cases sp with
  | none => exact ⟨g, o, rfl⟩
  | some s =>
    exfalso
    simp [World.cell?, Addr.add] at h
    split at h <;> simp at h
set_option maxRecDepth 100000 in
theorem two_open {t : TypeId} (f0 f1 : Field) (ht : Tryz.prog.underlying t = some (.struct #[f0, f1])) (h0 : f0.type = 9 ∧ f0.offset = 0) (h1 : f1.type = 9 ∧ f1.offset = 1) (hc : Tryz.prog.cellsOf t = 2) {fuel : Nat} {cs : List Value} {x : DataW H × List MemPlace}
    (h : DataW.trod enc Tryz.prog w base spare held fuel t cs = some x) : ∃ p v : ByteArray, cs = [.string p, .string v] := by
  obtain ⟨xs, n, _, hx, hl, hlen, hg⟩ := DataW.trod_struct ht h
  rw [hc] at hl
  match cs, hl with
  | [c0, c1], _ =>
    match xs, hlen with
    | [y0, y1], _ =>
      have e0 := hg 0 f0 rfl
      have e1 := hg 1 f1 rfl
      rw [h0.1, h0.2] at e0
      rw [h1.1, h1.2] at e1
      have cS : Tryz.prog.cellsOf 9 = 1 := by kernel_rfl
      rw [cS] at e0 e1
      obtain ⟨p, q0, _⟩ := DataW.trod_string Tryz.underlying9 (show DataW.trod enc Tryz.prog w base spare held n 9 [c0] = some y0 from e0)
      obtain ⟨v, q1, _⟩ := DataW.trod_string Tryz.underlying9 (show DataW.trod enc Tryz.prog w base spare held n 9 [c1] = some y1 from e1)
      cases q0
      cases q1
      exact ⟨p, v, rfl⟩
set_option maxRecDepth 100000 in
theorem rf_open {fuel : Nat} {v : Value} {x : DataW H × List MemPlace} (h : DataW.trod enc Tryz.prog w base spare held fuel 36 [v] = some x) : ∃ fl, RF w v fl := by
  rcases open_slice Tryz.underlying36 h with ⟨h0, _⟩ | ⟨a, len, cap, m, n, D, Pl, h0, _, hl, hm, hmm, _, hi⟩
  · obtain rfl : v = .slice none 0 0 := by simpa using h0
    exact ⟨[], none, 0, rfl, fun _ => rfl, Nat.le_refl _, by decide, fun i hi => absurd hi (Nat.not_lt_zero _)⟩
  · obtain rfl : v = .slice (some a) len cap := by simpa using h0
    have hlm : len ≤ m := by rw [hmm]; split <;> omega
    have cF : Tryz.prog.cellsOf 56 = 2 := by kernel_rfl
    have each : ∀ i, i < len → ∃ f : ByteArray × ByteArray, w.cell? ((a.add (i * 2)).add 0) = some (.string f.1) ∧ w.cell? ((a.add (i * 2)).add 1) = some (.string f.2) := fun i hil => by
      obtain ⟨cs', hc, ht⟩ := hi i (by omega)
      rw [cF] at hc
      obtain ⟨_, hcl, hat⟩ := World.cells?_some hc
      obtain ⟨p, q, rfl⟩ := two_open _ _ Tryz.underlying56 ⟨rfl, rfl⟩ ⟨rfl, rfl⟩ cF ht
      exact ⟨(p, q), hat 0 (by omega), hat 1 (by omega)⟩
    obtain ⟨F, hF⟩ := choose_lt each
    refine ⟨(List.range len).map F, some a, cap, by simp, (fun h => by cases h), by simpa using hl, by unfold maxLen at hm; simp; omega, fun i hil => ?_⟩
    have hil' : i < len := by simpa using hil
    have hp := (hF 0 (by omega)).1
    rw [Nat.zero_mul] at hp
    have hz : a.add 0 = a := by unfold Addr.add; simp
    rw [hz] at hp
    obtain ⟨g, o, rfl⟩ := plain_of hp
    have h1 := hF i hil'
    rw [add_plain, add_plain, add_plain] at h1
    exact ⟨g, o, rfl, by simpa using h1.1, by simpa using h1.2⟩
set_option maxRecDepth 100000 in
theorem re_open {fuel : Nat} {v : Value} {x : DataW H × List MemPlace} (h : DataW.trod enc Tryz.prog w base spare held fuel 30 [v] = some x) : ∃ es, RE w v es := by
  rcases open_slice Tryz.underlying30 h with ⟨h0, _⟩ | ⟨a, len, cap, m, n, D, Pl, h0, _, hl, hm, hmm, _, hi⟩
  · obtain rfl : v = .slice none 0 0 := by simpa using h0
    exact ⟨[], ⟨none, 0, rfl, fun _ => rfl, Nat.le_refl _, by decide, fun i hi => absurd hi (Nat.not_lt_zero _)⟩, fun e he => by cases he⟩
  · obtain rfl : v = .slice (some a) len cap := by simpa using h0
    have hlm : len ≤ m := by rw [hmm]; split <;> omega
    have cE : Tryz.prog.cellsOf 38 = 4 := by kernel_rfl
    have each : ∀ i, i < len → ∃ f : En, w.cell? ((a.add (i * 4)).add 0) = some (.string f.p) ∧ w.cell? ((a.add (i * 4)).add 1) = some (.string f.v) ∧ w.cell? ((a.add (i * 4)).add 2) = some (.string f.g) ∧ w.cell? ((a.add (i * 4)).add 3) = some f.fv ∧ RF w f.fv f.fl := fun i hil => by
      obtain ⟨cs', hc, ht⟩ := hi i (by omega)
      rw [cE] at hc
      obtain ⟨_, hcl, hat⟩ := World.cells?_some hc
      obtain ⟨xs, n', _, hx, hl2, hlen, hg⟩ := DataW.trod_struct Tryz.underlying38 ht
      match cs', hcl with
      | [c0, c1, c2, c3], _ =>
        match xs, hlen with
        | [y0, y1, y2], _ =>
          have cM : Tryz.prog.cellsOf 23 = 2 := by kernel_rfl
          have cS : Tryz.prog.cellsOf 9 = 1 := by kernel_rfl
          have cL : Tryz.prog.cellsOf 36 = 1 := by kernel_rfl
          have e0 : DataW.trod enc Tryz.prog w base spare held n' 23 (([c0, c1, c2, c3].drop 0).take (Tryz.prog.cellsOf 23)) = some y0 := hg 0 _ rfl
          have e1 : DataW.trod enc Tryz.prog w base spare held n' 9 (([c0, c1, c2, c3].drop 2).take (Tryz.prog.cellsOf 9)) = some y1 := hg 1 _ rfl
          have e2 : DataW.trod enc Tryz.prog w base spare held n' 36 (([c0, c1, c2, c3].drop 3).take (Tryz.prog.cellsOf 36)) = some y2 := hg 2 _ rfl
          rw [cM] at e0
          rw [cS] at e1
          rw [cL] at e2
          obtain ⟨p, q, h01⟩ := two_open _ _ Tryz.underlying23 ⟨rfl, rfl⟩ ⟨rfl, rfl⟩ cM e0
          obtain ⟨s, h2, _⟩ := DataW.trod_string Tryz.underlying9 e1
          obtain ⟨fl, hfl⟩ := rf_open (show DataW.trod enc Tryz.prog w base spare held n' 36 [c3] = some y2 from e2)
          simp at h01 h2
          obtain ⟨rfl, rfl⟩ := h01
          subst h2
          exact ⟨⟨p, q, s, c3, fl⟩, hat 0 (by omega), hat 1 (by omega), hat 2 (by omega), hat 3 (by omega), hfl⟩
    haveI : Inhabited En := ⟨⟨⟨#[]⟩, ⟨#[]⟩, ⟨#[]⟩, .slice none 0 0, []⟩⟩
    obtain ⟨F, hF⟩ := choose_lt each
    refine ⟨(List.range len).map F, ⟨some a, cap, by simp, (fun h => by cases h), by simpa using hl, by unfold maxLen at hm; simp; omega, fun i hil => ?_⟩, fun e he => ?_⟩
    · have hil' : i < len := by simpa using hil
      have hp := (hF 0 (by omega)).1
      rw [Nat.zero_mul] at hp
      have hz : a.add 0 = a := by unfold Addr.add; simp
      rw [hz] at hp
      obtain ⟨g, o, rfl⟩ := plain_of hp
      have h1 := hF i hil'
      rw [add_plain, add_plain, add_plain, add_plain, add_plain] at h1
      exact ⟨g, o, rfl, by simpa using h1.1, by simpa using h1.2.1, by simpa using h1.2.2.1, by simpa using h1.2.2.2.1⟩
    · obtain ⟨i, hi', rfl⟩ := List.mem_map.1 he
      exact (hF i (List.mem_range.1 hi')).2.2.2.2
end
end Go.Proofs.YtcfmaeonginefaaGreatDoor.Open7

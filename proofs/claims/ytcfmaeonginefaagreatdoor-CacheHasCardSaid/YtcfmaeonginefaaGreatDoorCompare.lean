/- cmp.Or at numbers, semver.Compare: what they answer. -/
import Derived.Test.YtcfmaeonginefaaGreatDoorCanon3
import Derived.Deep.RegionHeld3
namespace Go.Proofs.YtcfmaeonginefaaGreatDoor.Compare
open Go Go.RowKit Go.Shelf Go.Proofs.YtcfmaeonginefaaGreatDoor.Seq Go.Proofs.YtcfmaeonginefaaGreatDoor.Cut Go.Proofs.YtcfmaeonginefaaGreatDoor.Elems Go.Proofs.YtcfmaeonginefaaGreatDoor.Paths Go.Proofs.YtcfmaeonginefaaGreatDoor.Made Go.Proofs.YtcfmaeonginefaaGreatDoor.Idents Go.Proofs.YtcfmaeonginefaaGreatDoor.Sign Go.Proofs.YtcfmaeonginefaaGreatDoor.Order Go.Proofs.YtcfmaeonginefaaGreatDoor.OrderPre Go.Proofs.YtcfmaeonginefaaGreatDoor.Num3 Go.Proofs.YtcfmaeonginefaaGreatDoor.Order3 Go.Proofs.YtcfmaeonginefaaGreatDoor.Parse Go.Proofs.YtcfmaeonginefaaGreatDoor.Parse3 Go.Proofs.YtcfmaeonginefaaGreatDoor.Idents3 Go.Proofs.YtcfmaeonginefaaGreatDoor.Split3 Go.Proofs.YtcfmaeonginefaaGreatDoor.Compare3 Go.Proofs.YtcfmaeonginefaaGreatDoor.Canon3
set_option linter.unusedSimpArgs false
set_option linter.unusedVariables false

theorem cellB {W W' : World} {b o : Nat} {v : Value} (h : Below W.heap.size W W') (hb : b < W.heap.size) (hc : W.cell? ⟨b, o, none⟩ = some v) : W'.cell? ⟨b, o, none⟩ = some v := (h.cell (p := ⟨b, o, none⟩) hb).trans hc
theorem keep8 {w W W' : World} {b1 b2 : Nat} {v0 v1 v2 v3 v4 v5 v6 v7 : Value} (hS : W.cell? ⟨b1, 0, none⟩ = some v0 ∧ W.cell? ⟨b1, 1, none⟩ = some v1 ∧ W.cell? ⟨b1, 2, none⟩ = some v2 ∧ W.cell? ⟨b1, 3, none⟩ = some v3 ∧ W.cell? ⟨b2, 0, none⟩ = some v4 ∧ W.cell? ⟨b2, 1, none⟩ = some v5 ∧ W.cell? ⟨b2, 2, none⟩ = some v6 ∧ W.cell? ⟨b2, 3, none⟩ = some v7 ∧ Below w.heap.size w W ∧ b2 < W.heap.size) (h12 : b1 < b2) (hb : Below W.heap.size W W') :
    W'.cell? ⟨b1, 0, none⟩ = some v0 ∧ W'.cell? ⟨b1, 1, none⟩ = some v1 ∧ W'.cell? ⟨b1, 2, none⟩ = some v2 ∧ W'.cell? ⟨b1, 3, none⟩ = some v3 ∧ W'.cell? ⟨b2, 0, none⟩ = some v4 ∧ W'.cell? ⟨b2, 1, none⟩ = some v5 ∧ W'.cell? ⟨b2, 2, none⟩ = some v6 ∧ W'.cell? ⟨b2, 3, none⟩ = some v7 ∧ Below w.heap.size w W' ∧ b2 < W'.heap.size := by
  obtain ⟨c0, c1, c2, c3, c4, c5, c6, c7, hB, h2⟩ := hS
  have h1 : b1 < W.heap.size := by omega
  exact ⟨cellB hb h1 c0, cellB hb h1 c1, cellB hb h1 c2, cellB hb h1 c3, cellB hb h2 c4, cellB hb h2 c5, cellB hb h2 c6, cellB hb h2 c7, hB.trans (hb.mono hB.size), by have := hb.size; omega⟩
theorem below8 {w W : World} {b1 b2 : Nat} {v0 v1 v2 v3 v4 v5 v6 v7 : Value} (hS : W.cell? ⟨b1, 0, none⟩ = some v0 ∧ W.cell? ⟨b1, 1, none⟩ = some v1 ∧ W.cell? ⟨b1, 2, none⟩ = some v2 ∧ W.cell? ⟨b1, 3, none⟩ = some v3 ∧ W.cell? ⟨b2, 0, none⟩ = some v4 ∧ W.cell? ⟨b2, 1, none⟩ = some v5 ∧ W.cell? ⟨b2, 2, none⟩ = some v6 ∧ W.cell? ⟨b2, 3, none⟩ = some v7 ∧ Below w.heap.size w W ∧ b2 < W.heap.size) : Below w.heap.size w W := hS.2.2.2.2.2.2.2.2.1
/-- cmp.Or of some numbers. -/
def orL : List Int → Int
  | [] => 0
  | x :: r => if x = 0 then orL r else x
theorem orL_at (xs : List Int) (k : Nat) (h : k < xs.length) : orL (xs.drop k) = if xs[k] = 0 then orL (xs.drop (k + 1)) else xs[k] := by
  rw [List.drop_eq_getElem_cons h]; rfl
set_option maxHeartbeats 1000000 in
theorem orN (xs : List Int) (g : Nat) (w : World) (h1 : 1 ≤ xs.length) (h2 : xs.length ≤ 1000) (hc : ∀ (i : Nat) (h : i < xs.length), w.cell? ⟨g, i, none⟩ = some (.int .i64 xs[i])) :
    Calls Tryz.prog 27 #[.slice (some ⟨g, 0, none⟩) xs.length xs.length] w fun e w' => e = .returned (.int .i64 (orL xs)) ∧ w = w' := by
  have HC := Lib.hid hc
  clear hc
  obtain ⟨n, hn⟩ : ∃ n, xs.length = n := ⟨_, rfl⟩
  rw [hn] at h1 h2 ⊢
  have HN := Lib.hid hn
  clear hn
  go_enter Tryz.func27, Tryz.ntmps27
  go_wp2
  go_loop [8] (fun i => ∃ k : Nat, i = .int .i64 k ∧ k ≤ n ∧ Hid (orL (xs.drop k) = orL xs)) (fun i => n - (intOf i).toNat)
  case atStart => exact ⟨0, rfl, Nat.zero_le _, Lib.hid rfl⟩
  case round =>
    obtain ⟨k, rfl, hk, HO⟩ := hrel
    by_cases hlt : k < n
    · have hl : k < xs.length := by rw [HN.out]; exact hlt
      have hck := HC.out k hl
      have ho := orL_at xs k hl
      rw [HO.out] at ho
      obtain ⟨x, hx⟩ : ∃ x, xs[k] = x := ⟨_, rfl⟩
      rw [hx] at hck ho
      clear hx hl
      by_cases h0 : x = 0
      · subst h0
        have HS := Lib.hid ho
        clear ho
        go_wp2
        go_round
        case rel => exact ⟨k + 1, by go_num, by omega, Lib.hid (by rw [HS.out, if_pos rfl])⟩
        case measure => simp [intOf] <;> omega
      · rw [if_neg h0] at ho
        have HS := Lib.hid ho
        clear ho
        go_wp2
        go_ret
        exact ⟨ret_num HS.out.symm, rfl⟩
    · have HS := Lib.hid (show orL xs = 0 by rw [← HO.out, List.drop_of_length_le (by have := HN.out; omega)]; rfl)
      go_wp2
      go_ret
      exact ⟨ret_num HS.out.symm, rfl⟩
theorem orB_orL (x y z t : Int) : orL [x, y, z, t] = orB x (orB y (orB z t)) := by
  unfold orB
  simp only [orL]
  by_cases h : t = 0
  · subst h; simp
  · simp [h]
theorem orB_orL3 (x y z : Int) : orL [x, y, z] = orB x (orB y z) := by
  unfold orB
  simp only [orL]
  by_cases h : z = 0
  · subst h; simp
  · simp [h]
theorem or4 (x y z t : Int) (g : Nat) (w : World) (h0 : w.cell? ⟨g, 0, none⟩ = some (.int .i64 x)) (h1 : w.cell? ⟨g, 1, none⟩ = some (.int .i64 y)) (h2 : w.cell? ⟨g, 2, none⟩ = some (.int .i64 z)) (h3 : w.cell? ⟨g, 3, none⟩ = some (.int .i64 t)) :
    Calls Tryz.prog 27 #[.slice (some ⟨g, 0, none⟩) 4 4] w fun e w' => e = .returned (.int .i64 (orB x (orB y (orB z t)))) ∧ w = w' := by
  rw [← orB_orL]
  refine orN [x, y, z, t] g w (by simp) (by simp) fun i h => ?_
  match i, h with
  | 0, _ => exact h0
  | 1, _ => exact h1
  | 2, _ => exact h2
  | 3, _ => exact h3
theorem or3 (x y z : Int) (g : Nat) (w : World) (h0 : w.cell? ⟨g, 0, none⟩ = some (.int .i64 x)) (h1 : w.cell? ⟨g, 1, none⟩ = some (.int .i64 y)) (h2 : w.cell? ⟨g, 2, none⟩ = some (.int .i64 z)) :
    Calls Tryz.prog 27 #[.slice (some ⟨g, 0, none⟩) 3 3] w fun e w' => e = .returned (.int .i64 (orB x (orB y z))) ∧ w = w' := by
  rw [← orB_orL3]
  refine orN [x, y, z] g w (by simp) (by simp) fun i h => ?_
  match i, h with
  | 0, _ => exact h0
  | 1, _ => exact h1
  | 2, _ => exact h2

set_option maxRecDepth 100000 in
set_option maxHeartbeats 4000000 in
theorem compare (a b : ByteArray) (ha : a.size ≤ 1048576) (hb : b.size ≤ 1048576) (w : World) : Calls Tryz.prog 29 #[.string a, .string b] w fun e w' => e = .returned (.int .i64 (compareB a b)) ∧ Below w.heap.size w w' := by
  have hp1 := parseB_pre a ha
  have hp2 := parseB_pre b hb
  obtain ⟨⟨M, m, p, pre, me, e⟩, hA⟩ : ∃ r, parseB a = r := ⟨_, rfl⟩
  obtain ⟨⟨M', m', p', pre', me', e'⟩, hB⟩ : ∃ r, parseB b = r := ⟨_, rfl⟩
  have hC : compareB a b = if e = 0 then (if e' = 0 then compareV M m p pre M' m' p' pre' else 1) else (if e' = 0 then -1 else 0) := by unfold compareB; rw [hA, hB]
  rw [hC]
  rw [hA] at hp1
  rw [hB] at hp2
  dsimp only at hp1 hp2
  have HA := Lib.hid hA
  have HB := Lib.hid hB
  clear hA hB hC
  by_cases he : e = 0
  case neg =>
    by_cases he' : e' = 0
    · rw [if_neg he, if_pos he']
      have q1 : (e != 0) = true := by simpa using he
      have q2 : (e' != 0) = false := by simpa using he'
      clear he he'
      go_enter Tryz.func29, Tryz.ntmps29
      go_wp2_with (first
        | (exfalso; rename_i hu _; simp [undef] at hu; done)
        | (go_at_call 54; first | ((with_reducible refine (parseX a ha HA.out _).mono ?_); rintro e1 w1 ⟨rfl, hb1⟩) | ((with_reducible refine (parseX b hb HB.out _).mono ?_); rintro e2 w2 ⟨rfl, hb2⟩; have h0 : w2.heap[w1.heap.size]? = some (.cells #[.int .i64 M, .int .i64 m, .int .i64 p, .string pre, .string me] 72) := (hb2.block _ (by simp)).trans (newAt _ _ _ rfl); have hlt : w1.heap.size < w2.heap.size := (Array.getElem?_eq_some_iff.1 h0).1; have hww : Below w.heap.size w w2 := (hb1.alloc hb1.size _).trans (hb2.mono (by have := hb1.size; simp <;> omega)); have hsz2 : w.heap.size ≤ w2.heap.size := hww.size; have hbf : Below w.heap.size w (w2.alloc (.cells #[.int .i64 M', .int .i64 m', .int .i64 p', .string pre', .string me'] 72)) := hww.alloc hsz2 _; have hne : w1.heap.size ≠ w2.heap.size := (by omega); obtain ⟨⟨p0, p1, p2, p3, p4⟩, f0, f1, f2, f3, f4⟩ := c5 h0)))
      go_ret
      exact ⟨rfl, hbf⟩
    · rw [if_neg he, if_neg he']
      have q1 : (e != 0) = true := by simpa using he
      have q2 : (e' != 0) = true := by simpa using he'
      clear he he'
      go_enter Tryz.func29, Tryz.ntmps29
      go_wp2_with (first
        | (exfalso; rename_i hu _; simp [undef] at hu; done)
        | (go_at_call 54; first | ((with_reducible refine (parseX a ha HA.out _).mono ?_); rintro e1 w1 ⟨rfl, hb1⟩) | ((with_reducible refine (parseX b hb HB.out _).mono ?_); rintro e2 w2 ⟨rfl, hb2⟩; have h0 : w2.heap[w1.heap.size]? = some (.cells #[.int .i64 M, .int .i64 m, .int .i64 p, .string pre, .string me] 72) := (hb2.block _ (by simp)).trans (newAt _ _ _ rfl); have hlt : w1.heap.size < w2.heap.size := (Array.getElem?_eq_some_iff.1 h0).1; have hww : Below w.heap.size w w2 := (hb1.alloc hb1.size _).trans (hb2.mono (by have := hb1.size; simp <;> omega)); have hsz2 : w.heap.size ≤ w2.heap.size := hww.size; have hbf : Below w.heap.size w (w2.alloc (.cells #[.int .i64 M', .int .i64 m', .int .i64 p', .string pre', .string me'] 72)) := hww.alloc hsz2 _; have hne : w1.heap.size ≠ w2.heap.size := (by omega); obtain ⟨⟨p0, p1, p2, p3, p4⟩, f0, f1, f2, f3, f4⟩ := c5 h0)))
      go_ret
      exact ⟨rfl, hbf⟩
  by_cases he' : e' = 0
  case neg =>
    rw [if_pos he, if_neg he']
    have q1 : (e != 0) = false := by simpa using he
    have q2 : (e' != 0) = true := by simpa using he'
    clear he he'
    go_enter Tryz.func29, Tryz.ntmps29
    go_wp2_with (first
      | (exfalso; rename_i hu _; simp [undef] at hu; done)
      | (go_at_call 54; first | ((with_reducible refine (parseX a ha HA.out _).mono ?_); rintro e1 w1 ⟨rfl, hb1⟩) | ((with_reducible refine (parseX b hb HB.out _).mono ?_); rintro e2 w2 ⟨rfl, hb2⟩; have h0 : w2.heap[w1.heap.size]? = some (.cells #[.int .i64 M, .int .i64 m, .int .i64 p, .string pre, .string me] 72) := (hb2.block _ (by simp)).trans (newAt _ _ _ rfl); have hlt : w1.heap.size < w2.heap.size := (Array.getElem?_eq_some_iff.1 h0).1; have hww : Below w.heap.size w w2 := (hb1.alloc hb1.size _).trans (hb2.mono (by have := hb1.size; simp <;> omega)); have hsz2 : w.heap.size ≤ w2.heap.size := hww.size; have hbf : Below w.heap.size w (w2.alloc (.cells #[.int .i64 M', .int .i64 m', .int .i64 p', .string pre', .string me'] 72)) := hww.alloc hsz2 _; have hne : w1.heap.size ≠ w2.heap.size := (by omega); obtain ⟨⟨p0, p1, p2, p3, p4⟩, f0, f1, f2, f3, f4⟩ := c5 h0)))
    go_ret
    exact ⟨rfl, hbf⟩
  rw [if_pos he, if_pos he']
  have q1 : (e != 0) = false := by simpa using he
  have q2 : (e' != 0) = false := by simpa using he'
  clear he he'
  go_enter Tryz.func29, Tryz.ntmps29
  go_wp2_with (first
    | (exfalso; rename_i hu _; simp [undef] at hu; done)
    | (go_at_call 54; first | ((with_reducible refine (parseX a ha HA.out _).mono ?_); rintro e1 w1 ⟨rfl, hb1⟩) | ((with_reducible refine (parseX b hb HB.out _).mono ?_); rintro e2 w2 ⟨rfl, hb2⟩; have h0 : w2.heap[w1.heap.size]? = some (.cells #[.int .i64 M, .int .i64 m, .int .i64 p, .string pre, .string me] 72) := (hb2.block _ (by simp)).trans (newAt _ _ _ rfl); have hlt : w1.heap.size < w2.heap.size := (Array.getElem?_eq_some_iff.1 h0).1; have hww : Below w.heap.size w w2 := (hb1.alloc hb1.size _).trans (hb2.mono (by have := hb1.size; simp <;> omega)); have hsz2 : w.heap.size ≤ w2.heap.size := hww.size; have hbf : Below w.heap.size w (w2.alloc (.cells #[.int .i64 M', .int .i64 m', .int .i64 p', .string pre', .string me'] 72)) := hww.alloc hsz2 _; have hne : w1.heap.size ≠ w2.heap.size := (by omega); obtain ⟨⟨p0, p1, p2, p3, p4⟩, f0, f1, f2, f3, f4⟩ := c5 h0)))
  go_region_held3 (fun w' => w'.cell? ⟨w1.heap.size, 0, none⟩ = some (.int .i64 M) ∧ w'.cell? ⟨w1.heap.size, 1, none⟩ = some (.int .i64 m) ∧ w'.cell? ⟨w1.heap.size, 2, none⟩ = some (.int .i64 p) ∧ w'.cell? ⟨w1.heap.size, 3, none⟩ = some (.string pre) ∧
      w'.cell? ⟨w2.heap.size, 0, none⟩ = some (.int .i64 M') ∧ w'.cell? ⟨w2.heap.size, 1, none⟩ = some (.int .i64 m') ∧ w'.cell? ⟨w2.heap.size, 2, none⟩ = some (.int .i64 p') ∧ w'.cell? ⟨w2.heap.size, 3, none⟩ = some (.string pre') ∧ Below w.heap.size w w' ∧ w2.heap.size < w'.heap.size)
    (first
      | assumption
      | exact keep8 ‹_› hlt hb3
      | exact keep8 ‹_› hlt ((Below.refl _ _).alloc (Nat.le_refl _) _)
      | (refine ⟨?_, ?_, ?_, ?_, ?_, ?_, ?_, ?_, pw_drewN hbf 1, ?_⟩ <;> (go_keep; done)))
    (first
      | (go_at_call 55; refine (cmpI _ _ _).mono ?_; rintro e w' ⟨rfl, rfl⟩)
      | (go_at_call 56; refine (orderPre pre pre' hp1 hp2 _).mono ?_; rintro e w3 ⟨rfl, hb3⟩)
      | (go_at_call 27; refine (or4 (Lib.compareInt M M') (Lib.compareInt m m') (Lib.compareInt p p') (orderPreB pre pre') _ _ (by simp) (by simp) (by simp) (by simp)).mono ?_; rintro e w4 ⟨rfl, rfl⟩))
  go_wp2
  go_ret
  exact ⟨rfl, below8 (by assumption)⟩
end Go.Proofs.YtcfmaeonginefaaGreatDoor.Compare

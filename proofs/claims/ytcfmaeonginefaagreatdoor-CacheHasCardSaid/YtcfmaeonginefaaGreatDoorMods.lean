/- graftbedlaw07: shown, CacheMods: what they answer. -/
import Derived.Test.YtcfmaeonginefaaGreatDoorKnown
import Derived.IntWalk
namespace Go.Proofs.YtcfmaeonginefaaGreatDoor.Mods
open Go Go.RowKit Go.Shelf Go.Proofs.YtcfmaeonginefaaGreatDoor.Seq Go.Proofs.YtcfmaeonginefaaGreatDoor.Cut Go.Proofs.YtcfmaeonginefaaGreatDoor.Elems Go.Proofs.YtcfmaeonginefaaGreatDoor.Paths Go.Proofs.YtcfmaeonginefaaGreatDoor.Made Go.Proofs.YtcfmaeonginefaaGreatDoor.Parse Go.Proofs.YtcfmaeonginefaaGreatDoor.Order Go.Proofs.YtcfmaeonginefaaGreatDoor.Order3 Go.Proofs.YtcfmaeonginefaaGreatDoor.Compare Go.Proofs.YtcfmaeonginefaaGreatDoor.Cmp Go.Proofs.YtcfmaeonginefaaGreatDoor.Local Go.Proofs.YtcfmaeonginefaaGreatDoor.At7 Go.Proofs.YtcfmaeonginefaaGreatDoor.Order7 Go.Proofs.YtcfmaeonginefaaGreatDoor.Known
set_option linter.unusedSimpArgs false
set_option linter.unusedVariables false

theorem at_ab : atB ⟨#[97]⟩ ⟨#[98]⟩ = ⟨#[97, 64, 98]⟩ := by decide +kernel
theorem known_a : knownB ⟨#[97]⟩ ⟨#[]⟩ = 10 := by
  have e : localB ⟨#[97]⟩ = false := by
    unfold localB
    have h : st ⟨#[97]⟩ = ⟨#[97]⟩ := st_id (by decide +kernel) (by decide +kernel)
    rw [h]
    simp
  unfold knownB
  rw [if_pos (by decide +kernel), e]
  rfl
set_option maxRecDepth 100000 in
set_option maxHeartbeats 4000000 in
theorem shown (w : World) : Calls Tryz.prog 8 #[] w fun e w' => e = .returned (.bool true) ∧ Below w.heap.size w w' := by
  have HA := Lib.hid at_ab
  have HK := Lib.hid known_a
  go_enter Tryz.func8, Tryz.ntmps8
  go_wp2_with (first
    | (go_at_call 10; refine (at_ ⟨#[97]⟩ ⟨#[98]⟩ (by decide) (by decide) _).mono ?_; rw [HA.out]; rintro e w1 ⟨rfl, hb1⟩)
    | (go_at_call 12; refine (known ⟨#[97]⟩ ⟨#[]⟩ (by decide) (by decide) _).mono ?_; rw [HK.out]; rintro e w2 ⟨rfl, hb2⟩))
  go_ret
  exact ⟨rfl, hb1.trans (hb2.mono hb1.size)⟩

/-- Three modules in boxes, one behind the other. -/
def M6 (w : World) (p v q u r x : ByteArray) (W : World) : Prop :=
  W.cell? ⟨w.heap.size, 0, none⟩ = some (.string p) ∧ W.cell? ⟨w.heap.size, 1, none⟩ = some (.string v) ∧ W.cell? ⟨w.heap.size + 1, 0, none⟩ = some (.string q) ∧ W.cell? ⟨w.heap.size + 1, 1, none⟩ = some (.string u) ∧
  W.cell? ⟨w.heap.size + 1 + 1, 0, none⟩ = some (.string r) ∧ W.cell? ⟨w.heap.size + 1 + 1, 1, none⟩ = some (.string x) ∧ Below w.heap.size w W ∧ w.heap.size + 1 + 1 < W.heap.size
theorem m6_new (w : World) (p v q u r x : ByteArray) (t : TypeId) : M6 w p v q u r x (((w.alloc (.cells #[.string p, .string v] t)).alloc (.cells #[.string q, .string u] t)).alloc (.cells #[.string r, .string x] t)) := by
  obtain ⟨c0, c1, c2, c3, hb, hs⟩ := m4_new w p v q u t
  obtain ⟨W, hW⟩ : ∃ W, (w.alloc (.cells #[.string p, .string v] t)).alloc (.cells #[.string q, .string u] t) = W := ⟨_, rfl⟩
  have hz : W.heap.size = w.heap.size + 1 + 1 := by rw [← hW]; simp
  rw [hW] at c0 c1 c2 c3 hb hs ⊢
  have hA : Below W.heap.size W (W.alloc (.cells #[.string r, .string x] t)) := (Below.refl _ _).alloc (Nat.le_refl _) _
  have g := cells2 (V := (W.alloc (.cells #[.string r, .string x] t))) (newAt W _ (w.heap.size + 1 + 1) hz)
  exact ⟨cellB hA (by omega) c0, cellB hA (by omega) c1, cellB hA (by omega) c2, cellB hA (by omega) c3, g.1, g.2, hb.trans (hA.mono hb.size), by simp; omega⟩
theorem m6_keep {w W W' : World} {p v q u r x : ByteArray} (h : M6 w p v q u r x W) (hb : Below W.heap.size W W') : M6 w p v q u r x W' := by
  obtain ⟨c0, c1, c2, c3, c4, c5, hB, h2⟩ := h
  have h1 : w.heap.size < W.heap.size := by omega
  have h3 : w.heap.size + 1 < W.heap.size := by omega
  exact ⟨cellB hb h1 c0, cellB hb h1 c1, cellB hb h3 c2, cellB hb h3 c3, cellB hb h2 c4, cellB hb h2 c5, hB.trans (hb.mono hB.size), by have := hb.size; omega⟩

/-- The order turned round. -/
theorem modB_neg (a b : ByteArray × ByteArray) : modB b a = - modB a b := cmp_mod.anti a b

set_option maxRecDepth 100000 in
set_option maxHeartbeats 8000000 in
theorem mods (p v q u r x : ByteArray) (w : World) : Calls Tryz.prog 3 #[.agg #[.string p, .string v], .agg #[.string q, .string u], .agg #[.string r, .string x]] w fun e w' => e = .returned (.bool true) ∧ Below w.heap.size w w' := by
  have h0 := m6_new w p v q u r x 23
  have hb0 := h0.2.2.2.2.2.2.1
  by_cases g0 : (1024 : Int) < p.size
  · go_enter Tryz.func3, Tryz.ntmps3
    go_wp2_with (first
      | (exfalso; rename_i hu _; simp [undef] at hu; done)
      | (go_at_call 8; refine (shown _).mono ?_; rintro e w1 ⟨rfl, hb1⟩))
    go_ret
    exact ⟨rfl, hb0.trans (hb1.mono hb0.size)⟩
  by_cases g1 : (1024 : Int) < v.size
  · go_enter Tryz.func3, Tryz.ntmps3
    go_wp2_with (first
      | (exfalso; rename_i hu _; simp [undef] at hu; done)
      | (go_at_call 8; refine (shown _).mono ?_; rintro e w1 ⟨rfl, hb1⟩))
    go_ret
    exact ⟨rfl, hb0.trans (hb1.mono hb0.size)⟩
  by_cases g2 : (1024 : Int) < q.size
  · go_enter Tryz.func3, Tryz.ntmps3
    go_wp2_with (first
      | (exfalso; rename_i hu _; simp [undef] at hu; done)
      | (go_at_call 8; refine (shown _).mono ?_; rintro e w1 ⟨rfl, hb1⟩))
    go_ret
    exact ⟨rfl, hb0.trans (hb1.mono hb0.size)⟩
  by_cases g3 : (1024 : Int) < u.size
  · go_enter Tryz.func3, Tryz.ntmps3
    go_wp2_with (first
      | (exfalso; rename_i hu _; simp [undef] at hu; done)
      | (go_at_call 8; refine (shown _).mono ?_; rintro e w1 ⟨rfl, hb1⟩))
    go_ret
    exact ⟨rfl, hb0.trans (hb1.mono hb0.size)⟩
  by_cases g4 : (1024 : Int) < r.size
  · go_enter Tryz.func3, Tryz.ntmps3
    go_wp2_with (first
      | (exfalso; rename_i hu _; simp [undef] at hu; done)
      | (go_at_call 8; refine (shown _).mono ?_; rintro e w1 ⟨rfl, hb1⟩))
    go_ret
    exact ⟨rfl, hb0.trans (hb1.mono hb0.size)⟩
  by_cases g5 : (1024 : Int) < x.size
  · go_enter Tryz.func3, Tryz.ntmps3
    go_wp2_with (first
      | (exfalso; rename_i hu _; simp [undef] at hu; done)
      | (go_at_call 8; refine (shown _).mono ?_; rintro e w1 ⟨rfl, hb1⟩))
    go_ret
    exact ⟨rfl, hb0.trans (hb1.mono hb0.size)⟩
  have hp : p.size ≤ 1048576 := by omega
  have hv : v.size ≤ 1048576 := by omega
  have hq : q.size ≤ 1048576 := by omega
  have hu : u.size ≤ 1048576 := by omega
  have hr : r.size ≤ 1048576 := by omega
  have hx : x.size ≤ 1048576 := by omega
  obtain ⟨n, hn⟩ : ∃ n, modB (p, v) (q, u) = n := ⟨_, rfl⟩
  have HN := Lib.hid hn
  have HNN := Lib.hid (show modB (q, u) (p, v) = -n by rw [modB_neg, hn])
  have hbd := cmp_mod.bd (p, v) (q, u)
  rw [hn] at hbd
  clear hn
  go_enter Tryz.func3, Tryz.ntmps3
  go_wp2_with (first
    | (exfalso; rename_i hu _; simp [undef] at hu; done)
    | (go_at_call 9; refine (order p v q u hp hv hq hu _).mono ?_; rw [HN.out]; rintro e w1 ⟨rfl, hb1⟩; have k1 := m6_keep h0 hb1))
  have k1d := m6_keep k1 (pw_drewN (Below.refl _ _) 1)
  have hw1 : IntKind.i64.wrap (-n) = -n := IntWalk.i64_in _ (by omega)
  go_region_held3 (fun w' => w'.cell? ⟨w.heap.size, 0, none⟩ = some (.string p) ∧ w'.cell? ⟨w.heap.size, 1, none⟩ = some (.string v) ∧ w'.cell? ⟨w.heap.size + 1, 0, none⟩ = some (.string q) ∧ w'.cell? ⟨w.heap.size + 1, 1, none⟩ = some (.string u) ∧
      w'.cell? ⟨w.heap.size + 1 + 1, 0, none⟩ = some (.string r) ∧ w'.cell? ⟨w.heap.size + 1 + 1, 1, none⟩ = some (.string x) ∧ Below w.heap.size w w' ∧ w.heap.size + 1 + 1 < w'.heap.size)
    (first
      | assumption
      | exact m6_keep ‹_› hb2
      | exact k1d)
    (first
      | (go_at_call 10; refine (at_ p v hp hv _).mono ?_; rintro e w2 ⟨rfl, hb2⟩)
      | (go_at_call 11; refine (at7 p v hp hv _).mono ?_; rintro e w2 ⟨rfl, hb2⟩)
      | (go_at_call 12; refine (known p v hp hv _).mono ?_; rintro e w2 ⟨rfl, hb2⟩)
      | (go_at_call 13; refine (known7 p v hp hv _).mono ?_; rintro e w2 ⟨rfl, hb2⟩)
      | (go_at_call 9; refine (order q u p v hq hu hp hv _).mono ?_; rw [HNN.out]; rintro e w2 ⟨rfl, hb2⟩)
      | (go_at_call 14; refine (order7 p v q u hp hv hq hu _).mono ?_; rw [HN.out]; rintro e w2 ⟨rfl, hb2⟩))
  have k2 : M6 w p v q u r x w2 := by assumption
  obtain ⟨c0, c1, c2, c3, c4, c5, hbw, hsz⟩ := id k2
  obtain ⟨k, hk⟩ : ∃ k, modB (q, u) (r, x) = k := ⟨_, rfl⟩
  obtain ⟨l, hl⟩ : ∃ l, modB (p, v) (r, x) = l := ⟨_, rfl⟩
  have HKK := Lib.hid hk
  have HLL := Lib.hid hl
  have htr : n ≤ 0 → k ≤ 0 → l ≤ 0 := fun h1 h2 => by rw [← hl]; exact cmp_mod.tr (p, v) (q, u) (r, x) (by rw [HN.out]; exact h1) (by rw [hk]; exact h2)
  clear hk hl
  have hE : (n = 0 ∧ p.toList = q.toList ∧ v.toList = u.toList) ∨ (¬ n = 0 ∧ p.toList = q.toList ∧ ¬ v.toList = u.toList) ∨ (¬ n = 0 ∧ ¬ p.toList = q.toList) := by
    by_cases e : n = 0
    · have := modB_zero (by rw [HN.out]; exact e)
      cases this
      exact .inl ⟨e, rfl, rfl⟩
    · by_cases e1 : p.toList = q.toList
      · by_cases e2 : v.toList = u.toList
        · exfalso
          apply e
          rw [← HN.out, ba_eq (show (p.toList == q.toList) = true by simpa using e1), ba_eq (show (v.toList == u.toList) = true by simpa using e2)]
          exact cmp_mod.refl _
        · exact .inr (.inl ⟨e, e1, e2⟩)
      · exact .inr (.inr ⟨e, e1⟩)
  have hO : (¬ n ≤ 0) ∨ (n ≤ 0 ∧ ¬ k ≤ 0) ∨ (n ≤ 0 ∧ k ≤ 0 ∧ ¬ 0 < l) := by
    by_cases h1 : n ≤ 0
    · by_cases h2 : k ≤ 0
      · exact .inr (.inr ⟨h1, h2, by have := htr h1 h2; omega⟩)
      · exact .inr (.inl ⟨h1, h2⟩)
    · exact .inl h1
  clear htr
  rcases hE with ⟨e0, e1, e2⟩ | ⟨e0, e1, e2⟩ | ⟨e0, e1⟩
  case' inl => subst e0
  case' inr.inl => (have e3 : (n == 0) = false := by simpa using e0); clear e0
  case' inr.inr => (have e3 : (n == 0) = false := by simpa using e0); clear e0
  all_goals
    rcases hO with o1 | ⟨o1, o2⟩ | ⟨o1, o2, o3⟩
    all_goals
      first
        | (exfalso; omega)
        | (go_wp2_with (first
             | (exfalso; rename_i hu _; simp [undef] at hu; done)
             | (go_at_call 9; first | ((with_reducible refine (order q u r x hq hu hr hx _).mono ?_); rw [HKK.out]; rintro e w3 ⟨rfl, hb3⟩; have k3 := m6_keep k2 hb3; obtain ⟨b0, b1, b2, b3, b4, b5, hbx, hsx⟩ := id k3) | ((with_reducible refine (order p v r x hp hv hr hx _).mono ?_); rw [HLL.out]; rintro e w4 ⟨rfl, hb4⟩; have k4 := m6_keep k3 hb4; obtain ⟨a0, a1, a2, a3, a4, a5, hby, hsy⟩ := id k4))
             | (go_at_call 8; refine (shown _).mono ?_; rintro e w5 ⟨rfl, hb5⟩))
           go_ret
           first
             | exact ⟨ret_bool rfl, hby.trans (hb5.mono hby.size)⟩
             | exact ⟨ret_bool rfl, hbx.trans (hb5.mono hbx.size)⟩
             | exact ⟨ret_bool rfl, hbw.trans (hb5.mono hbw.size)⟩
             | exact ⟨ret_bool (by simp [e3]), hby.trans (hb5.mono hby.size)⟩
             | exact ⟨ret_bool (by simp [e3]), hbx.trans (hb5.mono hbx.size)⟩
             | exact ⟨ret_bool (by simp [e3]), hbw.trans (hb5.mono hbw.size)⟩)
end Go.Proofs.YtcfmaeonginefaaGreatDoor.Mods

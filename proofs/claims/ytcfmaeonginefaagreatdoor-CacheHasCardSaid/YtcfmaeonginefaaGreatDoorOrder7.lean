/- cache.Order, graftbedref07.Order: what they answer. -/
import Derived.Test.YtcfmaeonginefaaGreatDoorPathCmp
import Derived.Test.YtcfmaeonginefaaGreatDoorCompare
namespace Go.Proofs.YtcfmaeonginefaaGreatDoor.Order7
open Go Go.RowKit Go.Shelf Go.Proofs.YtcfmaeonginefaaGreatDoor.Seq Go.Proofs.YtcfmaeonginefaaGreatDoor.Cut Go.Proofs.YtcfmaeonginefaaGreatDoor.Elems Go.Proofs.YtcfmaeonginefaaGreatDoor.Paths Go.Proofs.YtcfmaeonginefaaGreatDoor.Made Go.Proofs.YtcfmaeonginefaaGreatDoor.Order Go.Proofs.YtcfmaeonginefaaGreatDoor.Order3 Go.Proofs.YtcfmaeonginefaaGreatDoor.Parse Go.Proofs.YtcfmaeonginefaaGreatDoor.Compare3 Go.Proofs.YtcfmaeonginefaaGreatDoor.Compare Go.Proofs.YtcfmaeonginefaaGreatDoor.Cmp Go.Proofs.YtcfmaeonginefaaGreatDoor.PathCmp
set_option linter.unusedSimpArgs false
set_option linter.unusedVariables false

theorem cells2 {V : World} {b : Nat} {t : TypeId} {a0 a1 : Value} (g : V.heap[b]? = some (.cells #[a0, a1] t)) : V.cell? ⟨b, 0, none⟩ = some a0 ∧ V.cell? ⟨b, 1, none⟩ = some a1 := by
  constructor <;> simp [World.cell?, g]
/-- Two modules in boxes, one behind the other. -/
def M4 (w : World) (p v q u : ByteArray) (W : World) : Prop :=
  W.cell? ⟨w.heap.size, 0, none⟩ = some (.string p) ∧ W.cell? ⟨w.heap.size, 1, none⟩ = some (.string v) ∧ W.cell? ⟨w.heap.size + 1, 0, none⟩ = some (.string q) ∧ W.cell? ⟨w.heap.size + 1, 1, none⟩ = some (.string u) ∧ Below w.heap.size w W ∧ w.heap.size + 1 < W.heap.size
theorem m4_new (w : World) (p v q u : ByteArray) (t : TypeId) : M4 w p v q u ((w.alloc (.cells #[.string p, .string v] t)).alloc (.cells #[.string q, .string u] t)) := by
  have g1 : ((w.alloc (.cells #[.string p, .string v] t)).alloc (.cells #[.string q, .string u] t)).heap[w.heap.size]? = some (.cells #[.string p, .string v] t) := (Below.heap_alloc _ _ _ (by simp)).trans (World.alloc_heap_new w _)
  have g2 : ((w.alloc (.cells #[.string p, .string v] t)).alloc (.cells #[.string q, .string u] t)).heap[w.heap.size + 1]? = some (.cells #[.string q, .string u] t) := newAt _ _ _ (by simp)
  exact ⟨(cells2 g1).1, (cells2 g1).2, (cells2 g2).1, (cells2 g2).2, ((Below.refl _ w).alloc (Nat.le_refl _) _).alloc (by simp) _, by simp⟩
theorem m4_keep {w W W' : World} {p v q u : ByteArray} (h : M4 w p v q u W) (hb : Below W.heap.size W W') : M4 w p v q u W' := by
  obtain ⟨c0, c1, c2, c3, hB, h2⟩ := h
  have h1 : w.heap.size < W.heap.size := by omega
  exact ⟨cellB hb h1 c0, cellB hb h1 c1, cellB hb h2 c2, cellB hb h2 c3, hB.trans (hb.mono hB.size), by have := hb.size; omega⟩
theorem m4_drew {w W : World} {p v q u : ByteArray} (h : M4 w p v q u W) (n : Nat) : M4 w p v q u (W.drewN n) := m4_keep h (pw_drewN (Below.refl _ _) n)

set_option maxRecDepth 100000 in
set_option maxHeartbeats 4000000 in
theorem order (p v q u : ByteArray) (hp : p.size ≤ 1048576) (hv : v.size ≤ 1048576) (hq : q.size ≤ 1048576) (hu : u.size ≤ 1048576) (w : World) :
    Calls Tryz.prog 9 #[.agg #[.string p, .string v], .agg #[.string q, .string u]] w fun e w' => e = .returned (.int .i64 (modB (p, v) (q, u))) ∧ Below w.heap.size w w' := by
  have h0 := m4_drew (m4_new w p v q u 23) 1
  go_enter Tryz.func9, Tryz.ntmps9
  go_wp2
  go_region_held3 (fun w' => w'.cell? ⟨w.heap.size, 0, none⟩ = some (.string p) ∧ w'.cell? ⟨w.heap.size, 1, none⟩ = some (.string v) ∧ w'.cell? ⟨w.heap.size + 1, 0, none⟩ = some (.string q) ∧ w'.cell? ⟨w.heap.size + 1, 1, none⟩ = some (.string u) ∧ Below w.heap.size w w' ∧ w.heap.size + 1 < w'.heap.size)
    (first
      | assumption
      | exact m4_keep ‹_› hb1
      | exact m4_keep ‹_› ((Below.refl _ _).alloc (Nat.le_refl _) _)
      | exact h0)
    (first
      | (go_at_call 28; refine (pathCompare p q hp hq _).mono ?_; rintro e w1 ⟨rfl, hb1⟩)
      | (go_at_call 29; refine (Compare.compare v u hv hu _).mono ?_; rintro e w1 ⟨rfl, hb1⟩)
      | (go_at_call 30; refine (compareS v u _).mono ?_; rintro e w1 ⟨rfl, rfl⟩)
      | (go_at_call 27; refine (or3 (pathB p q) (compareB v u) (cmpB v u) _ _ (by simp) (by simp) (by simp)).mono ?_; rintro e w4 ⟨rfl, rfl⟩))
  go_wp2
  go_ret
  exact ⟨rfl, (show M4 w p v q u _ from by assumption).2.2.2.2.1⟩

theorem modB_p {p v q u : ByteArray} (h : ¬ pathB p q = 0) : modB (p, v) (q, u) = pathB p q := by unfold modB; show orB (pathB p q) _ = _; unfold orB; rw [if_neg h]
theorem modB_v {p v q u : ByteArray} (h1 : pathB p q = 0) (h : ¬ compareB v u = 0) : modB (p, v) (q, u) = compareB v u := by unfold modB; show orB (pathB p q) (orB (compareB v u) _) = _; rw [h1]; unfold orB; rw [if_pos rfl, if_neg h]
theorem modB_t {p v q u : ByteArray} (h1 : pathB p q = 0) (h : compareB v u = 0) : modB (p, v) (q, u) = cmpB v u := by unfold modB; show orB (pathB p q) (orB (compareB v u) _) = _; rw [h1, h]; rfl

set_option maxRecDepth 100000 in
set_option maxHeartbeats 4000000 in
theorem order7 (p v q u : ByteArray) (hp : p.size ≤ 1048576) (hv : v.size ≤ 1048576) (hq : q.size ≤ 1048576) (hu : u.size ≤ 1048576) (w : World) :
    Calls Tryz.prog 14 #[.agg #[.string p, .string v], .agg #[.string q, .string u]] w fun e w' => e = .returned (.int .i64 (modB (p, v) (q, u))) ∧ Below w.heap.size w w' := by
  have h0 := m4_new w p v q u 23
  by_cases e1 : pathB p q = 0
  case neg =>
    rw [modB_p e1]
    have z1 : (pathB p q == 0) = false := by simpa using e1
    have z2 : (pathB p q != 0) = true := by simpa using e1
    clear e1
    go_enter Tryz.func14, Tryz.ntmps14
    go_wp2_with (first
        | (go_at_call 39; refine (compare01 p q hp hq _).mono ?_; rintro e w1 ⟨rfl, hb1⟩; obtain ⟨c0, c1, c2, c3, hbw, hsz⟩ := m4_keep h0 hb1; have k1 : M4 w p v q u w1 := ⟨c0, c1, c2, c3, hbw, hsz⟩)
        | (go_at_call 40; refine (compare3 v u hv hu _).mono ?_; rintro e w2 ⟨rfl, hb2⟩; obtain ⟨d0, d1, d2, d3, hbx, hsy⟩ := m4_keep k1 hb2))
    go_ret
    exact ⟨rfl, hbw⟩
  by_cases e2 : compareB v u = 0
  case neg =>
    rw [modB_v e1 e2]
    have E1 := Lib.hid e1
    have z2 : (compareB v u != 0) = true := by simpa using e2
    clear e1 e2
    go_enter Tryz.func14, Tryz.ntmps14
    go_wp2_with (first
        | (go_at_call 39; refine (compare01 p q hp hq _).mono ?_; rw [E1.out]; rintro e w1 ⟨rfl, hb1⟩; obtain ⟨c0, c1, c2, c3, hbw, hsz⟩ := m4_keep h0 hb1; have k1 : M4 w p v q u w1 := ⟨c0, c1, c2, c3, hbw, hsz⟩)
        | (go_at_call 40; refine (compare3 v u hv hu _).mono ?_; rintro e w2 ⟨rfl, hb2⟩; obtain ⟨d0, d1, d2, d3, hbx, hsy⟩ := m4_keep k1 hb2))
    go_ret
    exact ⟨rfl, hbx⟩
  rw [modB_t e1 e2]
  have E1 := Lib.hid e1
  have E2 := Lib.hid e2
  clear e1 e2
  cases o3 : v.toList == u.toList with
  | true =>
    have r : cmpB v u = 0 := by rw [ba_eq o3, cmpB_self]
    rw [r]
    clear r
    go_enter Tryz.func14, Tryz.ntmps14
    go_wp2_with (first
        | (go_at_call 39; refine (compare01 p q hp hq _).mono ?_; rw [E1.out]; rintro e w1 ⟨rfl, hb1⟩; obtain ⟨c0, c1, c2, c3, hbw, hsz⟩ := m4_keep h0 hb1; have k1 : M4 w p v q u w1 := ⟨c0, c1, c2, c3, hbw, hsz⟩)
        | (go_at_call 40; refine (compare3 v u hv hu _).mono ?_; rw [E2.out]; rintro e w2 ⟨rfl, hb2⟩; obtain ⟨d0, d1, d2, d3, hbx, hsy⟩ := m4_keep k1 hb2))
    go_ret
    exact ⟨rfl, hbx⟩
  | false =>
    have r := cmpB_ne o3
    cases o1 : Op.bytesLess v.toList u.toList with
    | true =>
      rw [r, if_pos o1]
      clear r
      go_enter Tryz.func14, Tryz.ntmps14
      go_wp2_with (first
          | (go_at_call 39; refine (compare01 p q hp hq _).mono ?_; rw [E1.out]; rintro e w1 ⟨rfl, hb1⟩; obtain ⟨c0, c1, c2, c3, hbw, hsz⟩ := m4_keep h0 hb1; have k1 : M4 w p v q u w1 := ⟨c0, c1, c2, c3, hbw, hsz⟩)
          | (go_at_call 40; refine (compare3 v u hv hu _).mono ?_; rw [E2.out]; rintro e w2 ⟨rfl, hb2⟩; obtain ⟨d0, d1, d2, d3, hbx, hsy⟩ := m4_keep k1 hb2))
      go_ret
      exact ⟨rfl, hbx⟩
    | false =>
      rw [r, if_neg (by rw [o1]; exact Bool.false_ne_true)]
      clear r
      go_enter Tryz.func14, Tryz.ntmps14
      go_wp2_with (first
          | (go_at_call 39; refine (compare01 p q hp hq _).mono ?_; rw [E1.out]; rintro e w1 ⟨rfl, hb1⟩; obtain ⟨c0, c1, c2, c3, hbw, hsz⟩ := m4_keep h0 hb1; have k1 : M4 w p v q u w1 := ⟨c0, c1, c2, c3, hbw, hsz⟩)
          | (go_at_call 40; refine (compare3 v u hv hu _).mono ?_; rw [E2.out]; rintro e w2 ⟨rfl, hb2⟩; obtain ⟨d0, d1, d2, d3, hbx, hsy⟩ := m4_keep k1 hb2))
      go_ret
      exact ⟨rfl, hbx⟩
end Go.Proofs.YtcfmaeonginefaaGreatDoor.Order7

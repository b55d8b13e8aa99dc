/- tags.Check: what it answers. -/
import Derived.Test.YtcfmaeonginefaaDoorHas
import Derived.Test.YtcfmaeonginefaaDoorRefImp
namespace Go.Proofs.YtcfmaeonginefaaDoor.Check
open Go Go.RowKit Go.Shelf Go.Maps Go.Proofs.YtcfmaeonginefaaDoor.Made Go.Proofs.YtcfmaeonginefaaDoor.Import Go.Proofs.YtcfmaeonginefaaDoor.Base Go.Proofs.YtcfmaeonginefaaDoor.Sets Go.Proofs.YtcfmaeonginefaaDoor.Of Go.Proofs.YtcfmaeonginefaaDoor.Each Go.Proofs.YtcfmaeonginefaaDoor.Tag Go.Proofs.YtcfmaeonginefaaDoor.Has
set_option linter.unusedSimpArgs false
set_option linter.unusedVariables false

/-- Of the law's bounds. -/
def Fit (xs : List ByteArray) : Prop := xs.length ≤ 40 ∧ ∀ x ∈ xs, x.size ≤ 100
theorem fit_big {xs : List ByteArray} (h : Fit xs) : xs.length ≤ 1048577 ∧ ∀ x ∈ xs, x.size ≤ 1048576 := ⟨by have := h.1; omega, fun x hx => by have := h.2 x hx; omega⟩
theorem fit3 {xs ys zs : List ByteArray} (fa : Fit xs) (fb : Fit ys) (fc : Fit zs) (s : ByteArray) (h : s ∈ xs ++ (ys ++ zs)) : s.size ≤ 100 := by
  rcases List.mem_append.1 h with h | h
  · exact fa.2 s h
  · rcases List.mem_append.1 h with h | h
    · exact fb.2 s h
    · exact fc.2 s h
theorem cell_new (w : World) (cs : Array Value) (e : TypeId) (i : Nat) (v : Value) (h : cs[i]? = some v) : (w.alloc (.cells cs e)).cell? ⟨w.heap.size, i, none⟩ = some v := by
  simp only [World.cell?]
  rw [newAt w (.cells cs e) w.heap.size rfl]
  simpa using h
theorem below_alloc (w : World) (o : Obj) : Below w.heap.size w (w.alloc o) := (Below.refl _ w).alloc (Nat.le_refl _) o
theorem alloc_size (w : World) (o : Obj) : (w.alloc o).heap.size = w.heap.size + 1 := by simp

theorem of3 (e : TypeId) {a b c : Value} {xs ys zs : List ByteArray} (w : World) (B : Nat) (hBw : w.heap.size = B) (ha : Rq w a xs) (hb : Rq w b ys) (hc : Rq w c zs) (fa : Fit xs) (fb : Fit ys) (fc : Fit zs) :
    Calls Tryd.prog 29 #[.slice (some ⟨B, 0, none⟩) 3 3] (w.alloc (.cells #[a, b, c] e)) fun r w' =>
      r = .returned (.tuple #[.map (some (B + 1)), .bool (dupB (xs ++ (ys ++ zs)))]) ∧ SetIs w' (B + 1) (xs ++ (ys ++ zs)).length (xs ++ (ys ++ zs)) ∧ Below w.heap.size w w' ∧ B + 1 < w'.heap.size := by
  subst hBw
  have hB := below_alloc w (.cells #[a, b, c] e)
  have := of_ w.heap.size 3 [a, b, c] [xs, ys, zs] (w.alloc (.cells #[a, b, c] e)) rfl (by simp) (fun i h => by
      match i, h with
      | 0, _ => exact cell_new _ _ _ _ _ rfl
      | 1, _ => exact cell_new _ _ _ _ _ rfl
      | 2, _ => exact cell_new _ _ _ _ _ rfl) (by rw [alloc_size]; omega) (fun i h1 h2 => by
      match i, h1, h2 with
      | 0, _, _ => exact rq_below ha hB
      | 1, _, _ => exact rq_below hb hB
      | 2, _, _ => exact rq_below hc hB) (fun l hl => by
      simp only [List.mem_cons, List.not_mem_nil, or_false] at hl
      rcases hl with rfl | rfl | rfl
      · exact fit_big fa
      · exact fit_big fb
      · exact fit_big fc)
  rw [show ([xs, ys, zs] : List (List ByteArray)).flatten = xs ++ (ys ++ zs) by simp, alloc_size] at this
  refine this.mono fun r w' ⟨h1, h2, h3⟩ => ⟨h1, h2, hB.trans (h3.mono (by omega)), set_lt h2⟩
theorem of1 (e : TypeId) {a : Value} {xs : List ByteArray} (w : World) (B : Nat) (hBw : w.heap.size = B) (ha : Rq w a xs) (fa : Fit xs) :
    Calls Tryd.prog 29 #[.slice (some ⟨B, 0, none⟩) 1 1] (w.alloc (.cells #[a] e)) fun r w' =>
      r = .returned (.tuple #[.map (some (B + 1)), .bool (dupB xs)]) ∧ SetIs w' (B + 1) xs.length xs ∧ Below w.heap.size w w' ∧ B + 1 < w'.heap.size := by
  subst hBw
  have hB := below_alloc w (.cells #[a] e)
  have := of_ w.heap.size 1 [a] [xs] (w.alloc (.cells #[a] e)) rfl (by simp) (fun i h => by
      match i, h with
      | 0, _ => exact cell_new _ _ _ _ _ rfl) (by rw [alloc_size]; omega) (fun i h1 h2 => by
      match i, h1, h2 with
      | 0, _, _ => exact rq_below ha hB) (fun l hl => by
      simp only [List.mem_cons, List.not_mem_nil, or_false] at hl
      rcases hl with rfl
      exact fit_big fa)
  rw [show ([xs] : List (List ByteArray)).flatten = xs by simp, alloc_size] at this
  refine this.mono fun r w' ⟨h1, h2, h3⟩ => ⟨h1, h2, hB.trans (h3.mono (by omega)), set_lt h2⟩

/-- What it answers. -/
def checkI (OS Un Ar St Re Li : List ByteArray) : Int :=
  if (allB tagT (OS ++ (Ar ++ Re)) && allB (fun s => inL s OS) Un) = false then 1 else if (allB importB St && !inL ⟨#[]⟩ Li) = false then 1 else if dupB (OS ++ (Ar ++ Re)) = true then 52 else 0

set_option maxRecDepth 100000 in
set_option maxHeartbeats 8000000 in
theorem Check (v0 v1 v2 v3 v4 v5 : Value) (OS Un Ar St Re Li : List ByteArray) (w : World) (h0 : Rq w v0 OS) (h1 : Rq w v1 Un) (h2 : Rq w v2 Ar) (h3 : Rq w v3 St) (h4 : Rq w v4 Re) (h5 : Rq w v5 Li)
    (f0 : Fit OS) (f1 : Fit Un) (f2 : Fit Ar) (f3 : Fit St) (f4 : Fit Re) (f5 : Fit Li) :
    Calls Tryd.prog 14 #[.agg #[v0, v1, v2, v3, v4, v5]] w fun e w' => e = .returned (.int .i64 (checkI OS Un Ar St Re Li)) ∧ Below w.heap.size w w' := by
  have hB := below_alloc w (.cells #[v0, v1, v2, v3, v4, v5] 24)
  have hsz := alloc_size w (.cells #[v0, v1, v2, v3, v4, v5] 24)
  have hlt : w.heap.size < (w.alloc (.cells #[v0, v1, v2, v3, v4, v5] 24)).heap.size := by rw [hsz]; exact Nat.lt_succ_self _
  have c0 := cell_new w #[v0, v1, v2, v3, v4, v5] 24 0 v0 rfl
  have c1 := cell_new w #[v0, v1, v2, v3, v4, v5] 24 1 v1 rfl
  have c2 := cell_new w #[v0, v1, v2, v3, v4, v5] 24 2 v2 rfl
  have c3 := cell_new w #[v0, v1, v2, v3, v4, v5] 24 3 v3 rfl
  have c4 := cell_new w #[v0, v1, v2, v3, v4, v5] 24 4 v4 rfl
  have c5 := cell_new w #[v0, v1, v2, v3, v4, v5] 24 5 v5 rfl
  replace h0 := rq_below h0 hB
  replace h1 := rq_below h1 hB
  replace h2 := rq_below h2 hB
  replace h3 := rq_below h3 hB
  replace h4 := rq_below h4 hB
  replace h5 := rq_below h5 hB
  obtain ⟨A0, k0, e0, _⟩ := id h0
  obtain ⟨A1, k1, e1, _⟩ := id h1
  obtain ⟨A2, k2, e2, _⟩ := id h2
  obtain ⟨A3, k3, e3, _⟩ := id h3
  obtain ⟨A4, k4, e4, _⟩ := id h4
  obtain ⟨A5, k5, e5, _⟩ := id h5
  subst e0 e1 e2 e3 e4 e5
  go_enter Tryd.func14, Tryd.ntmps14
  cases hA : allB tagT (OS ++ (Ar ++ Re)) with
  | false =>
    have HS := Lib.hid (show checkI OS Un Ar St Re Li = 1 by unfold checkI; rw [hA]; rfl)
    have HA := Lib.hid hA
    clear hA
    go_wp2_with (first
      | (exfalso; rename_i hu _; simp [undef] at hu; done)
      | (go_at_call 29; refine (of1 _ _ _ rfl (rq_below (rq_below h3 hb2) hb3) f3).mono ?_; rintro r w4 ⟨rfl, hS4, hb4, hl4⟩; have hb24 := (hb2.trans (hb3.mono hb2.size)).trans (hb4.mono (Nat.le_trans hb2.size hb3.size)); have hB4 := hB.trans (hb24.mono hB.size))
      | (go_at_call 29; refine (of1 _ _ _ rfl (rq_below h1 hb2) f1).mono ?_; rintro r w3 ⟨rfl, hS3, hb3, hl3⟩; have d3 := ((hb2.trans (hb3.mono hb2.size)).cell (p := ⟨w.heap.size, 3, none⟩) hlt).trans c3)
      | (go_at_call 29; refine (of3 _ _ _ hsz h0 h2 h4 f0 f2 f4).mono ?_; rintro r w2 ⟨rfl, hS2, hb2, hl2⟩; have d1 := (hb2.cell (p := ⟨w.heap.size, 1, none⟩) hlt).trans c1)
      | (go_at_call 30; refine (each_tag _ _ _ tagT _ (set_below (set_below hS2 hb3) hb4) (fun W s hs _ => (tag s (Nat.le_trans (fit3 f0 f2 f4 s hs) (by omega)) W).mono fun e W' ⟨h1, h2⟩ => ⟨h1, by rw [← h2]; exact Below.refl _ _⟩)).mono ?_; rw [HA.out]; rintro r w5 ⟨rfl, hb5⟩; have hb25 := hb24.trans (hb5.mono hb24.size); have hB5 := hB.trans (hb25.mono hB.size)))
    go_ret
    exact ⟨ret_num HS.out.symm, hB5⟩
  | true =>
  cases hU : allB (fun s => inL s OS) Un with
  | false =>
    have HS := Lib.hid (show checkI OS Un Ar St Re Li = 1 by unfold checkI; rw [hA, hU]; rfl)
    have HA := Lib.hid hA
    have HU := Lib.hid hU
    clear hA hU
    go_wp2_with (first
      | (exfalso; rename_i hu _; simp [undef] at hu; done)
      | (go_at_call 29; refine (of1 _ _ _ rfl (rq_below (rq_below h3 hb2) hb3) f3).mono ?_; rintro r w4 ⟨rfl, hS4, hb4, hl4⟩; have hb24 := (hb2.trans (hb3.mono hb2.size)).trans (hb4.mono (Nat.le_trans hb2.size hb3.size)); have hB4 := hB.trans (hb24.mono hB.size))
      | (go_at_call 29; refine (of1 _ _ _ rfl (rq_below h1 hb2) f1).mono ?_; rintro r w3 ⟨rfl, hS3, hb3, hl3⟩; have d3 := ((hb2.trans (hb3.mono hb2.size)).cell (p := ⟨w.heap.size, 3, none⟩) hlt).trans c3)
      | (go_at_call 29; refine (of3 _ _ _ hsz h0 h2 h4 f0 f2 f4).mono ?_; rintro r w2 ⟨rfl, hS2, hb2, hl2⟩; have d1 := (hb2.cell (p := ⟨w.heap.size, 1, none⟩) hlt).trans c1)
      | (go_at_call 30; refine (each_os _ _ _ (fun s => inL s OS) _ _ (set_below (set_below hS3 hb4) hb5) (fun W s hs hb => (inOS s _ _ OS W ((hb.cell (p := ⟨w.heap.size, 0, none⟩) (Nat.lt_of_lt_of_le hlt hb25.size)).trans ((hb25.cell (p := ⟨w.heap.size, 0, none⟩) hlt).trans c0)) (rq_below (rq_below h0 hb25) hb) (by have := f0.1; omega)).mono fun e W' ⟨h1, h2⟩ => ⟨h1, by rw [← h2]; exact Below.refl _ _⟩)).mono ?_; rw [HU.out]; rintro r w6 ⟨rfl, hb6⟩; have hb26 := hb25.trans (hb6.mono hb25.size); have hB6 := hB.trans (hb26.mono hB.size))
      | (go_at_call 30; refine (each_tag _ _ _ tagT _ (set_below (set_below hS2 hb3) hb4) (fun W s hs _ => (tag s (Nat.le_trans (fit3 f0 f2 f4 s hs) (by omega)) W).mono fun e W' ⟨h1, h2⟩ => ⟨h1, by rw [← h2]; exact Below.refl _ _⟩)).mono ?_; rw [HA.out]; rintro r w5 ⟨rfl, hb5⟩; have hb25 := hb24.trans (hb5.mono hb24.size); have hB5 := hB.trans (hb25.mono hB.size)))
    go_ret
    exact ⟨ret_num HS.out.symm, hB6⟩
  | true =>
  cases hI : allB importB St with
  | false =>
    have HS := Lib.hid (show checkI OS Un Ar St Re Li = 1 by unfold checkI; rw [hA, hU, hI]; rfl)
    have HA := Lib.hid hA
    have HU := Lib.hid hU
    have HI := Lib.hid hI
    clear hA hU hI
    go_wp2_with (first
      | (exfalso; rename_i hu _; simp [undef] at hu; done)
      | (go_at_call 29; refine (of1 _ _ _ rfl (rq_below (rq_below h3 hb2) hb3) f3).mono ?_; rintro r w4 ⟨rfl, hS4, hb4, hl4⟩; have hb24 := (hb2.trans (hb3.mono hb2.size)).trans (hb4.mono (Nat.le_trans hb2.size hb3.size)); have hB4 := hB.trans (hb24.mono hB.size))
      | (go_at_call 29; refine (of1 _ _ _ rfl (rq_below h1 hb2) f1).mono ?_; rintro r w3 ⟨rfl, hS3, hb3, hl3⟩; have d3 := ((hb2.trans (hb3.mono hb2.size)).cell (p := ⟨w.heap.size, 3, none⟩) hlt).trans c3)
      | (go_at_call 29; refine (of3 _ _ _ hsz h0 h2 h4 f0 f2 f4).mono ?_; rintro r w2 ⟨rfl, hS2, hb2, hl2⟩; have d1 := (hb2.cell (p := ⟨w.heap.size, 1, none⟩) hlt).trans c1)
      | (go_at_call 30; refine (each_std _ _ _ importB _ (set_below (set_below hS4 hb5) hb6) (fun W s hs _ => isImp s (Nat.le_trans (f3.2 s hs) (by omega)) W)).mono ?_; rw [HI.out]; rintro r w7 ⟨rfl, hb7⟩; have hb27 := hb26.trans (hb7.mono hb26.size); have hB7 := hB.trans (hb27.mono hB.size); have d5 := (hb27.cell (p := ⟨w.heap.size, 5, none⟩) hlt).trans c5)
      | (go_at_call 30; refine (each_os _ _ _ (fun s => inL s OS) _ _ (set_below (set_below hS3 hb4) hb5) (fun W s hs hb => (inOS s _ _ OS W ((hb.cell (p := ⟨w.heap.size, 0, none⟩) (Nat.lt_of_lt_of_le hlt hb25.size)).trans ((hb25.cell (p := ⟨w.heap.size, 0, none⟩) hlt).trans c0)) (rq_below (rq_below h0 hb25) hb) (by have := f0.1; omega)).mono fun e W' ⟨h1, h2⟩ => ⟨h1, by rw [← h2]; exact Below.refl _ _⟩)).mono ?_; rw [HU.out]; rintro r w6 ⟨rfl, hb6⟩; have hb26 := hb25.trans (hb6.mono hb25.size); have hB6 := hB.trans (hb26.mono hB.size))
      | (go_at_call 30; refine (each_tag _ _ _ tagT _ (set_below (set_below hS2 hb3) hb4) (fun W s hs _ => (tag s (Nat.le_trans (fit3 f0 f2 f4 s hs) (by omega)) W).mono fun e W' ⟨h1, h2⟩ => ⟨h1, by rw [← h2]; exact Below.refl _ _⟩)).mono ?_; rw [HA.out]; rintro r w5 ⟨rfl, hb5⟩; have hb25 := hb24.trans (hb5.mono hb24.size); have hB5 := hB.trans (hb25.mono hB.size)))
    go_ret
    exact ⟨ret_num HS.out.symm, hB7⟩
  | true =>
  cases hL : inL ⟨#[]⟩ Li with
  | true =>
    have HS := Lib.hid (show checkI OS Un Ar St Re Li = 1 by unfold checkI; rw [hA, hU, hI, hL]; rfl)
    have HA := Lib.hid hA
    have HU := Lib.hid hU
    have HI := Lib.hid hI
    have HL := Lib.hid hL
    clear hA hU hI hL
    go_wp2_with (first
      | (exfalso; rename_i hu _; simp [undef] at hu; done)
      | (go_at_call 29; refine (of1 _ _ _ rfl (rq_below (rq_below h3 hb2) hb3) f3).mono ?_; rintro r w4 ⟨rfl, hS4, hb4, hl4⟩; have hb24 := (hb2.trans (hb3.mono hb2.size)).trans (hb4.mono (Nat.le_trans hb2.size hb3.size)); have hB4 := hB.trans (hb24.mono hB.size))
      | (go_at_call 29; refine (of1 _ _ _ rfl (rq_below h1 hb2) f1).mono ?_; rintro r w3 ⟨rfl, hS3, hb3, hl3⟩; have d3 := ((hb2.trans (hb3.mono hb2.size)).cell (p := ⟨w.heap.size, 3, none⟩) hlt).trans c3)
      | (go_at_call 29; refine (of3 _ _ _ hsz h0 h2 h4 f0 f2 f4).mono ?_; rintro r w2 ⟨rfl, hS2, hb2, hl2⟩; have d1 := (hb2.cell (p := ⟨w.heap.size, 1, none⟩) hlt).trans c1)
      | (go_at_call 30; refine (each_std _ _ _ importB _ (set_below (set_below hS4 hb5) hb6) (fun W s hs _ => isImp s (Nat.le_trans (f3.2 s hs) (by omega)) W)).mono ?_; rw [HI.out]; rintro r w7 ⟨rfl, hb7⟩; have hb27 := hb26.trans (hb7.mono hb26.size); have hB7 := hB.trans (hb27.mono hB.size); have d5 := (hb27.cell (p := ⟨w.heap.size, 5, none⟩) hlt).trans c5)
      | (go_at_call 30; refine (each_os _ _ _ (fun s => inL s OS) _ _ (set_below (set_below hS3 hb4) hb5) (fun W s hs hb => (inOS s _ _ OS W ((hb.cell (p := ⟨w.heap.size, 0, none⟩) (Nat.lt_of_lt_of_le hlt hb25.size)).trans ((hb25.cell (p := ⟨w.heap.size, 0, none⟩) hlt).trans c0)) (rq_below (rq_below h0 hb25) hb) (by have := f0.1; omega)).mono fun e W' ⟨h1, h2⟩ => ⟨h1, by rw [← h2]; exact Below.refl _ _⟩)).mono ?_; rw [HU.out]; rintro r w6 ⟨rfl, hb6⟩; have hb26 := hb25.trans (hb6.mono hb25.size); have hB6 := hB.trans (hb26.mono hB.size))
      | (go_at_call 30; refine (each_tag _ _ _ tagT _ (set_below (set_below hS2 hb3) hb4) (fun W s hs _ => (tag s (Nat.le_trans (fit3 f0 f2 f4 s hs) (by omega)) W).mono fun e W' ⟨h1, h2⟩ => ⟨h1, by rw [← h2]; exact Below.refl _ _⟩)).mono ?_; rw [HA.out]; rintro r w5 ⟨rfl, hb5⟩; have hb25 := hb24.trans (hb5.mono hb24.size); have hB5 := hB.trans (hb25.mono hB.size))
      | (go_at_call 26; refine (contains ⟨#[]⟩ _ (rq_below h5 hb27) (by have := f5.1; omega)).mono ?_; rw [HL.out]; rintro r w8 ⟨rfl, rfl⟩))
    go_ret
    exact ⟨ret_num HS.out.symm, hB7⟩
  | false =>
  cases hD : dupB (OS ++ (Ar ++ Re)) with
  | true =>
    have HS := Lib.hid (show checkI OS Un Ar St Re Li = 52 by unfold checkI; rw [hA, hU, hI, hL, hD]; rfl)
    have HA := Lib.hid hA
    have HU := Lib.hid hU
    have HI := Lib.hid hI
    have HL := Lib.hid hL
    have HD := Lib.hid hD
    clear hA hU hI hL hD
    go_wp2_with (first
      | (exfalso; rename_i hu _; simp [undef] at hu; done)
      | (go_at_call 29; refine (of1 _ _ _ rfl (rq_below (rq_below h3 hb2) hb3) f3).mono ?_; rintro r w4 ⟨rfl, hS4, hb4, hl4⟩; have hb24 := (hb2.trans (hb3.mono hb2.size)).trans (hb4.mono (Nat.le_trans hb2.size hb3.size)); have hB4 := hB.trans (hb24.mono hB.size))
      | (go_at_call 29; refine (of1 _ _ _ rfl (rq_below h1 hb2) f1).mono ?_; rintro r w3 ⟨rfl, hS3, hb3, hl3⟩; have d3 := ((hb2.trans (hb3.mono hb2.size)).cell (p := ⟨w.heap.size, 3, none⟩) hlt).trans c3)
      | (go_at_call 29; refine (of3 _ _ _ hsz h0 h2 h4 f0 f2 f4).mono ?_; rw [HD.out]; rintro r w2 ⟨rfl, hS2, hb2, hl2⟩; have d1 := (hb2.cell (p := ⟨w.heap.size, 1, none⟩) hlt).trans c1)
      | (go_at_call 30; refine (each_std _ _ _ importB _ (set_below (set_below hS4 hb5) hb6) (fun W s hs _ => isImp s (Nat.le_trans (f3.2 s hs) (by omega)) W)).mono ?_; rw [HI.out]; rintro r w7 ⟨rfl, hb7⟩; have hb27 := hb26.trans (hb7.mono hb26.size); have hB7 := hB.trans (hb27.mono hB.size); have d5 := (hb27.cell (p := ⟨w.heap.size, 5, none⟩) hlt).trans c5)
      | (go_at_call 30; refine (each_os _ _ _ (fun s => inL s OS) _ _ (set_below (set_below hS3 hb4) hb5) (fun W s hs hb => (inOS s _ _ OS W ((hb.cell (p := ⟨w.heap.size, 0, none⟩) (Nat.lt_of_lt_of_le hlt hb25.size)).trans ((hb25.cell (p := ⟨w.heap.size, 0, none⟩) hlt).trans c0)) (rq_below (rq_below h0 hb25) hb) (by have := f0.1; omega)).mono fun e W' ⟨h1, h2⟩ => ⟨h1, by rw [← h2]; exact Below.refl _ _⟩)).mono ?_; rw [HU.out]; rintro r w6 ⟨rfl, hb6⟩; have hb26 := hb25.trans (hb6.mono hb25.size); have hB6 := hB.trans (hb26.mono hB.size))
      | (go_at_call 30; refine (each_tag _ _ _ tagT _ (set_below (set_below hS2 hb3) hb4) (fun W s hs _ => (tag s (Nat.le_trans (fit3 f0 f2 f4 s hs) (by omega)) W).mono fun e W' ⟨h1, h2⟩ => ⟨h1, by rw [← h2]; exact Below.refl _ _⟩)).mono ?_; rw [HA.out]; rintro r w5 ⟨rfl, hb5⟩; have hb25 := hb24.trans (hb5.mono hb24.size); have hB5 := hB.trans (hb25.mono hB.size))
      | (go_at_call 26; refine (contains ⟨#[]⟩ _ (rq_below h5 hb27) (by have := f5.1; omega)).mono ?_; rw [HL.out]; rintro r w8 ⟨rfl, rfl⟩))
    go_ret
    exact ⟨ret_num HS.out.symm, hB7⟩
  | false =>
    have HS := Lib.hid (show checkI OS Un Ar St Re Li = 0 by unfold checkI; rw [hA, hU, hI, hL, hD]; rfl)
    have HA := Lib.hid hA
    have HU := Lib.hid hU
    have HI := Lib.hid hI
    have HL := Lib.hid hL
    have HD := Lib.hid hD
    clear hA hU hI hL hD
    go_wp2_with (first
      | (exfalso; rename_i hu _; simp [undef] at hu; done)
      | (go_at_call 29; refine (of1 _ _ _ rfl (rq_below (rq_below h3 hb2) hb3) f3).mono ?_; rintro r w4 ⟨rfl, hS4, hb4, hl4⟩; have hb24 := (hb2.trans (hb3.mono hb2.size)).trans (hb4.mono (Nat.le_trans hb2.size hb3.size)); have hB4 := hB.trans (hb24.mono hB.size))
      | (go_at_call 29; refine (of1 _ _ _ rfl (rq_below h1 hb2) f1).mono ?_; rintro r w3 ⟨rfl, hS3, hb3, hl3⟩; have d3 := ((hb2.trans (hb3.mono hb2.size)).cell (p := ⟨w.heap.size, 3, none⟩) hlt).trans c3)
      | (go_at_call 29; refine (of3 _ _ _ hsz h0 h2 h4 f0 f2 f4).mono ?_; rw [HD.out]; rintro r w2 ⟨rfl, hS2, hb2, hl2⟩; have d1 := (hb2.cell (p := ⟨w.heap.size, 1, none⟩) hlt).trans c1)
      | (go_at_call 30; refine (each_std _ _ _ importB _ (set_below (set_below hS4 hb5) hb6) (fun W s hs _ => isImp s (Nat.le_trans (f3.2 s hs) (by omega)) W)).mono ?_; rw [HI.out]; rintro r w7 ⟨rfl, hb7⟩; have hb27 := hb26.trans (hb7.mono hb26.size); have hB7 := hB.trans (hb27.mono hB.size); have d5 := (hb27.cell (p := ⟨w.heap.size, 5, none⟩) hlt).trans c5)
      | (go_at_call 30; refine (each_os _ _ _ (fun s => inL s OS) _ _ (set_below (set_below hS3 hb4) hb5) (fun W s hs hb => (inOS s _ _ OS W ((hb.cell (p := ⟨w.heap.size, 0, none⟩) (Nat.lt_of_lt_of_le hlt hb25.size)).trans ((hb25.cell (p := ⟨w.heap.size, 0, none⟩) hlt).trans c0)) (rq_below (rq_below h0 hb25) hb) (by have := f0.1; omega)).mono fun e W' ⟨h1, h2⟩ => ⟨h1, by rw [← h2]; exact Below.refl _ _⟩)).mono ?_; rw [HU.out]; rintro r w6 ⟨rfl, hb6⟩; have hb26 := hb25.trans (hb6.mono hb25.size); have hB6 := hB.trans (hb26.mono hB.size))
      | (go_at_call 30; refine (each_tag _ _ _ tagT _ (set_below (set_below hS2 hb3) hb4) (fun W s hs _ => (tag s (Nat.le_trans (fit3 f0 f2 f4 s hs) (by omega)) W).mono fun e W' ⟨h1, h2⟩ => ⟨h1, by rw [← h2]; exact Below.refl _ _⟩)).mono ?_; rw [HA.out]; rintro r w5 ⟨rfl, hb5⟩; have hb25 := hb24.trans (hb5.mono hb24.size); have hB5 := hB.trans (hb25.mono hB.size))
      | (go_at_call 26; refine (contains ⟨#[]⟩ _ (rq_below h5 hb27) (by have := f5.1; omega)).mono ?_; rw [HL.out]; rintro r w8 ⟨rfl, rfl⟩))
    go_ret
    exact ⟨ret_num HS.out.symm, hB7⟩
end Go.Proofs.YtcfmaeonginefaaDoor.Check

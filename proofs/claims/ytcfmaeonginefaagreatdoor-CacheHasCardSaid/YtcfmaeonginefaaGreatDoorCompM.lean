/- slices.Compact at modules, over an own row. -/
import Derived.Test.YtcfmaeonginefaaGreatDoorOwn7
import Derived.Test.YtcfmaeonginefaaGreatDoorVers
import Derived.IntWalk
import Derived.Deep.QuietTactic
import Derived.BigQuiet
import Derived.Lib.SliceRun
namespace Go.Proofs.YtcfmaeonginefaaGreatDoor.CompM
open Go Go.RowKit Go.Shelf Go.Proofs.YtcfmaeonginefaaGreatDoor.Seq Go.Proofs.YtcfmaeonginefaaGreatDoor.Made Go.Proofs.YtcfmaeonginefaaGreatDoor.Order3 Go.Proofs.YtcfmaeonginefaaGreatDoor.Cmp Go.Proofs.YtcfmaeonginefaaGreatDoor.Row7 Go.Proofs.YtcfmaeonginefaaGreatDoor.Own7 Go.Proofs.YtcfmaeonginefaaGreatDoor.Vers
set_option linter.unusedSimpArgs false
set_option linter.unusedVariables false

/-- A block holds modules, one behind the other. -/
def RowP (W : World) (g : Nat) (xs : List (ByteArray × ByteArray)) : Prop :=
  ∃ cu, W.heap[g]? = some (.cells cu 23 (0, 0)) ∧ ∀ (i : Nat) (h : i < xs.length), cu[i * 2]? = some (.string xs[i].1) ∧ cu[i * 2 + 1]? = some (.string xs[i].2)
theorem rowP_cell {W : World} {g : Nat} {xs : List (ByteArray × ByteArray)} (h : RowP W g xs) {i : Nat} (hi : i < xs.length) : W.cell? ⟨g, i * 2, none⟩ = some (.string xs[i].1) ∧ W.cell? ⟨g, i * 2 + 1, none⟩ = some (.string xs[i].2) := by
  obtain ⟨cu, hc, hr⟩ := h
  have := hr i hi
  simp [World.cell?, hc, this.1, this.2]
theorem rowP_free {W : World} {g : Nat} {xs : List (ByteArray × ByteArray)} (h : RowP W g xs) (o : Nat) : W.frozen? ⟨g, o, none⟩ = false := by
  obtain ⟨cu, hc, hr⟩ := h
  simp [World.frozen?, hc]
theorem rowP_own {W : World} {B g n c : Nat} {xs : List (ByteArray × ByteArray)} (h : OwnM W B (.slice (some ⟨g, 0, none⟩) n c) xs) : RowP W g xs := by
  obtain ⟨hl, h⟩ := h
  rcases h with ⟨h0, _⟩ | ⟨g', cap, cur, he, _, hc, _, _, _, htk⟩
  · cases h0
  · cases he
    refine ⟨cur, hc, fun i hi => ?_⟩
    have key : ∀ j, j < 2 → cur[i * 2 + j]? = (encM xs[i])[j]? := fun j hj => by
      have h1 := flat_at encM_len xs i hi j hj
      rw [← htk, List.getElem?_take_of_lt (by omega), Array.getElem?_toList] at h1
      exact h1
    exact ⟨key 0 (by omega), key 1 (by omega)⟩
theorem rowP_set {W : World} {g k : Nat} {xs : List (ByteArray × ByteArray)} {y : ByteArray × ByteArray} (h : RowP W g xs) (hk : k < xs.length) :
    RowP ((W.setCell ⟨g, k * 2, none⟩ (.string y.1)).setCell ⟨g, k * 2 + 1, none⟩ (.string y.2)) g (xs.set k y) := by
  obtain ⟨cu, hc, hr⟩ := h
  refine ⟨(cu.setIfInBounds (k * 2) (.string y.1)).setIfInBounds (k * 2 + 1) (.string y.2), ?_, fun i hi => ?_⟩
  · simp [World.setCell, Array.getElem?_modify, hc]
  · have hi' : i < xs.length := by simpa using hi
    have h1 := hr i hi'
    have hk1 := hr k hk
    have s0 : k * 2 < cu.size := by
      rcases Nat.lt_or_ge (k * 2) cu.size with h | h
      · exact h
      · rw [Array.getElem?_eq_none h] at hk1; cases hk1.1
    have s1 : k * 2 + 1 < cu.size := by
      rcases Nat.lt_or_ge (k * 2 + 1) cu.size with h | h
      · exact h
      · rw [Array.getElem?_eq_none h] at hk1; cases hk1.2
    by_cases e : k = i
    · subst e
      simp only [List.getElem_set_self]
      constructor
      · rw [Array.getElem?_setIfInBounds_ne (by omega), Array.getElem?_setIfInBounds_self_of_lt (by simpa using s0)]
      · rw [Array.getElem?_setIfInBounds_self_of_lt (by simpa using s1)]
    · rw [List.getElem_set_ne e]
      constructor
      · rw [Array.getElem?_setIfInBounds_ne (by omega), Array.getElem?_setIfInBounds_ne (by omega)]; exact h1.1
      · rw [Array.getElem?_setIfInBounds_ne (by omega), Array.getElem?_setIfInBounds_ne (by omega)]; exact h1.2

/-- The zero value of a module. -/
def zM : Value := .agg #[.string ⟨#[]⟩, .string ⟨#[]⟩]
theorem zeroM (w : World) : (zeroValue 23).run Tryz.prog w = .ok zM w := by kernel_rfl
def zerosM (n : Nat) : List Value := (Builtin.zeroCells zM.cells n).toList
theorem zerosM_len (n : Nat) : (zerosM n).length = n * 2 := by
  have e : zM.cells.size = 2 := rfl
  simp [zerosM, Builtin.zeroCells, e]
theorem zerosM_one (n : Nat) : ∀ v ∈ zerosM n, v.oneCell' = true := by
  intro v hv
  have e : zM.cells = #[.string ⟨#[]⟩, .string ⟨#[]⟩] := rfl
  simp only [zerosM, Builtin.zeroCells, e, Array.toList_map, List.mem_map] at hv
  obtain ⟨i, _, rfl⟩ := hv
  have h2 : i % 2 = 0 ∨ i % 2 = 1 := by omega
  rcases h2 with h | h
  · show (#[Value.string ⟨#[]⟩, Value.string ⟨#[]⟩][i % 2]!).oneCell' = true
    rw [h]; rfl
  · show (#[Value.string ⟨#[]⟩, Value.string ⟨#[]⟩][i % 2]!).oneCell' = true
    rw [h]; rfl
/-- 'clear(s)' at modules. -/
theorem run_clearM (w : World) (ty : TypeId) (b o n c : Nat) (hn : 0 < n) (hc : ∀ j, j < n * 2 → (w.cell? ⟨b, o + j, none⟩).isSome = true) (hf : ∀ j, w.frozen? ⟨b, j, none⟩ = false) :
    (Builtin.clear_ #[57] ty #[.slice (some ⟨b, o, none⟩) n c]).run Tryz.prog w = .ok (.tuple #[]) (w.setCells b o (zerosM n)) := by
  have hst := run_storeCells_cells (P := Tryz.prog) b o (zerosM n) 0 w (fun j hj => by rw [Nat.add_zero]; exact hc j (by rw [zerosM_len] at hj; exact hj)) (fun j _ => by rw [Nat.add_zero]; exact hf _) (zerosM_one n)
  simp only [Nat.add_zero] at hst
  unfold zerosM at hst ⊢
  unfold zM at hst ⊢
  obtain ⟨m, rfl⟩ : ∃ m, n = m + 1 := ⟨n - 1, by omega⟩
  simp [Builtin.clear_, run_underlying Tryz.underlying57, zeroM, hst]
theorem below_setCells {B g : Nat} {w0 : World} (hg : B ≤ g) : ∀ (vs : List Value) (o : Nat) (W : World), Below B w0 W → Below B w0 (W.setCells g o vs)
  | [], _, _, h => h
  | v :: r, o, W, h => by
    rw [World.setCells]
    exact below_setCells hg r (o + 1) _ (h.setCell (p := ⟨g, o, none⟩) hg v)
theorem dd_short {l : List (ByteArray × ByteArray)} (h : l.length < 2) : dd l = l := by
  match l, h with
  | [], _ => rfl
  | [x], _ => rfl
theorem addL_last {α : Type} [DecidableEq α] (out : List α) (v : α) : (addL out v).getLast? = some v := by
  unfold addL
  split
  · assumption
  · simp
theorem dd_take_last (l : List (ByteArray × ByteArray)) (k : Nat) (h : k < l.length) : (dd (l.take (k + 1))).getLast? = some l[k] := by
  rw [List.take_succ_eq_append_getElem h, dd_snoc, addL_last]
theorem dd_take_same (l : List (ByteArray × ByteArray)) (k : Nat) (h : k + 1 < l.length) (he : l[k + 1] = l[k]) : dd (l.take (k + 1 + 1)) = dd (l.take (k + 1)) := by
  rw [List.take_succ_eq_append_getElem h, dd_snoc, he]
  unfold addL
  rw [if_pos (dd_take_last l k (by omega))]
theorem dd_take_other (l : List (ByteArray × ByteArray)) (k : Nat) (h : k + 1 < l.length) (he : l[k + 1] ≠ l[k]) : dd (l.take (k + 1 + 1)) = dd (l.take (k + 1)) ++ [l[k + 1]] := by
  rw [List.take_succ_eq_append_getElem h, dd_snoc]
  unfold addL
  rw [if_neg (by rw [dd_take_last l k (by omega)]; intro e; exact he (Option.some.inj e).symm)]

theorem take_set_next {α : Type} (xs : List α) (k : Nat) (y : α) (h : k < xs.length) : (xs.set k y).take (k + 1) = xs.take k ++ [y] := by
  rw [List.take_succ_eq_append_getElem (by simpa using h)]
  rw [List.take_set, List.set_eq_of_length_le (by rw [List.length_take]; omega)]
  simp

set_option maxRecDepth 100000 in
set_option maxHeartbeats 8000000 in
theorem compM (w0 wr : World) (B : Nat) (v : Value) (ms : List (ByteArray × ByteArray)) (hown : OwnM wr B v ms) (hb : Below B w0 wr) (hn : ms.length ≤ 1000000) :
    Calls Tryz.prog 42 #[v] wr fun e w' => ∃ v', e = .returned v' ∧ RF w' v' (dd ms) ∧ Below B w0 w' := by
  obtain ⟨w, hw⟩ : ∃ w, wr = w := ⟨_, rfl⟩
  subst hw
  by_cases h2 : ms.length < 2
  · have hr := ownM_rf hown (by omega)
    obtain ⟨A, c, rfl, hA, hc, hg⟩ := own_shape hown
    have HD := Lib.hid (dd_short h2)
    have HR := Lib.hid hr
    go_enter Tryz.func42, Tryz.ntmps42
    go_wp2
    go_ret
    exact ⟨_, rfl, by rw [HD.out]; exact HR.out, hb⟩
  · obtain ⟨A, c, rfl, hA, hc, hg⟩ := own_shape hown
    obtain ⟨g, rfl, hgB⟩ := hg 0 (by omega)
    have HP := Lib.hid (rowP_own hown)
    obtain ⟨n, hnn⟩ : ∃ n, ms.length = n := ⟨_, rfl⟩
    rw [hnn] at h2 hc hn ⊢
    have HN := Lib.hid hnn
    clear hnn hg hown hA
    have hd2 : decide ((n : Int) < 2) = false := by simp; omega
    go_enter Tryz.func42, Tryz.ntmps42
    go_wp2
    go_loopw [3] (fun v3 W => ∃ (k q : Nat), v3 = .int .i64 (k + 1) ∧ k + 1 ≤ n ∧ Hid (dd (ms.take (k + 1)) = ms.take (k + 1)) ∧ W = wr.drewN q) (fun v3 W => n - (intOf v3).toNat)
    case atStart => exact ⟨0, 0, rfl, by omega, Lib.hid (dd_short (by rw [List.length_take]; omega)), rfl⟩
    case round =>
      obtain ⟨wo, rfl⟩ : ∃ wo : World, wo = wr := ⟨_, rfl⟩
      obtain ⟨k, q, rfl, hk, HD, rfl⟩ := hrel
      by_cases hlt : k + 1 < n
      · have hl1 : k + 1 < ms.length := by rw [HN.out]; exact hlt
        have hl0 : k < ms.length := by omega
        have hw1 : IntKind.i64.wrap ((k : Int) + 1 - 1) = (k : Int) := by rw [show (k : Int) + 1 - 1 = k by omega]; exact IntWalk.i64_in _ (by omega)
        have hi1 : (0 : Int) ≤ (k : Int) + 1 := by omega
        have hi2 : (k : Int) + 1 < n := by omega
        have hi3 : (k : Int) < n := by omega
        have ht1 : ((k : Int) + 1).toNat = k + 1 := by omega
        obtain ⟨x0, x1⟩ := rowP_cell HP.out hl1
        obtain ⟨y0, y1⟩ := rowP_cell HP.out hl0
        by_cases he : ms[k + 1] = ms[k]
        · have HS := Lib.hid (dd_take_same ms k hl1 he)
          rw [he] at x0 x1
          generalize ms[k] = y at *
          obtain ⟨yp, yv⟩ := y
          simp only [] at x0 x1 y0 y1
          clear he
          go_wp2
          go_quiet (fail)
          rename_i nq
          clear x0 x1 y0 y1 hw1 hi1 ht1
          have hst : Hid (ms.take (k + 1) = dd (ms.take (k + 1 + 1))) := Lib.hid (by rw [HS.out, HD.out])
          go_wp2
          go_loopw [3, 5] (fun v3 v5 W => ∃ (kk j : Nat) (xs : List (ByteArray × ByteArray)), v3 = .int .i64 kk ∧ v5 = .int .i64 (j + 1) ∧ k + 1 + j + 1 ≤ n ∧ kk ≤ k + 1 + j ∧ Hid (RowP W g xs ∧ xs.length = n ∧ xs.take kk = dd (ms.take (k + 1 + j + 1)) ∧ (∀ (i : Nat), k + 1 + j ≤ i → xs[i]? = ms[i]?)) ∧ Below B w0 W) (fun v3 v5 W => n - (intOf v5).toNat)
          case atStart => exact ⟨k + 1, 0, ms, rfl, rfl, by omega, by omega, Lib.hid ⟨HP.out, HN.out, hst.out, fun i _ => rfl⟩, pw_drewN hb (q + nq)⟩
          case round =>
            obtain ⟨kk, j, xs, rfl, rfl, hj, hkk, HX, hbW⟩ := hrel
            obtain ⟨hP, hxl, htk, hun⟩ := HX.out
            by_cases hlj : j + 1 < n - (k + 1)
            · have e1 : k + 1 + j + 1 < ms.length := by rw [HN.out]; omega
              have e0 : k + 1 + j < ms.length := by omega
              have q1 : k + 1 + j + 1 < xs.length := by omega
              have q0 : k + 1 + j < xs.length := by omega
              have z1 : xs[k + 1 + j + 1] = ms[k + 1 + j + 1] := by
                have := hun (k + 1 + j + 1) (by omega)
                rw [List.getElem?_eq_getElem q1, List.getElem?_eq_getElem e1] at this
                exact Option.some.inj this
              have z0 : xs[k + 1 + j] = ms[k + 1 + j] := by
                have := hun (k + 1 + j) (by omega)
                rw [List.getElem?_eq_getElem q0, List.getElem?_eq_getElem e0] at this
                exact Option.some.inj this
              obtain ⟨x0, x1⟩ := rowP_cell hP q1
              obtain ⟨y0, y1⟩ := rowP_cell hP q0
              rw [z1, show (k + 1 + j + 1) * 2 = (k + 1) * 2 + (j + 1) * 2 by omega] at x0 x1
              rw [z0, show (k + 1 + j) * 2 = (k + 1) * 2 + j * 2 by omega] at y0 y1
              have hw1 : IntKind.i64.wrap ((j : Int) + 1 - 1) = (j : Int) := by rw [show (j : Int) + 1 - 1 = j by omega]; exact IntWalk.i64_in _ (by omega)
              have hi1 : (0 : Int) ≤ (j : Int) + 1 := by omega
              have hi2' : (j : Int) + 1 < ((n - (k + 1) : Nat) : Int) := by omega
              have hi3' : (j : Int) < ((n - (k + 1) : Nat) : Int) := by omega
              have ht1 : ((j : Int) + 1).toNat = j + 1 := by omega
              by_cases he : ms[k + 1 + j + 1] = ms[k + 1 + j]
              · have HS2 := Lib.hid (htk.trans (dd_take_same ms (k + 1 + j) e1 he).symm)
                rw [he] at x0 x1
                generalize ms[k + 1 + j] = y at *
                obtain ⟨yp, yv⟩ := y
                simp only [] at x0 x1 y0 y1
                clear he z1 z0 hP hxl htk hun
                go_wp2
                go_quiet (fail)
                clear x0 x1 y0 y1 hw1 hi1 ht1
                go_wp2
                exact ⟨⟨kk, j + 1, xs, rfl, by go_num, by omega, by omega, Lib.hid ⟨HX.out.1, HX.out.2.1, HS2.out, fun i hi => HX.out.2.2.2 i (by omega)⟩, pw_drewN hbW nq⟩, by simp [intOf]; omega⟩
              · have HS2 := Lib.hid (dd_take_other ms (k + 1 + j) e1 he)
                have hkl : kk < xs.length := by omega
                obtain ⟨c0, c1⟩ := rowP_cell hP hkl
                have hfr := rowP_free hP
                generalize ms[k + 1 + j + 1] = y at *
                generalize ms[k + 1 + j] = x at *
                obtain ⟨yp, yv⟩ := y
                obtain ⟨xp, xv⟩ := x
                simp only [] at x0 x1 y0 y1
                have hne : (¬ yp.toList = xp.toList) ∨ (yp.toList = xp.toList ∧ ¬ yv.toList = xv.toList) := by
                  by_cases a1 : yp.toList = xp.toList
                  · refine .inr ⟨a1, fun a2 => he ?_⟩
                    rw [ba_eq (show (yp.toList == xp.toList) = true by simpa using a1), ba_eq (show (yv.toList == xv.toList) = true by simpa using a2)]
                  · exact .inl a1
                have HSET := Lib.hid (show ∀ W : World, RowP W g xs → RowP ((W.setCell ⟨g, kk * 2, none⟩ (.string yp)).setCell ⟨g, kk * 2 + 1, none⟩ (.string yv)) g (xs.set kk (yp, yv)) from fun W h => rowP_set (y := (yp, yv)) h hkl)
                have hki : (kk : Int) < n := by omega
                have HZ := Lib.hid (show (xs.set kk (yp, yv)).length = n ∧ (xs.set kk (yp, yv)).take (kk + 1) = dd (ms.take (k + 1 + j + 1 + 1)) ∧ ∀ i, k + 1 + j + 1 ≤ i → (xs.set kk (yp, yv))[i]? = ms[i]? from
                  ⟨by simpa using hxl, by rw [take_set_next _ _ _ hkl, htk, HS2.out], fun i hi => by rw [List.getElem?_set_ne (by omega)]; exact hun i (by omega)⟩)
                clear he z1 z0 hP hxl htk hun
                rcases hne with a1 | ⟨a1, a2⟩
                all_goals
                  go_wp2
                  go_quiet (fail)
                  go_wp2
                  exact ⟨⟨kk + 1, j + 1, xs.set kk (yp, yv), by go_num, by go_num, by omega, by omega, Lib.hid ⟨HSET.out _ HX.out.1, HZ.out.1, HZ.out.2.1, HZ.out.2.2⟩, ((pw_drewN hbW nq).setCell (p := ⟨g, kk * 2, none⟩) hgB _).setCell (p := ⟨g, kk * 2 + 1, none⟩) hgB _⟩, by simp [intOf]; omega⟩
            · have hjn : k + 1 + j + 1 = n := by omega
              have hkn : kk < n := by omega
              have hall : ∀ i, i < n → (wr.cell? ⟨g, i * 2, none⟩).isSome = true ∧ (wr.cell? ⟨g, i * 2 + 1, none⟩).isSome = true := fun i hi => by
                obtain ⟨a, b⟩ := rowP_cell hP (i := i) (by omega)
                rw [a, b]; exact ⟨rfl, rfl⟩
              have hcl : ∀ ty, (Builtin.clear_ #[57] ty #[.slice (some ⟨g, kk * 2, none⟩) (n - kk) (c - kk)]).run Tryz.prog wr = .ok (.tuple #[]) (wr.setCells g (kk * 2) (zerosM (n - kk))) := fun ty =>
                run_clearM wr ty g (kk * 2) (n - kk) (c - kk) (by omega) (fun j' hj' => by
                  have h2 : j' % 2 = 0 ∨ j' % 2 = 1 := by omega
                  have := hall (kk + j' / 2) (by omega)
                  rcases h2 with h | h
                  · rw [show kk * 2 + j' = (kk + j' / 2) * 2 by omega]; exact this.1
                  · rw [show kk * 2 + j' = (kk + j' / 2) * 2 + 1 by omega]; exact this.2) (rowP_free hP)
              have hdd : xs.take kk = dd ms := by rw [htk, hjn, ← HN.out, List.take_length]
              have hfin := Lib.hid (show RF (wr.setCells g (kk * 2) (zerosM (n - kk))) (.slice (some ⟨g, 0, none⟩) kk c) (dd ms) by
                have hl : (dd ms).length = kk := by rw [← hdd, List.length_take]; omega
                refine ⟨some ⟨g, 0, none⟩, c, by rw [hl], (fun h => by cases h), by omega, by omega, fun i hi => ⟨g, 0, rfl, ?_⟩⟩
                have hi' : i < kk := by omega
                obtain ⟨a, b⟩ := rowP_cell hP (i := i) (by omega)
                have e : (dd ms)[i] = xs[i]'(by omega) := by
                  have : (dd ms)[i]? = xs[i]? := by rw [← hdd, List.getElem?_take_of_lt hi']
                  rw [List.getElem?_eq_getElem hi, List.getElem?_eq_getElem (by omega)] at this
                  exact Option.some.inj this
                rw [e, Nat.zero_add]
                constructor
                · rw [World.cell?_setCells_out _ _ _ _ _ (fun _ _ => .inl (by show i * 2 < kk * 2; omega))]; exact a
                · rw [World.cell?_setCells_out _ _ _ _ _ (fun _ _ => .inl (by show i * 2 + 1 < kk * 2; omega))]; exact b)
              have hbf := below_setCells hgB (zerosM (n - kk)) (kk * 2) wr hbW
              have hkc : (kk : Int) ≤ n := by omega
              clear hall hP hxl htk hun hdd
              go_wp2
              go_ret
              exact ⟨_, rfl, hfin.out, hbf⟩
        · have HS := Lib.hid (dd_take_other ms k hl1 he)
          have HD2 := Lib.hid (show dd (ms.take (k + 1 + 1)) = ms.take (k + 1 + 1) by
            rw [HS.out, HD.out, List.take_succ_eq_append_getElem hl1])
          generalize ms[k + 1] = y at *
          generalize ms[k] = x at *
          obtain ⟨yp, yv⟩ := y
          obtain ⟨xp, xv⟩ := x
          simp only [] at x0 x1 y0 y1
          have hne : (¬ yp.toList = xp.toList) ∨ (yp.toList = xp.toList ∧ ¬ yv.toList = xv.toList) := by
            by_cases a1 : yp.toList = xp.toList
            · refine .inr ⟨a1, fun a2 => he ?_⟩
              rw [ba_eq (show (yp.toList == xp.toList) = true by simpa using a1), ba_eq (show (yv.toList == xv.toList) = true by simpa using a2)]
            · exact .inl a1
          clear he
          rcases hne with a1 | ⟨a1, a2⟩
          all_goals
            go_wp2
            go_quiet (fail)
            clear x0 x1 y0 y1 hw1 hi1 ht1
            go_wp2
            exact ⟨⟨k + 1, _, by go_num, by omega, HD2, rfl⟩, by simp [intOf]; omega⟩
      · have hkn : k + 1 = n := by omega
        have hfin := Lib.hid (show RF (wr.drewN q) (.slice (some ⟨g, 0, none⟩) n c) (dd ms) by
          have e : dd ms = ms := by
            have := HD.out
            rwa [hkn, ← HN.out, List.take_length] at this
          rw [e]
          refine ⟨some ⟨g, 0, none⟩, c, by rw [HN.out], (fun h => by cases h), by rw [HN.out]; exact hc, by rw [HN.out]; omega, fun i hi => ⟨g, 0, rfl, ?_⟩⟩
          rw [Nat.zero_add]
          exact rowP_cell HP.out hi)
        go_wp2
        go_ret
        exact ⟨_, rfl, hfin.out, pw_drewN hb q⟩
end Go.Proofs.YtcfmaeonginefaaGreatDoor.CompM

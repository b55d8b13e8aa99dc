/- graftbedref07.Sort: what it answers. -/
import Derived.Test.YtcfmaeonginefaaGreatDoorOwn7
import Derived.Test.YtcfmaeonginefaaGreatDoorVers
import Derived.Test.YtcfmaeonginefaaGreatDoorOrder7
import Derived.Test.YtcfmaeonginefaaGreatDoorHeavy
namespace Go.Proofs.YtcfmaeonginefaaGreatDoor.Sort7
open Go Go.RowKit Go.Shelf Go.Proofs.YtcfmaeonginefaaGreatDoor.Seq Go.Proofs.YtcfmaeonginefaaGreatDoor.Made Go.Proofs.YtcfmaeonginefaaGreatDoor.Order3 Go.Proofs.YtcfmaeonginefaaGreatDoor.Cmp Go.Proofs.YtcfmaeonginefaaGreatDoor.Row7 Go.Proofs.YtcfmaeonginefaaGreatDoor.Own7 Go.Proofs.YtcfmaeonginefaaGreatDoor.Vers Go.Proofs.YtcfmaeonginefaaGreatDoor.Order7 Go.Proofs.YtcfmaeonginefaaGreatDoor.Heavy
set_option linter.unusedSimpArgs false
set_option linter.unusedVariables false

/-- Entries by the order of their modules. -/
def entB (a b : En) : Int := modB a.mod b.mod
theorem cmp_ent : Cmp entB := cmp_mod.pull En.mod
/-- What stands when k elements have been read. -/
def St {α : Type} (c : α → α → Int) (x : α) (xs : List α) (k : Nat) (d : Bool) (out : List α) : Prop := out ++ (if d = true then xs.drop k else insB c x (xs.drop k)) = insB c x xs
section
variable {α : Type} {c : α → α → Int} {x : α} {xs out : List α} {k : Nat}
theorem st_start : St c x xs 0 false [] := rfl
theorem st_len {d : Bool} (h : St c x xs k d out) : out.length ≤ xs.length + 1 := by
  have := congrArg List.length h
  rw [insB_len, List.length_append] at this
  omega
theorem drop_at (h : k < xs.length) : xs.drop k = xs[k] :: xs.drop (k + 1) := List.drop_eq_getElem_cons h
theorem st_done (h : k < xs.length) (hs : St c x xs k true out) : St c x xs (k + 1) true (out ++ [xs[k]]) := by
  unfold St at *
  rw [← hs, if_pos rfl, if_pos rfl, drop_at h]; simp
theorem st_put (h : k < xs.length) (hl : c x xs[k] < 0) (hs : St c x xs k false out) : St c x xs (k + 1) true (out ++ [x] ++ [xs[k]]) := by
  unfold St at *
  rw [← hs, if_pos rfl, if_neg (by decide), drop_at h]
  unfold insB
  rw [if_pos hl]; simp
theorem st_skip (h : k < xs.length) (hl : ¬ c x xs[k] < 0) (hs : St c x xs k false out) : St c x xs (k + 1) false (out ++ [xs[k]]) := by
  unfold St at *
  rw [← hs, if_neg (by decide), if_neg (by decide), drop_at h]
  conv => rhs; unfold insB
  rw [if_neg hl]; simp
theorem st_end_done (h : ¬ k < xs.length) (hs : St c x xs k true out) : out = insB c x xs := by
  unfold St at hs
  rw [if_pos rfl, List.drop_of_length_le (by omega), List.append_nil] at hs; exact hs
theorem st_end_put (h : ¬ k < xs.length) (hs : St c x xs k false out) : out ++ [x] = insB c x xs := by
  unfold St at hs
  rw [if_neg (by decide), List.drop_of_length_le (by omega)] at hs; exact hs
end

/-- The cells of an entry. -/
def C4 (W : World) (g o : Nat) (x : En) : Prop := W.cell? ⟨g, o, none⟩ = some (.string x.p) ∧ W.cell? ⟨g, o + 1, none⟩ = some (.string x.v) ∧ W.cell? ⟨g, o + 2, none⟩ = some (.string x.g) ∧ W.cell? ⟨g, o + 3, none⟩ = some x.fv
theorem c4_keep {W W' : World} {g o : Nat} {x : En} (h : C4 W g o x) (hb : Below W.heap.size W W') : C4 W' g o x := ⟨cellK h.1 hb, cellK h.2.1 hb, cellK h.2.2.1 hb, cellK h.2.2.2 hb⟩
theorem c4_at {H : Nat} {w W : World} {g o : Nat} {x : En} (h : C4 w g o x) (hH : w.heap.size ≤ H) (hb : Below H w W) : C4 W g o x := c4_keep h (hb.mono hH)
/-- Two entries' cells beside an own row. -/
def L8 (H : Nat) (wo : World) (gx ox gy oy : Nat) (x y : En) (v : Value) (nw : List En) (W : World) : Prop :=
  W.cell? ⟨gx, ox, none⟩ = some (.string x.p) ∧ W.cell? ⟨gx, ox + 1, none⟩ = some (.string x.v) ∧ W.cell? ⟨gx, ox + 2, none⟩ = some (.string x.g) ∧ W.cell? ⟨gx, ox + 3, none⟩ = some x.fv ∧
  W.cell? ⟨gy, oy, none⟩ = some (.string y.p) ∧ W.cell? ⟨gy, oy + 1, none⟩ = some (.string y.v) ∧ W.cell? ⟨gy, oy + 2, none⟩ = some (.string y.g) ∧ W.cell? ⟨gy, oy + 3, none⟩ = some y.fv ∧ OwnE W H v nw ∧ Below H wo W ∧ H ≤ W.heap.size
theorem l8_keep {H : Nat} {wo W W' : World} {gx ox gy oy : Nat} {x y : En} {v : Value} {nw : List En} (h : L8 H wo gx ox gy oy x y v nw W) (hb : Below W.heap.size W W') : L8 H wo gx ox gy oy x y v nw W' := by
  obtain ⟨a0, a1, a2, a3, b0, b1, b2, b3, c, d, e⟩ := h
  exact ⟨cellK a0 hb, cellK a1 hb, cellK a2 hb, cellK a3 hb, cellK b0 hb, cellK b1 hb, cellK b2 hb, cellK b3 hb, own_below c hb, d.trans (hb.mono e), Nat.le_trans e hb.size⟩
theorem l8_mk {H : Nat} {wo W : World} {gx ox gy oy : Nat} {x y : En} {v : Value} {nw : List En} (hx : C4 W gx ox x) (hy : C4 W gy oy y) (ho : OwnE W H v nw) (hb : Below H wo W) (hz : H ≤ W.heap.size) : L8 H wo gx ox gy oy x y v nw W :=
  ⟨hx.1, hx.2.1, hx.2.2.1, hx.2.2.2, hy.1, hy.2.1, hy.2.2.1, hy.2.2.2, ho, hb, hz⟩
/-- .. behind what is written into the own row. -/
theorem l8_next {H : Nat} {wo W W' : World} {gx ox gy oy : Nat} {x y : En} {v v' : Value} {nw nw' : List En} (h : L8 H wo gx ox gy oy x y v nw W) (hx : C4 wo gx ox x) (hy : C4 wo gy oy y) (hH : wo.heap.size = H) (ho : OwnE W' H v' nw') (hb : Below H wo W') (hz : H ≤ W'.heap.size) : L8 H wo gx ox gy oy x y v' nw' W' := by
  subst hH
  exact l8_mk (c4_keep hx hb) (c4_keep hy hb) ho hb hz

set_option maxRecDepth 100000 in
set_option maxHeartbeats 16000000 in
theorem sort7 {v : Value} {es : List En} (w : World) (h : RE w v es) (hfit : Fits es) :
    Calls Tryz.prog 25 #[v] w fun e w' => ∃ v', e = .returned v' ∧ RE w' v' (sortB entB es) ∧ Below w.heap.size w w' := by
  obtain ⟨⟨A, c, rfl, hA, hc, hm, hr⟩, hrf⟩ := h
  have HA := Lib.hid hr
  have HRF := Lib.hid hrf
  have HFIT := Lib.hid hfit
  have h50 := hfit.1
  clear hr hrf hfit
  obtain ⟨n, hnn⟩ : ∃ n, es.length = n := ⟨_, rfl⟩
  rw [hnn] at hm hc h50 ⊢
  have HN := Lib.hid hnn
  have hE0 : RE0 (w.alloc (.cells #[] 38)) (.slice (some ⟨w.heap.size, 0, none⟩) 0 0) [] := ⟨_, 0, rfl, (fun h => by cases h), Nat.le_refl _, by decide, fun i hi => absurd hi (Nat.not_lt_zero _)⟩
  have hb0 := (Below.refl w.heap.size w).alloc (Nat.le_refl _) (.cells #[] 38)
  clear hnn
  go_enter Tryz.func25, Tryz.ntmps25
  go_wp2
  go_loopw [3, 4, 5, 6, 7] (fun v3 v4 v5 v6 v7 wr => ∃ (i : Nat) (out : List En), v4 = .int .i64 i ∧ i ≤ n ∧ Hid (out = sortB entB (es.take i)) ∧ RE0 wr v3 out ∧ Below w.heap.size w wr ∧ w.heap.size ≤ wr.heap.size) (fun v3 v4 v5 v6 v7 wr => n - (intOf v4).toNat)
  case atStart => exact ⟨0, [], rfl, Nat.zero_le _, Lib.hid (by simp [sortB, sortF]), hE0, hb0, hb0.size⟩
  case round =>
    clear hE0 hb0
    obtain ⟨i, out, rfl, hi, HO, hq, hB, hz⟩ := hrel
    obtain ⟨wo, rfl⟩ : ∃ wo : World, wo = wr := ⟨_, rfl⟩
    by_cases hlt : i < n
    · have hl' : i < es.length := by rw [HN.out]; exact hlt
      obtain ⟨gx, ox, hgx, x0, x1, x2, x3⟩ := HA.out i hl'
      subst hgx
      have HT := Lib.hid (show sortB entB (es.take (i + 1)) = insB entB es[i] out by
        rw [List.take_succ_eq_append_getElem hl', sortB_snoc, HO.out])
      have hxf := HFIT.out.2 es[i] (List.getElem_mem hl')
      have hx1 := oneE (HRF.out es[i] (List.getElem_mem hl'))
      have holen : out.length ≤ 50 := by
        rw [HO.out, sortB_len, List.length_take]; omega
      obtain ⟨Ao, co, rfl, hAo, hco, hmo, hro⟩ := hq
      have HR := Lib.hid hro
      obtain ⟨m, hmm⟩ : ∃ m, out.length = m := ⟨_, rfl⟩
      rw [hmm] at holen hco hmo ⊢
      have HM := Lib.hid hmm
      have HOF := Lib.hid (show ∀ y ∈ out, FitE y ∧ OneE y by
        intro y hy
        rw [HO.out] at hy
        have := List.mem_of_mem_take ((sortB_perm entB _).mem_iff.1 hy)
        exact ⟨HFIT.out.2 y this, oneE (HRF.out y this)⟩)
      have HX : Hid (C4 w gx (ox + i * 4) es[i]) := Lib.hid ⟨x0, x1, x2, x3⟩
      generalize es[i] = x at *
      obtain ⟨xp, xv, xg, xf, xl⟩ := x
      clear hro hmm x0 x1 x2 x3
      obtain ⟨H, hH⟩ : ∃ H, wo.heap.size = H := ⟨_, rfl⟩
      have hN0 := own_empty encE 4 38 wo H (by omega)
      have hbN := (Below.refl H wo).alloc (by omega) (.cells #[] 38)
      have hHw : w.heap.size ≤ H := by omega
      have hN1 : H ≤ (wo.alloc (.cells #[] 38)).heap.size := by simp; omega
      have HH := Lib.hid hH
      clear hH
      go_wp2
      go_loopw [5, 6, 7] (fun v5 v6 v7 W => ∃ (k : Nat) (d : Bool) (nw : List En), v7 = .int .i64 k ∧ v6 = .bool d ∧ k ≤ m ∧ Hid (St entB ⟨xp, xv, xg, xf, xl⟩ out k d nw) ∧ OwnE W H v5 nw ∧ Below H wo W ∧ H ≤ W.heap.size) (fun v5 v6 v7 W => m - (intOf v7).toNat)
      case atStart => exact ⟨0, false, [], rfl, rfl, Nat.zero_le _, Lib.hid st_start, hN0, hbN, hN1⟩
      case round =>
        clear hN0 hbN hN1
        obtain ⟨k, d, nw, rfl, rfl, hk, HS, hown, hbW, hzW⟩ := hrel
        obtain ⟨A5, c5, rfl, _⟩ := own_shape hown
        have hnl := st_len HS.out
        rw [HM.out] at hnl
        have HX' := Lib.hid (c4_keep HX.out (hB.trans (hbW.mono hHw)))
        by_cases hkm : k < m
        · have hk' : k < out.length := by rw [HM.out]; exact hkm
          obtain ⟨gy, oy, hgy, y0, y1, y2, y3⟩ := HR.out k hk'
          subst hgy
          have hyf := HOF.out out[k] (List.getElem_mem hk')
          have HD := Lib.hid (show C4 wo gy (oy + k * 4) out[k] from ⟨y0, y1, y2, y3⟩)
          have HY := Lib.hid (c4_keep (show C4 wo gy (oy + k * 4) out[k] from ⟨y0, y1, y2, y3⟩) (hbW.mono (by rw [HH.out]; exact Nat.le_refl _)))
          cases d with
          | true =>
            have HT' := Lib.hid (st_done hk' HS.out)
            generalize out[k] = y at *
            obtain ⟨yp, yv, yg, yf, yl⟩ := y
            clear y0 y1 y2 y3
            obtain ⟨y0, y1, y2, y3⟩ := HY.out
            simp only [] at y0 y1 y2 y3
            go_wp2
            go_quiet (fail)
            go_wp2_with (first
              | (exfalso; rename_i hu _; simp [undef] at hu; done)
              | (at_builtin; refine appE wo _ _ rfl _ _ rfl H (.slice A5 nw.length c5) nw ⟨yp, yv, yg, yf, yl⟩ hyf.2 (by rfl) (show OwnE _ H _ nw from hown) _ (by rfl) rfl hzW (by omega) (pw_drewN hbW _) ?_; intro A1 c1 w1 hE1 hb1 hl1))
            go_roundw
            case rel => exact ⟨k + 1, true, _, by go_num, rfl, by omega, HT', hE1, hb1, hl1⟩
            case measure => simp [intOf] <;> omega
          | false =>
            obtain ⟨r, hr⟩ : ∃ r, entB ⟨xp, xv, xg, xf, xl⟩ out[k] = r := ⟨_, rfl⟩
            have HP := Lib.hid (fun h : r < 0 => st_put hk' (by rw [hr]; exact h) HS.out)
            have HK := Lib.hid (fun h : ¬ r < 0 => st_skip hk' (by rw [hr]; exact h) HS.out)
            generalize out[k] = y at *
            obtain ⟨yp, yv, yg, yf, yl⟩ := y
            have HR' := Lib.hid (show modB (xp, xv) (yp, yv) = r from hr)
            clear y0 y1 y2 y3 hr
            have L0 := l8_mk (x := ⟨xp, xv, xg, xf, xl⟩) (y := ⟨yp, yv, yg, yf, yl⟩) HX'.out HY.out hown hbW hzW
            have L1 := l8_keep L0 (pw_drewN (Below.refl _ _) 1)
            have HC := Lib.hid (show C4 wo gx (ox + i * 4) ⟨xp, xv, xg, xf, xl⟩ from c4_keep HX.out hB)
            by_cases hneg : r < 0
            · have HT' := Lib.hid (HP.out hneg)
              clear HP HK
              obtain ⟨x0, x1, x2, x3, y0, y1, y2, y3, -⟩ := id L0
              simp only [] at x0 x1 x2 x3 y0 y1 y2 y3
              have hp1 : xp.size ≤ 1048576 := by have := hxf.1; simp only [] at this; omega
              have hp2 : xv.size ≤ 1048576 := by have := hxf.2.1; simp only [] at this; omega
              have hp3 : yp.size ≤ 1048576 := by have := hyf.1.1; simp only [] at this; omega
              have hp4 : yv.size ≤ 1048576 := by have := hyf.1.2.1; simp only [] at this; omega
              go_wp2
              go_region_held3 (fun w' => w'.cell? ⟨gx, ox + i * 4, none⟩ = some (.string xp) ∧ w'.cell? ⟨gx, ox + i * 4 + 1, none⟩ = some (.string xv) ∧ w'.cell? ⟨gx, ox + i * 4 + 2, none⟩ = some (.string xg) ∧ w'.cell? ⟨gx, ox + i * 4 + 3, none⟩ = some xf ∧
                  w'.cell? ⟨gy, oy + k * 4, none⟩ = some (.string yp) ∧ w'.cell? ⟨gy, oy + k * 4 + 1, none⟩ = some (.string yv) ∧ w'.cell? ⟨gy, oy + k * 4 + 2, none⟩ = some (.string yg) ∧ w'.cell? ⟨gy, oy + k * 4 + 3, none⟩ = some yf ∧ OwnE w' H (.slice A5 nw.length c5) nw ∧ Below H wo w' ∧ H ≤ w'.heap.size)
                (first
                  | assumption
                  | exact l8_keep (x := ⟨xp, xv, xg, xf, xl⟩) (y := ⟨yp, yv, yg, yf, yl⟩) ‹_› hb2
                  | exact L1)
                (first | (go_at_call 14; refine (order7 xp xv yp yv hp1 hp2 hp3 hp4 _).mono ?_; rw [HR'.out]; rintro e2 w2 ⟨rfl, hb2⟩))
              have k2 : L8 H wo gx (ox + i * 4) gy (oy + k * 4) ⟨xp, xv, xg, xf, xl⟩ ⟨yp, yv, yg, yf, yl⟩ (.slice A5 nw.length c5) nw w2 := by assumption
              clear x0 x1 x2 x3 y0 y1 y2 y3
              obtain ⟨x0, x1, x2, x3, y0, y1, y2, y3, ow2, bw2, zw2⟩ := id k2
              simp only [] at x0 x1 x2 x3 y0 y1 y2 y3
              go_wp2_with (first
                | (exfalso; rename_i hu _; simp [undef] at hu; done)
                | (at_builtin; refine appE wo _ _ rfl _ _ rfl H (.slice A3 (nw.length + 1) c3) (nw ++ [⟨xp, xv, xg, xf, xl⟩]) ⟨yp, yv, yg, yf, yl⟩ hyf.2 (by rfl) hE3 _ (by rfl) rfl hz3 (by simp; omega) hb3 ?_; intro A4 c4 w4 hE4 hb4 hz4)
                | (at_builtin; refine appE wo _ _ rfl _ _ rfl H (.slice A5 nw.length c5) nw ⟨xp, xv, xg, xf, xl⟩ hx1 (by rfl) ow2 _ (by rfl) rfl zw2 (by omega) bw2 ?_; intro A3 c3 w3 hE3 hb3 hz3; obtain ⟨a0, a1, a2, a3, b0, b1, b2, b3, -⟩ := l8_next k2 HC.out HD.out HH.out hE3 hb3 hz3; simp only [] at b0 b1 b2 b3))
              go_roundw
              case rel => exact ⟨k + 1, true, _, by go_num, rfl, by omega, HT', by simpa using hE4, hb4, hz4⟩
              case measure => simp [intOf] <;> omega
            · have HT' := Lib.hid (HK.out hneg)
              clear HP HK
              obtain ⟨x0, x1, x2, x3, y0, y1, y2, y3, -⟩ := id L0
              simp only [] at x0 x1 x2 x3 y0 y1 y2 y3
              have hp1 : xp.size ≤ 1048576 := by have := hxf.1; simp only [] at this; omega
              have hp2 : xv.size ≤ 1048576 := by have := hxf.2.1; simp only [] at this; omega
              have hp3 : yp.size ≤ 1048576 := by have := hyf.1.1; simp only [] at this; omega
              have hp4 : yv.size ≤ 1048576 := by have := hyf.1.2.1; simp only [] at this; omega
              go_wp2
              go_region_held3 (fun w' => w'.cell? ⟨gx, ox + i * 4, none⟩ = some (.string xp) ∧ w'.cell? ⟨gx, ox + i * 4 + 1, none⟩ = some (.string xv) ∧ w'.cell? ⟨gx, ox + i * 4 + 2, none⟩ = some (.string xg) ∧ w'.cell? ⟨gx, ox + i * 4 + 3, none⟩ = some xf ∧
                  w'.cell? ⟨gy, oy + k * 4, none⟩ = some (.string yp) ∧ w'.cell? ⟨gy, oy + k * 4 + 1, none⟩ = some (.string yv) ∧ w'.cell? ⟨gy, oy + k * 4 + 2, none⟩ = some (.string yg) ∧ w'.cell? ⟨gy, oy + k * 4 + 3, none⟩ = some yf ∧ OwnE w' H (.slice A5 nw.length c5) nw ∧ Below H wo w' ∧ H ≤ w'.heap.size)
                (first
                  | assumption
                  | exact l8_keep (x := ⟨xp, xv, xg, xf, xl⟩) (y := ⟨yp, yv, yg, yf, yl⟩) ‹_› hb2
                  | exact L1)
                (first | (go_at_call 14; refine (order7 xp xv yp yv hp1 hp2 hp3 hp4 _).mono ?_; rw [HR'.out]; rintro e2 w2 ⟨rfl, hb2⟩))
              have k2 : L8 H wo gx (ox + i * 4) gy (oy + k * 4) ⟨xp, xv, xg, xf, xl⟩ ⟨yp, yv, yg, yf, yl⟩ (.slice A5 nw.length c5) nw w2 := by assumption
              clear x0 x1 x2 x3 y0 y1 y2 y3
              obtain ⟨x0, x1, x2, x3, y0, y1, y2, y3, ow2, bw2, zw2⟩ := id k2
              simp only [] at x0 x1 x2 x3 y0 y1 y2 y3
              go_wp2_with (first
                | (exfalso; rename_i hu _; simp [undef] at hu; done)
                | (at_builtin; refine appE wo _ _ rfl _ _ rfl H (.slice A5 nw.length c5) nw ⟨yp, yv, yg, yf, yl⟩ hyf.2 (by rfl) ow2 _ (by rfl) rfl zw2 (by omega) bw2 ?_; intro A4 c4 w4 hE4 hb4 hz4))
              go_roundw
              case rel => exact ⟨k + 1, false, _, by go_num, rfl, by omega, HT', hE4, hb4, hz4⟩
              case measure => simp [intOf] <;> omega
        · obtain rfl : k = m := by omega
          have hk0 : ¬ k < out.length := by rw [HM.out]; omega
          have hbw : Below w.heap.size w wr := hB.trans (hbW.mono hHw)
          cases d with
          | true =>
            have HT' := Lib.hid ((st_end_done hk0 HS.out).trans HT.out.symm)
            have hE := ownE_re hown (by omega)
            go_wp2
            exact ⟨⟨i + 1, nw, by go_num, by omega, HT', hE, hbw, by omega⟩, by simp [intOf]; omega⟩
          | false =>
            have HT' := Lib.hid ((st_end_put hk0 HS.out).trans HT.out.symm)
            obtain ⟨x0, x1, x2, x3⟩ := HX'.out
            simp only [] at x0 x1 x2 x3
            go_wp2_with (first
              | (exfalso; rename_i hu _; simp [undef] at hu; done)
              | (at_builtin; refine appE wo _ _ rfl _ _ rfl H (.slice A5 nw.length c5) nw ⟨xp, xv, xg, xf, xl⟩ hx1 (by rfl) hown _ (by rfl) rfl hzW (by omega) hbW ?_; intro A3 c3 w3 hE3 hb3 hz3; have hE := ownE_re hE3 (by simp; omega); have hbw3 : Below w.heap.size w w3 := hB.trans (hb3.mono hHw)))
            exact ⟨⟨i + 1, _, by go_num, by omega, HT', by simpa using hE, hbw3, by omega⟩, by simp [intOf]; omega⟩
    · obtain rfl : i = n := by omega
      have e : out = sortB entB es := by rw [HO.out, ← HN.out, List.take_length]
      have hq' : RE wo _ out := ⟨hq, fun x hx => rf_below (HRF.out x (by rw [e] at hx; exact (sortB_perm entB es).mem_iff.1 hx)) hB⟩
      rw [e] at hq'
      have hfin := Lib.hid hq'
      clear hq' e
      go_wp2
      go_ret
      exact ⟨_, rfl, hfin.out, hB⟩
end Go.Proofs.YtcfmaeonginefaaGreatDoor.Sort7

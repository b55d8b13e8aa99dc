/- cache.Versions: what it answers. -/
import Derived.Test.YtcfmaeonginefaaGreatDoorSortM
import Derived.Test.YtcfmaeonginefaaGreatDoorCompM
import Derived.Test.YtcfmaeonginefaaGreatDoorHeavy
namespace Go.Proofs.YtcfmaeonginefaaGreatDoor.VersC
open Go Go.RowKit Go.Shelf Go.Proofs.YtcfmaeonginefaaGreatDoor.Seq Go.Proofs.YtcfmaeonginefaaGreatDoor.Made Go.Proofs.YtcfmaeonginefaaGreatDoor.Order3 Go.Proofs.YtcfmaeonginefaaGreatDoor.Cmp Go.Proofs.YtcfmaeonginefaaGreatDoor.Row7 Go.Proofs.YtcfmaeonginefaaGreatDoor.Own7 Go.Proofs.YtcfmaeonginefaaGreatDoor.Vers Go.Proofs.YtcfmaeonginefaaGreatDoor.Order7 Go.Proofs.YtcfmaeonginefaaGreatDoor.Heavy Go.Proofs.YtcfmaeonginefaaGreatDoor.SortM Go.Proofs.YtcfmaeonginefaaGreatDoor.CompM
set_option linter.unusedSimpArgs false
set_option linter.unusedVariables false

/-- A slice of texts reads. -/
def RT (w : World) (x : Value) (xs : List ByteArray) : Prop :=
  ∃ (A : Option Addr) (c : Nat), x = .slice A xs.length c ∧ (A = none → c = 0) ∧ xs.length ≤ c ∧ xs.length ≤ 9223372036854775807 ∧ ∀ (i : Nat) (h : i < xs.length), ∃ g o : Nat, A = some ⟨g, o, none⟩ ∧ w.cell? ⟨g, o + i, none⟩ = some (.string xs[i])
theorem rt_keep {w w' : World} {x : Value} {xs : List ByteArray} (h : RT w x xs) (hk : ∀ b i v, w.cell? ⟨b, i, none⟩ = some v → w'.cell? ⟨b, i, none⟩ = some v) : RT w' x xs := by
  obtain ⟨A, c, rfl, hA, hc, hm, hr⟩ := h
  refine ⟨A, c, rfl, hA, hc, hm, fun i hi => ?_⟩
  obtain ⟨g, o, hg, h0⟩ := hr i hi
  exact ⟨g, o, hg, hk _ _ _ h0⟩
theorem rt_below {w w' : World} {x : Value} {xs : List ByteArray} (h : RT w x xs) (hb : Below w.heap.size w w') : RT w' x xs := rt_keep h fun _ _ _ k => cellK k hb
/-- An own row of texts. -/
def OwnT (w : World) (B : Nat) (v : Value) (xs : List ByteArray) : Prop := OwnK encT 1 9 w B v xs
theorem ownT_rt {w : World} {B : Nat} {v : Value} {xs : List ByteArray} (h : OwnT w B v xs) (hn : xs.length ≤ 9223372036854775807) : RT w v xs := by
  obtain ⟨A, c, rfl, hA, hc, hg⟩ := own_shape h
  refine ⟨A, c, rfl, hA, hc, hn, fun i hi => ?_⟩
  obtain ⟨g, rfl, _⟩ := hg i hi
  refine ⟨g, 0, rfl, ?_⟩
  have := own_cell (enc := encT) (k := 1) (fun _ => rfl) h hi (j := 0) (by omega) (u := .string xs[i]) rfl
  simpa using this

/-- The modules of a path. -/
def modsOf (p : ByteArray) (es : List En) : List (ByteArray × ByteArray) := (es.map En.mod).filter (ofB p)
theorem modsOf_yes {p : ByteArray} {es : List En} {i : Nat} (h : i < es.length) (hp : ofB p es[i].mod = true) : modsOf p (es.take (i + 1)) = modsOf p (es.take i) ++ [es[i].mod] := by
  unfold modsOf
  rw [List.take_succ_eq_append_getElem h, List.map_append, List.filter_append]
  simp [hp]
theorem modsOf_no {p : ByteArray} {es : List En} {i : Nat} (h : i < es.length) (hp : ofB p es[i].mod = false) : modsOf p (es.take (i + 1)) = modsOf p (es.take i) := by
  unfold modsOf
  rw [List.take_succ_eq_append_getElem h, List.map_append, List.filter_append]
  simp [hp]
theorem modsOf_len (p : ByteArray) (es : List En) : (modsOf p es).length ≤ es.length := by
  unfold modsOf
  exact Nat.le_trans (List.length_filter_le _ _) (by simp)

set_option maxRecDepth 100000 in
set_option maxHeartbeats 16000000 in
theorem versions {v : Value} {es : List En} (w : World) (path : ByteArray) (h : RE w v es) (hfit : Fits es) :
    Calls Tryz.prog 16 #[v, .string path] w fun e w' => ∃ v', e = .returned v' ∧ RT w' v' (verL path (es.map En.mod)) ∧ Below w.heap.size w w' := by
  obtain ⟨⟨A, c, rfl, hA, hc, hm, hr⟩, hrf⟩ := h
  have HA := Lib.hid hr
  have HRF := Lib.hid hrf
  have HFIT := Lib.hid hfit
  have h50 := hfit.1
  clear hr hrf hfit
  obtain ⟨n, hnn⟩ : ∃ n, es.length = n := ⟨_, rfl⟩
  rw [hnn] at hm hc h50 ⊢
  have HN := Lib.hid hnn
  clear hnn
  go_enter Tryz.func16, Tryz.ntmps16
  go_wp2
  go_loopw [5, 7, 13] (fun v5 v7 v13 W => ∃ (i : Nat) (ms : List (ByteArray × ByteArray)), v13 = .int .i64 i ∧ i ≤ n ∧ Hid (ms = modsOf path (es.take i)) ∧ OwnM W w.heap.size v5 ms ∧ Below w.heap.size w W ∧ w.heap.size ≤ W.heap.size) (fun v5 v7 v13 W => n - (intOf v13).toNat)
  case atStart => exact ⟨0, [], rfl, Nat.zero_le _, Lib.hid (by simp [modsOf]), own_nil _ _ _ _ _, Below.refl _ _, Nat.le_refl _⟩
  case round =>
    obtain ⟨i, ms, rfl, hi, HO, hown, hB, hz⟩ := hrel
    obtain ⟨A5, c5, rfl, _⟩ := own_shape hown
    have hml : ms.length ≤ 50 := by
      rw [HO.out]
      have := modsOf_len path (es.take i)
      rw [List.length_take] at this
      omega
    by_cases hlt : i < n
    · have hl' : i < es.length := by rw [HN.out]; exact hlt
      obtain ⟨gx, ox, hgx, x0, x1, x2, x3⟩ := HA.out i hl'
      subst hgx
      have x0 := (hB.cell (p := ⟨gx, ox + i * 4, none⟩) (cell_lt x0)).trans x0
      have x1 := (hB.cell (p := ⟨gx, ox + i * 4 + 1, none⟩) (cell_lt x1)).trans x1
      have x2 := (hB.cell (p := ⟨gx, ox + i * 4 + 2, none⟩) (cell_lt x2)).trans x2
      have x3 := (hB.cell (p := ⟨gx, ox + i * 4 + 3, none⟩) (cell_lt x3)).trans x3
      have HY := Lib.hid (modsOf_yes (p := path) hl')
      have HZ := Lib.hid (modsOf_no (p := path) hl')
      have hxf := HRF.out es[i] (List.getElem_mem hl')
      generalize es[i] = x at *
      obtain ⟨xp, xv, xg, xf, xl⟩ := x
      simp only [] at x0 x1 x2 x3 hxf
      obtain ⟨Bf, df, rfl, -⟩ := hxf
      generalize xl.length = ll at x3
      have hbx : Below wr.heap.size wr (wr.alloc (.cells #[.string xp, .string xv, .string xg, .slice Bf ll df] 38)) := (Below.refl _ _).alloc (Nat.le_refl _) _
      have hown1 : OwnM (wr.alloc (.cells #[.string xp, .string xv, .string xg, .slice Bf ll df] 38)) w.heap.size (.slice A5 ms.length c5) ms := own_below hown hbx
      have hB1 := hB.trans (hbx.mono hz)
      have hz1 : w.heap.size ≤ (wr.alloc (.cells #[.string xp, .string xv, .string xg, .slice Bf ll df] 38)).heap.size := by simp; omega
      have HZ1 := Lib.hid (show (wr.alloc (.cells #[.string xp, .string xv, .string xg, .slice Bf ll df] 38)).heap.size = wr.heap.size + 1 by simp)
      by_cases hp : xp.toList = path.toList
      · have HT := Lib.hid (HY.out (by show (xp.toList == path.toList) = true; simpa using hp))
        clear HY HZ
        go_wp2_with (first
          | (exfalso; rename_i hu _; simp [undef] at hu; done)
          | (at_builtin; refine appM w (wr.alloc (.cells #[.string xp, .string xv, .string xg, .slice Bf ll df] 38)) _ rfl _ _ rfl w.heap.size (.slice A5 ms.length c5) ms xp xv (by rfl) hown1 (wr.heap.size + 1) (by rfl) HZ1.out hz1 (by omega) hB1 ?_; intro A6 c6 w6 hE6 hb6 hz6))
        go_roundw
        case rel => exact ⟨i + 1, _, by go_num, by omega, Lib.hid (by rw [HT.out, HO.out]; rfl), hE6, hb6, hz6⟩
        case measure => simp [intOf] <;> omega
      · have HT := Lib.hid (HZ.out (by show (xp.toList == path.toList) = false; simpa using hp))
        have hp2 : (xp.toList == path.toList) = false := by simpa using hp
        clear HY HZ hp
        go_wp2_with (first
          | (exfalso; rename_i hu _; simp [undef] at hu; done))
        go_roundw
        case rel => exact ⟨i + 1, _, by go_num, by omega, Lib.hid (by rw [HT.out, HO.out]), hown1, hB1, hz1⟩
        case measure => simp [intOf] <;> omega
    · obtain rfl : i = n := by omega
      have hms : ms = modsOf path es := by rw [HO.out, ← HN.out, List.take_length]
      have hfs : ∀ m ∈ ms, m.1.size ≤ 1048576 ∧ m.2.size ≤ 1048576 := by
        intro m hm
        rw [hms] at hm
        obtain ⟨hm, _⟩ := List.mem_filter.1 hm
        obtain ⟨e, he, rfl⟩ := List.mem_map.1 hm
        have := HFIT.out.2 e he
        exact ⟨Nat.le_trans this.1 (by decide), Nat.le_trans this.2.1 (by decide)⟩
      have HFS := Lib.hid hfs
      have hsl : (ms.mergeSort leB).length ≤ 50 := by rw [List.length_mergeSort]; exact hml
      have HV := Lib.hid (show (dd (ms.mergeSort leB)).map (·.2) = verL path (es.map En.mod) by
        rw [hms]; exact ver_same path (es.map En.mod))
      clear hms hfs
      generalize hS : ms.mergeSort leB = S at *
      have HS := Lib.hid hS
      clear hS
      go_wp2_with (first
        | (exfalso; rename_i hu _; simp [undef] at hu; done)
        | (go_at_call 41; refine (sortM w _ w.heap.size _ ms hown hB HFS.out (by omega) hz).mono ?_; rw [HS.out]; rintro e w2 ⟨rfl, ho2, hb2, hz2⟩)
        | (go_at_call 42; refine (compM w _ w.heap.size _ S ho2 hb2 (by omega)).mono ?_; rintro e w3 ⟨v3, rfl, hr3, hb3⟩; obtain ⟨A3, c3, rfl, hA3, hc3, hm3, hr3⟩ := hr3))
      have hbw : Below w.heap.size w w3 := hb3
      have HR3 := Lib.hid hr3
      have hDl : (dd S).length ≤ 50 := Nat.le_trans (dd_len S) hsl
      have HV' := HV
      generalize dd S = D at *
      obtain ⟨m, hmm⟩ : ∃ m, D.length = m := ⟨_, rfl⟩
      rw [hmm] at hDl hc3 hm3 ⊢
      have HM := Lib.hid hmm
      have hz3 : w.heap.size ≤ w3.heap.size := hbw.size
      clear hr3 hmm hb3 hb2 ho2 hz2 hown hB hz
      go_loopw [8, 10, 33] (fun v8 v10 v33 W => ∃ (k : Nat) (out : List ByteArray), v33 = .int .i64 k ∧ k ≤ m ∧ Hid (out = (D.take k).map (·.2)) ∧ OwnT W w3.heap.size v8 out ∧ Below w3.heap.size w3 W ∧ w3.heap.size ≤ W.heap.size) (fun v8 v10 v33 W => m - (intOf v33).toNat)
      case atStart => exact ⟨0, [], rfl, Nat.zero_le _, Lib.hid (by simp), own_nil _ _ _ _ _, Below.refl _ _, Nat.le_refl _⟩
      case round =>
        obtain ⟨k, out, rfl, hk, HO2, hown, hB, hz⟩ := hrel
        obtain ⟨A8, c8, rfl, _⟩ := own_shape hown
        have hol : out.length ≤ 50 := by
          rw [HO2.out, List.length_map, List.length_take]; omega
        by_cases hlt : k < m
        · have hk' : k < D.length := by rw [HM.out]; exact hlt
          obtain ⟨gy, oy, hgy, y0, y1⟩ := HR3.out k hk'
          subst hgy
          have y0 := (hB.cell (p := ⟨gy, oy + k * 2, none⟩) (cell_lt y0)).trans y0
          have y1 := (hB.cell (p := ⟨gy, oy + k * 2 + 1, none⟩) (cell_lt y1)).trans y1
          have HT := Lib.hid (show (D.take (k + 1)).map (·.2) = out ++ [D[k].2] by
            rw [List.take_succ_eq_append_getElem hk', List.map_append, ← HO2.out]; rfl)
          generalize D[k] = y at *
          obtain ⟨yp, yv⟩ := y
          simp only [] at y0 y1 HT
          have hbx : Below wr.heap.size wr (wr.alloc (.cells #[.string yp, .string yv] 23)) := (Below.refl _ _).alloc (Nat.le_refl _) _
          have hown1 : OwnT (wr.alloc (.cells #[.string yp, .string yv] 23)) w3.heap.size (.slice A8 out.length c8) out := own_below hown hbx
          have hB1 := hB.trans (hbx.mono hz)
          have hz1 : w3.heap.size ≤ (wr.alloc (.cells #[.string yp, .string yv] 23)).heap.size := by simp; omega
          have HZ1 := Lib.hid (show (wr.alloc (.cells #[.string yp, .string yv] 23)).heap.size = wr.heap.size + 1 by simp)
          go_wp2_with (first
            | (exfalso; rename_i hu _; simp [undef] at hu; done)
            | (at_builtin; refine appT w3 (wr.alloc (.cells #[.string yp, .string yv] 23)) _ rfl _ _ rfl w3.heap.size (.slice A8 out.length c8) out yv (by rfl) hown1 (wr.heap.size + 1) (by rfl) HZ1.out hz1 (by omega) hB1 ?_; intro A6 c6 w6 hE6 hb6 hz6))
          go_roundw
          case rel => exact ⟨k + 1, _, by go_num, by omega, Lib.hid HT.out.symm, hE6, hb6, hz6⟩
          case measure => simp [intOf] <;> omega
        · obtain rfl : k = m := by omega
          have e : out = verL path (es.map En.mod) := by
            rw [HO2.out, ← HM.out, List.take_length]
            exact HV.out
          have hfin := Lib.hid (show RT wr (.slice A8 out.length c8) (verL path (es.map En.mod)) by
            rw [← e]; exact ownT_rt hown (by omega))
          have hbf : Below w.heap.size w wr := hbw.trans (hB.mono hz3)
          clear e
          go_wp2
          go_ret
          exact ⟨_, rfl, hfin.out, hbf⟩
end Go.Proofs.YtcfmaeonginefaaGreatDoor.VersC

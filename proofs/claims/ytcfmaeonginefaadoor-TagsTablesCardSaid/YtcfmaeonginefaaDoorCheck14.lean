/- graftbedref14.Check: what it answers. -/
import Derived.Test.YtcfmaeonginefaaDoorCheck
import Derived.Test.YtcfmaeonginefaaDoorAppend
import Derived.Deep.QuietTactic
import Derived.BigQuiet
namespace Go.Proofs.YtcfmaeonginefaaDoor.Check14
open Go Go.RowKit Go.Shelf Go.Maps Go.Proofs.YtcfmaeonginefaaDoor.Made Go.Proofs.YtcfmaeonginefaaDoor.Import Go.Proofs.YtcfmaeonginefaaDoor.Base Go.Proofs.YtcfmaeonginefaaDoor.Sets Go.Proofs.YtcfmaeonginefaaDoor.Of Go.Proofs.YtcfmaeonginefaaDoor.Each Go.Proofs.YtcfmaeonginefaaDoor.Tag Go.Proofs.YtcfmaeonginefaaDoor.Has Go.Proofs.YtcfmaeonginefaaDoor.Check Go.Proofs.YtcfmaeonginefaaDoor.Append
set_option linter.unusedSimpArgs false
set_option linter.unusedVariables false

theorem dup_mono {l : List ByteArray} (h : dupB l = true) : ∀ r, dupB (l ++ r) = true := by
  intro r
  induction r generalizing l with
  | nil => rwa [List.append_nil]
  | cons x r ih =>
    rw [show l ++ x :: r = (l ++ [x]) ++ r by simp]
    exact ih (by rw [dup_snoc, h]; rfl)
theorem dup_take (xs : List ByteArray) (k : Nat) (h : k < xs.length) : dupB (xs.take (k + 1)) = (dupB (xs.take k) || inL xs[k] (xs.take k)) := by
  rw [List.take_succ_eq_append_getElem h, dup_snoc]
theorem dup_some {xs : List ByteArray} {k : Nat} (h : dupB (xs.take k) = true) : dupB xs = true := by
  have := dup_mono h (xs.drop k)
  rwa [List.take_append_drop] at this
theorem rq_take {w : World} {A : Option Addr} {c : Nat} {xs : List ByteArray} (h : Rq w (.slice A xs.length c) xs) (k : Nat) (hk : k ≤ xs.length) : Rq w (.slice A k c) (xs.take k) := by
  obtain ⟨A', c', he, hA, hc, hr⟩ := h
  cases he
  have hl : (xs.take k).length = k := by rw [List.length_take]; omega
  refine ⟨A, c, by rw [hl], hA, by omega, fun i hi => ?_⟩
  rw [hl] at hi
  obtain ⟨g, o, hg, hcell⟩ := hr i (by omega)
  refine ⟨g, o, hg, ?_⟩
  rw [hcell]; simp
theorem rq_belowN {w w' : World} {v : Value} {xs : List ByteArray} {N : Nat} (h : Rq w v xs) (hN : w.heap.size = N) (hb : Below N w w') : Rq w' v xs := by subst hN; exact rq_below h hb
theorem has14q {v : Value} {xs : List ByteArray} (s : ByteArray) {r : Bool} (w : World) (h : Rq w v xs) (hn : xs.length ≤ 1048577) (hr : inL s xs = r) :
    Calls Tryd.prog 28 #[v, .string s] w fun e w' => e = .returned (.bool r) ∧ w' = w := (has14 s w h hn).mono fun e w' k => ⟨by rw [k.1, hr], k.2.symm⟩
theorem rq_drew {w : World} {v : Value} {xs : List ByteArray} (h : Rq w v xs) (n : Nat) : Rq (w.drewN n) v xs := rq_below h (pw_drewN (Below.refl _ _) n)
theorem empty_eq (x : ByteArray) : (x.toList == (⟨#[]⟩ : ByteArray).toList) = x.toList.isEmpty := by
  rw [show ((⟨#[]⟩ : ByteArray).toList) = [] by rw [ByteArray.toList_eq]]
  cases x.toList <;> rfl


set_option maxRecDepth 100000 in
set_option maxHeartbeats 16000000 in
theorem Check14 (v0 v1 v2 v3 v4 v5 : Value) (OS Un Ar St Re Li : List ByteArray) (w : World) (h0 : Rq w v0 OS) (h1 : Rq w v1 Un) (h2 : Rq w v2 Ar) (h3 : Rq w v3 St) (h4 : Rq w v4 Re) (h5 : Rq w v5 Li)
    (f0 : Fit OS) (f1 : Fit Un) (f2 : Fit Ar) (f3 : Fit St) (f4 : Fit Re) (f5 : Fit Li) :
    Calls Tryd.prog 15 #[.agg #[v0, v1, v2, v3, v4, v5]] w fun e w' => e = .returned (.int .i64 (checkI OS Un Ar St Re Li)) ∧ Below w.heap.size w w' := by
  have hB := below_alloc w (.cells #[v0, v1, v2, v3, v4, v5] 24)
  have hsz := alloc_size w (.cells #[v0, v1, v2, v3, v4, v5] 24)
  have c0 := cell_new w #[v0, v1, v2, v3, v4, v5] 24 0 v0 rfl
  have c1 := cell_new w #[v0, v1, v2, v3, v4, v5] 24 1 v1 rfl
  have c2 := cell_new w #[v0, v1, v2, v3, v4, v5] 24 2 v2 rfl
  have c3 := cell_new w #[v0, v1, v2, v3, v4, v5] 24 3 v3 rfl
  have c4 := cell_new w #[v0, v1, v2, v3, v4, v5] 24 4 v4 rfl
  have c5 := cell_new w #[v0, v1, v2, v3, v4, v5] 24 5 v5 rfl
  replace h0 := rq_below h0 hB
  replace h1 := rq_below h1 hB
  replace h2 := rq_below h2 hB
  replace h3 := rq_below h3 hB
  replace h4 := rq_below h4 hB
  replace h5 := rq_below h5 hB
  obtain ⟨A0, k0, e0, _⟩ := id h0
  obtain ⟨A1, k1, e1, _⟩ := id h1
  obtain ⟨A2, k2, e2, _⟩ := id h2
  obtain ⟨A3, k3, e3, _⟩ := id h3
  obtain ⟨A4, k4, e4, _⟩ := id h4
  obtain ⟨A5, k5, e5, _⟩ := id h5
  subst e0 e1 e2 e3 e4 e5
  have hE0 := own_empty (w.alloc (.cells #[.slice A0 OS.length k0, .slice A1 Un.length k1, .slice A2 Ar.length k2, .slice A3 St.length k3, .slice A4 Re.length k4, .slice A5 Li.length k5] 24)) (w.heap.size + 1) (by rw [hsz]; exact Nat.le_refl _)
  rw [hsz] at hE0
  have hb0 := below_alloc (w.alloc (.cells #[.slice A0 OS.length k0, .slice A1 Un.length k1, .slice A2 Ar.length k2, .slice A3 St.length k3, .slice A4 Re.length k4, .slice A5 Li.length k5] 24)) (.cells #[] 9)
  rw [hsz] at hb0
  have hl0 := alloc_size (w.alloc (.cells #[.slice A0 OS.length k0, .slice A1 Un.length k1, .slice A2 Ar.length k2, .slice A3 St.length k3, .slice A4 Re.length k4, .slice A5 Li.length k5] 24)) (.cells #[] 9)
  rw [hsz] at hl0
  have hl0' : w.heap.size + 1 ≤ w.heap.size + 1 + 1 := Nat.le_succ _
  rw [← hl0] at hl0'
  have hlt : w.heap.size < w.heap.size + 1 := Nat.lt_succ_self _
  have z0 := f0.1
  have z1 := f1.1
  have z2 := f2.1
  have z3 := f3.1
  have z4 := f4.1
  have z5 := f5.1
  obtain ⟨R, hR⟩ : ∃ R, checkI OS Un Ar St Re Li = R := ⟨_, rfl⟩
  rw [hR]
  have HR := Lib.hid hR
  clear hR
  go_enter Tryd.func15, Tryd.ntmps15
  go_wp2_with (first
    | (at_builtin; refine append_rq _ rfl _ _ rfl _ _ _ _ Re rfl hE2 rfl (rq_belowN h4 hsz hb2) hl2 (by first | omega | (simp only [List.length_append, List.nil_append]; omega)) ?_; intro A c w3 hE3 hg3; simp only [List.length_append, Nat.add_assoc] at hE3; have hb3 := own_grown hb2 hE2 hg3 hl2; have hl3 := Nat.le_trans hl2 hg3.size)
    | (at_builtin; refine append_rq _ rfl _ _ rfl _ _ _ _ Ar rfl hE1 rfl (rq_belowN h2 hsz hb1) hl1 (by first | omega | (simp only [List.length_append, List.nil_append]; omega)) ?_; intro A c w2 hE2 hg2; simp only [List.length_append] at hE2; have hb2 := own_grown hb1 hE1 hg2 hl1; have hl2 := Nat.le_trans hl1 hg2.size; have d4 := (hb2.cell (p := ⟨w.heap.size, 4, none⟩) hlt).trans c4)
    | (at_builtin; refine append_rq _ rfl _ _ rfl _ _ _ _ OS rfl hE0 rfl (rq_belowN h0 hsz hb0) hl0' (by first | omega | (simp only [List.length_append, List.length_nil]; omega)) ?_; intro A c w1 hE1 hg1; simp only [List.nil_append] at hE1; have hb1 := own_grown hb0 hE0 hg1 hl0'; have hl1 := Nat.le_trans hl0' hg1.size; have d2 := (hb1.cell (p := ⟨w.heap.size, 2, none⟩) hlt).trans c2))
  have hq := own_rq hE3
  obtain ⟨all, hall⟩ : ∃ all, OS ++ Ar ++ Re = all := ⟨_, rfl⟩
  have hlen : OS.length + (Ar.length + Re.length) = all.length := by rw [← hall, List.length_append, List.length_append, Nat.add_assoc]
  have hall2 : OS ++ (Ar ++ Re) = all := by rw [← hall, List.append_assoc]
  rw [hall, hlen] at hq
  have hF : ∀ x ∈ all, x.size ≤ 100 := by rw [← hall2]; exact fit3 f0 f2 f4
  have hR := HR.out
  unfold checkI at hR
  rw [hall2] at hR
  have HRR := Lib.hid hR
  rw [hlen]
  obtain ⟨n, hn⟩ : ∃ n, all.length = n := ⟨_, rfl⟩
  have hn120 : n ≤ 120 := by rw [← hn, ← hlen]; omega
  rw [hn] at hq ⊢
  have HN := Lib.hid hn
  have HF := Lib.hid hF
  have HQ := Lib.hid hq
  have hbw : Below w.heap.size w w3 := hB.trans (hb3.mono (Nat.le_succ _))
  have hlt3 : w.heap.size < w3.heap.size := Nat.lt_of_lt_of_le hlt hl3
  have e0 := (hb3.cell (p := ⟨w.heap.size, 0, none⟩) hlt).trans c0
  have e1 := (hb3.cell (p := ⟨w.heap.size, 1, none⟩) hlt).trans c1
  have e3 := (hb3.cell (p := ⟨w.heap.size, 3, none⟩) hlt).trans c3
  have e5 := (hb3.cell (p := ⟨w.heap.size, 5, none⟩) hlt).trans c5
  have E0 := Lib.hid e0
  have E1 := Lib.hid e1
  have E3 := Lib.hid e3
  have E5 := Lib.hid e5
  have G0 := Lib.hid (rq_belowN h0 hsz hb3)
  have G1 := Lib.hid (rq_belowN h1 hsz hb3)
  have G3 := Lib.hid (rq_belowN h3 hsz hb3)
  have G5 := Lib.hid (rq_belowN h5 hsz hb3)
  obtain ⟨A', c', he, -, hcap, hr⟩ := hq
  obtain ⟨rfl, hnn, rfl⟩ : A = A' ∧ n = all.length ∧ c = c' := by injection he with h1 h2 h3; exact ⟨h1, h2, h3⟩
  rw [HN.out] at hcap
  have HA := Lib.hid hr
  clear he hr hnn hn hF hR HR hall hall2 hlen e0 e1 e3 e5 h0 h1 h2 h3 h4 h5 c0 c1 c2 c3 c4 c5 hb1 hb2 hb3 hb0 hE0 hE1 hE2 hE3 hg1 hg2 hg3 hl0 hl1 hl2 hl0' hB hsz d2 d4
  go_loop [4] (fun i => ∃ k : Nat, i = .int .i64 k ∧ k ≤ n ∧ Hid ((all.take k).all tagT = true)) (fun i => n - (intOf i).toNat)
  case atStart => exact ⟨0, rfl, Nat.zero_le _, Lib.hid rfl⟩
  case round =>
    obtain ⟨k, rfl, hk, HT⟩ := hrel
    by_cases hlt1 : k < n
    · have hl' : k < all.length := by rw [HN.out]; exact hlt1
      obtain ⟨g, o, hg, hc⟩ := HA.out k hl'
      subst hg
      have hx := HF.out all[k] (List.getElem_mem hl')
      have HTT := Lib.hid (take_all tagT all k hl' HT.out)
      have HFF := Lib.hid (all_false tagT all k hl')
      obtain ⟨x, hxe⟩ : ∃ x, all[k] = x := ⟨_, rfl⟩
      rw [hxe] at hc hx HTT HFF
      clear hxe hl'
      cases hp : tagT x with
      | false =>
        have HS := Lib.hid (show R = 1 by rw [← HRR.out]; unfold allB; rw [HFF.out hp]; rfl)
        have HP := Lib.hid hp
        clear hp
        go_wp2_with (go_at_call 35; refine (tag14 x (by omega) _).mono ?_; rw [HP.out]; rintro e w' ⟨rfl, rfl⟩)
        go_ret
        exact ⟨ret_num HS.out.symm, hbw⟩
      | true =>
        have HP := Lib.hid hp
        have HS := Lib.hid (HTT.out.trans hp)
        clear hp
        go_wp2_with (go_at_call 35; refine (tag14 x (by omega) _).mono ?_; rw [HP.out]; rintro e w' ⟨rfl, rfl⟩)
        go_round
        case rel => exact ⟨k + 1, by go_num, by omega, HS⟩
        case measure => simp [intOf] <;> omega
    · have H1 := Lib.hid (show allB tagT all = true by
        have := HT.out
        rwa [List.take_of_length_le (by have := HN.out; omega)] at this)
      go_wp2
      go_loopw [5] (fun i wr => ∃ k : Nat, i = .int .i64 k ∧ k ≤ Un.length ∧ Hid ((Un.take k).all (fun s => inL s OS) = true) ∧ Below w3.heap.size w3 wr) (fun i wr => Un.length - (intOf i).toNat)
      case atStart => exact ⟨0, rfl, Nat.zero_le _, Lib.hid rfl, Below.refl _ _⟩
      case round =>
        obtain ⟨k, rfl, hk, HT, hb⟩ := hrel
        have m0 := (hb.cell (p := ⟨w.heap.size, 0, none⟩) hlt3).trans E0.out
        have m1 := (hb.cell (p := ⟨w.heap.size, 1, none⟩) hlt3).trans E1.out
        have hbb := hbw.trans (hb.mono hbw.size)
        by_cases hlt2 : k < Un.length
        · have Q0 := Lib.hid (rq_below G0.out hb)
          obtain ⟨A', c', he, -, -, hr⟩ := rq_below G1.out hb
          obtain ⟨rfl, rfl⟩ : A1 = A' ∧ k1 = c' := by injection he with h1 h2 h3; exact ⟨h1, h3⟩
          obtain ⟨g, o, hg, hc⟩ := hr k hlt2
          subst hg
          have HTT := Lib.hid (take_all (fun s => inL s OS) Un k hlt2 HT.out)
          have HFF := Lib.hid (all_false (fun s => inL s OS) Un k hlt2)
          obtain ⟨x, hxe⟩ : ∃ x, Un[k] = x := ⟨_, rfl⟩
          rw [hxe] at hc HTT HFF
          have hki : (k : Int) < Un.length := by omega
          clear hxe he hr
          cases hp : inL x OS with
          | false =>
            have HS := Lib.hid (show R = 1 by rw [← HRR.out, H1.out]; unfold allB; rw [HFF.out hp]; rfl)
            have HP := Lib.hid hp
            clear hp
            go_wp2_with (first | (exfalso; rename_i hu _; simp [undef] at hu; done))
            go_quiet ((go_at_call 28; exact Calls.quiet_of_same (has14q x _ (rq_drew Q0.out _) (by omega) HP.out)))
            go_wp2
            go_ret
            exact ⟨ret_num HS.out.symm, pw_drewN hbb _⟩
          | true =>
            have HP := Lib.hid hp
            have HS := Lib.hid (HTT.out.trans hp)
            clear hp
            go_wp2_with (first | (exfalso; rename_i hu _; simp [undef] at hu; done))
            go_quiet ((go_at_call 28; exact Calls.quiet_of_same (has14q x _ (rq_drew Q0.out _) (by omega) HP.out)))
            go_wp2
            exact ⟨⟨k + 1, by go_num, by omega, HS, pw_drewN hb _⟩, by simp [intOf] <;> omega⟩
        · have H2 := Lib.hid (show allB (fun s => inL s OS) Un = true by
            have := HT.out
            rwa [List.take_of_length_le (by omega)] at this)
          go_wp2
          go_loopw [6] (fun i wr => ∃ k : Nat, i = .int .i64 k ∧ k ≤ St.length ∧ Hid ((St.take k).all importB = true) ∧ Below w3.heap.size w3 wr) (fun i wr => St.length - (intOf i).toNat)
          case atStart => exact ⟨0, rfl, Nat.zero_le _, Lib.hid rfl, hb⟩
          case round =>
            clear hb m0 m1 hbb
            obtain ⟨k, rfl, hk, HT, hb⟩ := hrel
            have m3 := (hb.cell (p := ⟨w.heap.size, 3, none⟩) hlt3).trans E3.out
            have hbb := hbw.trans (hb.mono hbw.size)
            by_cases hlt4 : k < St.length
            · obtain ⟨A', c', he, -, -, hr⟩ := rq_below G3.out hb
              obtain ⟨rfl, rfl⟩ : A3 = A' ∧ k3 = c' := by injection he with h1 h2 h3; exact ⟨h1, h3⟩
              obtain ⟨g, o, hg, hc⟩ := hr k hlt4
              subst hg
              have hx := f3.2 St[k] (List.getElem_mem hlt4)
              have HTT := Lib.hid (take_all importB St k hlt4 HT.out)
              have HFF := Lib.hid (all_false importB St k hlt4)
              obtain ⟨x, hxe⟩ : ∃ x, St[k] = x := ⟨_, rfl⟩
              rw [hxe] at hc HTT HFF hx
              have hki : (k : Int) < St.length := by omega
              clear hxe he hr
              cases hp : importB x with
              | false =>
                have HS := Lib.hid (show R = 1 by rw [← HRR.out, H1.out, H2.out]; unfold allB; rw [HFF.out hp]; rfl)
                have HP := Lib.hid hp
                clear hp
                go_wp2_with (first
                  | (exfalso; rename_i hu _; simp [undef] at hu; done)
                  | (go_at_call 40; refine (RefImp.import01 x (by omega) _).mono ?_; rw [HP.out, errB_no rfl]; rintro e w5 ⟨rfl, hb5⟩))
                go_ret
                exact ⟨ret_num HS.out.symm, hbb.trans (hb5.mono hbb.size)⟩
              | true =>
                have HP := Lib.hid hp
                have HS := Lib.hid (HTT.out.trans hp)
                clear hp
                go_wp2_with (first
                  | (exfalso; rename_i hu _; simp [undef] at hu; done)
                  | (go_at_call 40; refine (RefImp.import01 x (by omega) _).mono ?_; rw [HP.out, errB_yes rfl]; rintro e w5 ⟨rfl, hb5⟩))
                go_roundw
                case rel => exact ⟨k + 1, by go_num, by omega, HS, hb.trans (hb5.mono hb.size)⟩
                case measure => simp [intOf] <;> omega
            · have H3 := Lib.hid (show allB importB St = true by
                have := HT.out
                rwa [List.take_of_length_le (by omega)] at this)
              go_wp2
              go_loopw [7] (fun i wr => ∃ k : Nat, i = .int .i64 k ∧ k ≤ Li.length ∧ Hid (inL ⟨#[]⟩ (Li.take k) = false) ∧ Below w3.heap.size w3 wr) (fun i wr => Li.length - (intOf i).toNat)
              case atStart => exact ⟨0, rfl, Nat.zero_le _, Lib.hid (by rw [List.take_zero, inL_nil]), hb⟩
              case round =>
                clear hb m3 hbb
                obtain ⟨k, rfl, hk, HT, hb⟩ := hrel
                have m5 := (hb.cell (p := ⟨w.heap.size, 5, none⟩) hlt3).trans E5.out
                have hbb := hbw.trans (hb.mono hbw.size)
                by_cases hlt5 : k < Li.length
                · obtain ⟨A', c', he, -, -, hr⟩ := rq_below G5.out hb
                  obtain ⟨rfl, rfl⟩ : A5 = A' ∧ k5 = c' := by injection he with h1 h2 h3; exact ⟨h1, h3⟩
                  obtain ⟨g, o, hg, hc⟩ := hr k hlt5
                  subst hg
                  have HTT := Lib.hid (inL_take ⟨#[]⟩ Li k hlt5)
                  have HMM := Lib.hid (inL_mono (s := ⟨#[]⟩) (xs := Li) (k := k + 1))
                  obtain ⟨x, hxe⟩ : ∃ x, Li[k] = x := ⟨_, rfl⟩
                  rw [hxe] at hc HTT
                  rw [HT.out, Bool.false_or, empty_eq] at HTT
                  have hki : (k : Int) < Li.length := by omega
                  clear hxe he hr
                  cases hp : x.toList.isEmpty with
                  | true =>
                    have HS := Lib.hid (show R = 1 by rw [← HRR.out, H1.out, H2.out, H3.out, HMM.out (HTT.out.trans hp)]; rfl)
                    go_wp2_with (first
                      | (exfalso; rename_i hu _; simp [undef] at hu; done))
                    go_ret
                    exact ⟨ret_num HS.out.symm, hbb⟩
                  | false =>
                    have HS := Lib.hid (HTT.out.trans hp)
                    go_wp2_with (first
                      | (exfalso; rename_i hu _; simp [undef] at hu; done))
                    go_roundw
                    case rel => exact ⟨k + 1, by go_num, by omega, HS, hb⟩
                    case measure => simp [intOf] <;> omega
                · have H4 := Lib.hid (show inL ⟨#[]⟩ Li = false by
                    have := HT.out
                    rwa [List.take_of_length_le (by omega)] at this)
                  go_wp2
                  go_loopw [8] (fun i wr => ∃ k : Nat, i = .int .i64 k ∧ k ≤ n ∧ Hid (dupB (all.take k) = false) ∧ Below w3.heap.size w3 wr) (fun i wr => n - (intOf i).toNat)
                  case atStart => exact ⟨0, rfl, Nat.zero_le _, Lib.hid (by rw [List.take_zero]; rfl), hb⟩
                  case round =>
                    clear hb m5 hbb
                    obtain ⟨k, rfl, hk, HT, hb⟩ := hrel
                    have hbb := hbw.trans (hb.mono hbw.size)
                    by_cases hlt6 : k < n
                    · have hl' : k < all.length := by rw [HN.out]; exact hlt6
                      obtain ⟨g, o, hg, hc0⟩ := HA.out k hl'
                      have hQ' := rq_below HQ.out hb
                      have hn' := HN.out
                      subst hg
                      rw [← hn'] at hQ'
                      have HQT := Lib.hid (rq_take hQ' k (by omega))
                      have hc := (hb.cell (p := ⟨g, o + k, none⟩) (cell_lt hc0)).trans hc0
                      have HTT := Lib.hid (dup_take all k hl')
                      have HTL := Lib.hid (show (all.take k).length ≤ 1048577 by rw [List.length_take]; omega)
                      obtain ⟨x, hxe⟩ : ∃ x, all[k] = x := ⟨_, rfl⟩
                      rw [hxe] at hc HTT
                      rw [HT.out, Bool.false_or] at HTT
                      have hki : (k : Int) < n := by omega
                      have hkc : (k : Int) ≤ c := by omega
                      have hkc2 : k ≤ c := by omega
                      have hk0 : (0 : Int) ≤ k := by omega
                      clear hxe hc0 hQ' hn' hl'
                      cases hp : inL x (all.take k) with
                      | true =>
                        have HS := Lib.hid (show R = 52 by rw [← HRR.out, H1.out, H2.out, H3.out, H4.out, dup_some (HTT.out.trans hp)]; rfl)
                        have HP := Lib.hid hp
                        clear hp
                        go_wp2_with (first | (exfalso; rename_i hu _; simp [undef] at hu; done))
                        go_quiet ((go_at_call 28; exact Calls.quiet_of_same (has14q x _ (rq_drew HQT.out _) HTL.out HP.out)))
                        go_wp2
                        go_ret
                        exact ⟨ret_num HS.out.symm, pw_drewN hbb _⟩
                      | false =>
                        have HP := Lib.hid hp
                        have HS := Lib.hid (HTT.out.trans hp)
                        clear hp
                        go_wp2_with (first | (exfalso; rename_i hu _; simp [undef] at hu; done))
                        go_quiet ((go_at_call 28; exact Calls.quiet_of_same (has14q x _ (rq_drew HQT.out _) HTL.out HP.out)))
                        go_wp2
                        exact ⟨⟨k + 1, by go_num, by omega, HS, pw_drewN hb _⟩, by simp [intOf] <;> omega⟩
                    · have HS := Lib.hid (show R = 0 by
                        have := HT.out
                        rw [List.take_of_length_le (by have := HN.out; omega)] at this
                        rw [← HRR.out, H1.out, H2.out, H3.out, H4.out, this]; rfl)
                      go_wp2
                      go_ret
                      exact ⟨ret_num HS.out.symm, hbb⟩
end Go.Proofs.YtcfmaeonginefaaDoor.Check14

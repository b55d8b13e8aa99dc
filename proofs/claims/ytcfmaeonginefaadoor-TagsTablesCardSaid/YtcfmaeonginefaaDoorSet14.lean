/- graftbedref14.Set: what it answers. -/
import Derived.Test.YtcfmaeonginefaaDoorPut
import Derived.Test.YtcfmaeonginefaaDoorCheck
namespace Go.Proofs.YtcfmaeonginefaaDoor.Set14
open Go Go.RowKit Go.Maps Go.Proofs.YtcfmaeonginefaaDoor.Made Go.Proofs.YtcfmaeonginefaaDoor.Base Go.Proofs.YtcfmaeonginefaaDoor.Sets Go.Proofs.YtcfmaeonginefaaDoor.Of Go.Proofs.YtcfmaeonginefaaDoor.Each Go.Proofs.YtcfmaeonginefaaDoor.Tag Go.Proofs.YtcfmaeonginefaaDoor.Has Go.Proofs.YtcfmaeonginefaaDoor.Check Go.Proofs.YtcfmaeonginefaaDoor.Append Go.Proofs.YtcfmaeonginefaaDoor.Put
set_option linter.unusedSimpArgs false
set_option linter.unusedVariables false

/-- 'unix'. -/
abbrev unixS : ByteArray := ⟨#[117, 110, 105, 120]⟩
def moreB (OS Ar Re : List ByteArray) (m : ByteArray) : Bool := tagT m && !inL m OS && !inL m Ar && !inL m Re
def baseL (Un : List ByteArray) (os arch : ByteArray) : List ByteArray := if inL os Un = true then putL (putL (putL [] os) arch) unixS else putL (putL [] os) arch
def setI (OS Ar Re more : List ByteArray) (os arch : ByteArray) (rel : Int) : Int :=
  if (inL os OS && inL arch Ar && decide (0 ≤ rel) && decide (rel ≤ Re.length)) = false then 3 else if allB (moreB OS Ar Re) more = false then 1 else 0
def setL (OS Un Ar Re more : List ByteArray) (os arch : ByteArray) (rel : Int) : List ByteArray :=
  if setI OS Ar Re more os arch rel = 0 then more.foldl putL ((Re.take rel.toNat).foldl putL (baseL Un os arch)) else []
theorem putsL_length : ∀ (l b : List ByteArray), (l.foldl putL b).length ≤ b.length + l.length
  | [], b => by simp
  | x :: r, b => by
    have h1 := putsL_length r (putL b x)
    have h2 := putL_length b x
    simp only [List.foldl_cons, List.length_cons]
    omega
theorem baseL_length (Un : List ByteArray) (os arch : ByteArray) : (baseL Un os arch).length ≤ 3 := by
  have h1 := putL_length [] os
  have h2 := putL_length (putL [] os) arch
  have h3 := putL_length (putL (putL [] os) arch) unixS
  simp only [List.length_nil] at h1
  unfold baseL
  split <;> omega
theorem len1 (os : ByteArray) : (putL [] os).length ≤ 10000 := by
  have := putL_length [] os
  simp only [List.length_nil] at this
  omega
theorem len2 (os arch : ByteArray) : (putL (putL [] os) arch).length ≤ 10000 := by
  have := putL_length [] os
  have := putL_length (putL [] os) arch
  simp only [List.length_nil] at *
  omega
theorem puts_snoc (l b : List ByteArray) (k : Nat) (h : k < l.length) : (l.take (k + 1)).foldl putL b = putL ((l.take k).foldl putL b) l[k] := by
  rw [List.take_succ_eq_append_getElem h, List.foldl_append]; rfl
theorem ret2 (v : Value) {a b : Int} (h : a = b) : Ending.returned (.tuple #[v, .int .i64 a]) = .returned (.tuple #[v, .int .i64 b]) := by rw [h]
theorem rq_nil (w : World) : Rq w (.slice none 0 0) [] := ⟨none, 0, rfl, fun _ => rfl, Nat.le_refl _, fun i hi => absurd hi (by simp)⟩
theorem rq_empty (w : World) (e : TypeId) (N : Nat) (hN : w.heap.size = N) : Rq (w.alloc (.cells #[] e)) (.slice (some ⟨N, 0, none⟩) 0 0) [] := ⟨_, _, rfl, (fun h => by cases h), Nat.le_refl _, fun i hi => absurd hi (by simp)⟩

set_option maxRecDepth 100000 in
set_option maxHeartbeats 16000000 in
theorem Set14 (v0 v1 v2 v3 v4 v5 vm : Value) (OS Un Ar St Re Li more : List ByteArray) (os arch : ByteArray) (rel : Int) (w : World) (h0 : Rq w v0 OS) (h1 : Rq w v1 Un) (h2 : Rq w v2 Ar) (h3 : Rq w v3 St) (h4 : Rq w v4 Re) (h5 : Rq w v5 Li) (hm : Rq w vm more)
    (f0 : Fit OS) (f1 : Fit Un) (f2 : Fit Ar) (f4 : Fit Re) (fm : Fit more) (hr1 : -9223372036854775808 ≤ rel) (hr2 : rel < 9223372036854775808) :
    Calls Tryd.prog 13 #[.agg #[v0, v1, v2, v3, v4, v5], .string os, .string arch, .int .i64 rel, vm] w fun e w' =>
      ∃ v, e = .returned (.tuple #[v, .int .i64 (setI OS Ar Re more os arch rel)]) ∧ Rq w' v (setL OS Un Ar Re more os arch rel) ∧ Below w.heap.size w w' := by
  have hB := below_alloc w (.cells #[v0, v1, v2, v3, v4, v5] 24)
  have hsz := alloc_size w (.cells #[v0, v1, v2, v3, v4, v5] 24)
  have hlt : w.heap.size < (w.alloc (.cells #[v0, v1, v2, v3, v4, v5] 24)).heap.size := by rw [hsz]; exact Nat.lt_succ_self _
  have c0 := cell_new w #[v0, v1, v2, v3, v4, v5] 24 0 v0 rfl
  have c1 := cell_new w #[v0, v1, v2, v3, v4, v5] 24 1 v1 rfl
  have c2 := cell_new w #[v0, v1, v2, v3, v4, v5] 24 2 v2 rfl
  have c4 := cell_new w #[v0, v1, v2, v3, v4, v5] 24 4 v4 rfl
  replace h0 := rq_below h0 hB
  replace h1 := rq_below h1 hB
  replace h2 := rq_below h2 hB
  replace h3 := rq_below h3 hB
  replace h4 := rq_below h4 hB
  replace h5 := rq_below h5 hB
  replace hm := rq_below hm hB
  obtain ⟨A0, k0, e0, _⟩ := id h0
  obtain ⟨A1, k1, e1, _⟩ := id h1
  obtain ⟨A2, k2, e2, _⟩ := id h2
  obtain ⟨A3, k3, e3, _⟩ := id h3
  obtain ⟨A4, k4, e4, _⟩ := id h4
  obtain ⟨A5, k5, e5, _⟩ := id h5
  obtain ⟨Am, km, em, _⟩ := id hm
  subst e0 e1 e2 e3 e4 e5 em
  have z0 := f0.1
  have z1 := f1.1
  have z2 := f2.1
  have z4 := f4.1
  have zm := fm.1
  obtain ⟨R, hR⟩ : ∃ R, setI OS Ar Re more os arch rel = R := ⟨_, rfl⟩
  obtain ⟨L, hL⟩ : ∃ L, setL OS Un Ar Re more os arch rel = L := ⟨_, rfl⟩
  rw [hR, hL]
  have hLR := hL
  unfold setL at hLR
  rw [hR] at hLR
  unfold setI at hR
  have HR := Lib.hid hR
  have HL := Lib.hid hLR
  clear hR hL hLR
  cases ha : inL os OS with
  | false =>
    have HS := Lib.hid (show R = 3 by rw [← HR.out, ha]; rfl)
    have HS2 := Lib.hid (show L = [] by rw [← HL.out, HS.out]; rfl)
    have HA := Lib.hid ha
    clear ha
    go_enter Tryd.func13, Tryd.ntmps13
    go_wp2_with (first
      | (exfalso; rename_i hu _; simp [undef] at hu; done)
      | (go_at_call 28; refine (has14 os _ h0 (by omega)).mono ?_; rw [HA.out]; rintro e w' ⟨rfl, rfl⟩))
    go_ret2
    exact ⟨_, ret2 _ HS.out.symm, by rw [HS2.out]; exact rq_nil _, hB⟩
  | true =>
  have HA := Lib.hid ha
  cases hb : inL arch Ar with
  | false =>
    have HS := Lib.hid (show R = 3 by rw [← HR.out, ha, hb]; rfl)
    have HS2 := Lib.hid (show L = [] by rw [← HL.out, HS.out]; rfl)
    have HB := Lib.hid hb
    clear ha hb
    go_enter Tryd.func13, Tryd.ntmps13
    go_wp2_with (first
      | (exfalso; rename_i hu _; simp [undef] at hu; done)
      | (go_at_call 28; have mk2 := mk1; refine (has14 arch _ h2 (by omega)).mono ?_; rw [HB.out]; rintro e w' ⟨rfl, rfl⟩)
      | (go_at_call 28; refine (has14 os _ h0 (by omega)).mono ?_; rw [HA.out]; rintro e w' ⟨rfl, rfl⟩; have mk1 := True.intro))
    go_ret2
    exact ⟨_, ret2 _ HS.out.symm, by rw [HS2.out]; exact rq_nil _, hB⟩
  | true =>
  have HB := Lib.hid hb
  by_cases hc : (0 : Int) ≤ rel ∧ rel ≤ Re.length
  · obtain ⟨hc1, hc2⟩ := hc
    obtain ⟨r, rfl⟩ : ∃ r : Nat, rel = r := ⟨rel.toNat, by omega⟩
    have hrr : r ≤ Re.length := by omega
    have hnlt : decide (Re.length < r) = false := decide_eq_false (by omega)
    have hnlt2 : ¬ Re.length < r := by omega
    have HRR := Lib.hid (show (if allB (moreB OS Ar Re) more = false then 1 else 0) = R by rw [← HR.out, ha, hb, decide_eq_true hc1, decide_eq_true hc2]; rfl)
    clear ha hb hr1 hr2 hc1
    go_enter Tryd.func13, Tryd.ntmps13
    go_wp2_with (first
      | (exfalso; rename_i hu _; simp [undef] at hu; done)
      | (go_at_call 28; have mk2 := mk1; refine (has14 arch _ h2 (by omega)).mono ?_; rw [HB.out]; rintro e w' ⟨rfl, rfl⟩)
      | (go_at_call 28; refine (has14 os _ h0 (by omega)).mono ?_; rw [HA.out]; rintro e w' ⟨rfl, rfl⟩; have mk1 := True.intro))
    go_loopw [12, 13] (fun i v wr => ∃ k : Nat, i = .int .i64 k ∧ k ≤ more.length ∧ Hid ((more.take k).all (moreB OS Ar Re) = true) ∧ wr = w.alloc (.cells #[.slice A0 OS.length k0, .slice A1 Un.length k1, .slice A2 Ar.length k2, .slice A3 St.length k3, .slice A4 Re.length k4, .slice A5 Li.length k5] 24)) (fun i v wr => more.length - (intOf i).toNat)
    case atStart => exact ⟨0, rfl, Nat.zero_le _, Lib.hid rfl, rfl⟩
    case round =>
      obtain ⟨k, rfl, hk, HI, rfl⟩ := hrel
      by_cases hlt1 : k < more.length
      · obtain ⟨A', c', he, -, -, hr⟩ := id hm
        obtain ⟨rfl, rfl⟩ : Am = A' ∧ km = c' := by injection he with h1 h2 h3; exact ⟨h1, h3⟩
        obtain ⟨g, o, hg, hc⟩ := hr k hlt1
        subst hg
        have hx := fm.2 more[k] (List.getElem_mem hlt1)
        have HTT := Lib.hid (take_all (moreB OS Ar Re) more k hlt1 HI.out)
        have HFF := Lib.hid (show moreB OS Ar Re more[k] = false → allB (moreB OS Ar Re) more = false from all_false (moreB OS Ar Re) more k hlt1)
        obtain ⟨x, hxe⟩ : ∃ x, more[k] = x := ⟨_, rfl⟩
        rw [hxe] at hc HTT HFF hx
        have hki : (k : Int) < more.length := by omega
        clear hxe he hr
        cases ht : tagT x with
        | false =>
          have HT := Lib.hid ht
          clear ht
          have HS := Lib.hid (show R = 1 by rw [← HRR.out, HFF.out (by unfold moreB; rw [HT.out]; rfl)]; rfl)
          have HS2 := Lib.hid (show L = [] by rw [← HL.out, HS.out]; rfl)
          clear HFF HTT
          go_wp2_with (first
            | (exfalso; rename_i hu _; simp [undef] at hu; done)
            | (go_at_call 28; have n3 := n2; refine (has14 x _ h4 (by omega)).mono ?_; rw [HR3.out]; rintro e w' ⟨rfl, rfl⟩)
            | (go_at_call 28; have n3 := n1; refine (has14 x _ h2 (by omega)).mono ?_; rw [HR2.out]; rintro e w' ⟨rfl, rfl⟩; have n2 := True.intro)
            | (go_at_call 28; refine (has14 x _ h0 (by omega)).mono ?_; rw [HO.out]; rintro e w' ⟨rfl, rfl⟩; have n1 := True.intro)
            | (go_at_call 35; refine (tag14 x (by omega) _).mono ?_; rw [HT.out]; rintro e w' ⟨rfl, rfl⟩))
          go_ret2
          exact ⟨_, ret2 _ HS.out.symm, by rw [HS2.out]; exact rq_nil _, hB⟩
        | true =>
        have HT := Lib.hid ht
        clear ht
        cases ho : inL x OS with
        | true =>
          have HO := Lib.hid ho
          clear ho
          have HS := Lib.hid (show R = 1 by rw [← HRR.out, HFF.out (by unfold moreB; rw [HT.out, HO.out]; rfl)]; rfl)
          have HS2 := Lib.hid (show L = [] by rw [← HL.out, HS.out]; rfl)
          clear HFF HTT
          go_wp2_with (first
            | (exfalso; rename_i hu _; simp [undef] at hu; done)
            | (go_at_call 28; have n3 := n2; refine (has14 x _ h4 (by omega)).mono ?_; rw [HR3.out]; rintro e w' ⟨rfl, rfl⟩)
            | (go_at_call 28; have n3 := n1; refine (has14 x _ h2 (by omega)).mono ?_; rw [HR2.out]; rintro e w' ⟨rfl, rfl⟩; have n2 := True.intro)
            | (go_at_call 28; refine (has14 x _ h0 (by omega)).mono ?_; rw [HO.out]; rintro e w' ⟨rfl, rfl⟩; have n1 := True.intro)
            | (go_at_call 35; refine (tag14 x (by omega) _).mono ?_; rw [HT.out]; rintro e w' ⟨rfl, rfl⟩))
          go_ret2
          exact ⟨_, ret2 _ HS.out.symm, by rw [HS2.out]; exact rq_nil _, hB⟩
        | false =>
        have HO := Lib.hid ho
        clear ho
        cases h2' : inL x Ar with
        | true =>
          have HR2 := Lib.hid h2'
          clear h2'
          have HS := Lib.hid (show R = 1 by rw [← HRR.out, HFF.out (by unfold moreB; rw [HT.out, HO.out, HR2.out]; rfl)]; rfl)
          have HS2 := Lib.hid (show L = [] by rw [← HL.out, HS.out]; rfl)
          clear HFF HTT
          go_wp2_with (first
            | (exfalso; rename_i hu _; simp [undef] at hu; done)
            | (go_at_call 28; have n3 := n2; refine (has14 x _ h4 (by omega)).mono ?_; rw [HR3.out]; rintro e w' ⟨rfl, rfl⟩)
            | (go_at_call 28; have n3 := n1; refine (has14 x _ h2 (by omega)).mono ?_; rw [HR2.out]; rintro e w' ⟨rfl, rfl⟩; have n2 := True.intro)
            | (go_at_call 28; refine (has14 x _ h0 (by omega)).mono ?_; rw [HO.out]; rintro e w' ⟨rfl, rfl⟩; have n1 := True.intro)
            | (go_at_call 35; refine (tag14 x (by omega) _).mono ?_; rw [HT.out]; rintro e w' ⟨rfl, rfl⟩))
          go_ret2
          exact ⟨_, ret2 _ HS.out.symm, by rw [HS2.out]; exact rq_nil _, hB⟩
        | false =>
        have HR2 := Lib.hid h2'
        clear h2'
        cases h3' : inL x Re with
        | true =>
          have HR3 := Lib.hid h3'
          clear h3'
          have HS := Lib.hid (show R = 1 by rw [← HRR.out, HFF.out (by unfold moreB; rw [HT.out, HO.out, HR2.out, HR3.out]; rfl)]; rfl)
          have HS2 := Lib.hid (show L = [] by rw [← HL.out, HS.out]; rfl)
          clear HFF HTT
          go_wp2_with (first
            | (exfalso; rename_i hu _; simp [undef] at hu; done)
            | (go_at_call 28; have n3 := n2; refine (has14 x _ h4 (by omega)).mono ?_; rw [HR3.out]; rintro e w' ⟨rfl, rfl⟩)
            | (go_at_call 28; have n3 := n1; refine (has14 x _ h2 (by omega)).mono ?_; rw [HR2.out]; rintro e w' ⟨rfl, rfl⟩; have n2 := True.intro)
            | (go_at_call 28; refine (has14 x _ h0 (by omega)).mono ?_; rw [HO.out]; rintro e w' ⟨rfl, rfl⟩; have n1 := True.intro)
            | (go_at_call 35; refine (tag14 x (by omega) _).mono ?_; rw [HT.out]; rintro e w' ⟨rfl, rfl⟩))
          go_ret2
          exact ⟨_, ret2 _ HS.out.symm, by rw [HS2.out]; exact rq_nil _, hB⟩
        | false =>
          have HR3 := Lib.hid h3'
          clear h3'
          have HN := Lib.hid (show ((more.take (k + 1)).all (moreB OS Ar Re)) = true by rw [HTT.out]; unfold moreB; rw [HT.out, HO.out, HR2.out, HR3.out]; rfl)
          clear HFF HTT
          go_wp2_with (first
            | (exfalso; rename_i hu _; simp [undef] at hu; done)
            | (go_at_call 28; have n3 := n2; refine (has14 x _ h4 (by omega)).mono ?_; rw [HR3.out]; rintro e w' ⟨rfl, rfl⟩)
            | (go_at_call 28; have n3 := n1; refine (has14 x _ h2 (by omega)).mono ?_; rw [HR2.out]; rintro e w' ⟨rfl, rfl⟩; have n2 := True.intro)
            | (go_at_call 28; refine (has14 x _ h0 (by omega)).mono ?_; rw [HO.out]; rintro e w' ⟨rfl, rfl⟩; have n1 := True.intro)
            | (go_at_call 35; refine (tag14 x (by omega) _).mono ?_; rw [HT.out]; rintro e w' ⟨rfl, rfl⟩))
          go_roundw
          case rel => exact ⟨k + 1, by go_num, by omega, HN, by first | trivial | rfl⟩
          case measure => simp [intOf] <;> omega
      · have H1 := Lib.hid (show allB (moreB OS Ar Re) more = true by
          have := HI.out
          rwa [List.take_of_length_le (by omega)] at this)
        have HS := Lib.hid (show R = 0 by rw [← HRR.out, H1.out]; rfl)
        have HS2 := Lib.hid (show L = more.foldl putL ((Re.take r).foldl putL (baseL Un os arch)) by rw [← HL.out, HS.out]; rfl)
        have hqe := rq_empty (w.alloc (.cells #[.slice A0 OS.length k0, .slice A1 Un.length k1, .slice A2 Ar.length k2, .slice A3 St.length k3, .slice A4 Re.length k4, .slice A5 Li.length k5] 24)) 9 (w.heap.size + 1) hsz
        have hb0 := below_alloc (w.alloc (.cells #[.slice A0 OS.length k0, .slice A1 Un.length k1, .slice A2 Ar.length k2, .slice A3 St.length k3, .slice A4 Re.length k4, .slice A5 Li.length k5] 24)) (.cells #[] 9)
        cases hU : inL os Un
        all_goals
          have HU := Lib.hid hU
          clear hU HRR HR HL
          go_wp2_with (first
            | (exfalso; rename_i hu _; simp [undef] at hu; done)
            | (go_at_call 36; have p3 := p2; refine (put unixS _ hq4 (len2 _ _)).mono ?_; rintro e w5 ⟨v5, rfl, hq5, hb5⟩)
            | (go_at_call 36; have p3 := p1; refine (put arch _ hq3 (len1 _)).mono ?_; rintro e w4 ⟨v4, rfl, hq4, hb4⟩; have p2 := True.intro; have hb14 := (hb0.trans (hb3.mono hb0.size)).trans (hb4.mono (Nat.le_trans hb0.size hb3.size)); have d1 := (hb14.cell (p := ⟨w.heap.size, 1, none⟩) hlt).trans c1; have g1 := rq_below h1 hb14)
            | (go_at_call 36; refine (put os _ hqe (Nat.zero_le _)).mono ?_; rintro e w3 ⟨v3, rfl, hq3, hb3⟩; have p1 := True.intro)
            | (go_at_call 28; refine (has14 os _ g1 (by omega)).mono ?_; rw [HU.out]; rintro e w' ⟨rfl, rfl⟩))
          first
            | (have hbase : putL (putL (putL [] os) arch) unixS = baseL Un os arch := (by unfold baseL; rw [HU.out]; rfl)
               rw [hbase] at hq5
               have hqL := hq5
               have hbL := hb14.trans (hb5.mono hb14.size)
               clear hq5 hb5)
            | (have hbase : putL (putL [] os) arch = baseL Un os arch := (by unfold baseL; rw [HU.out]; rfl)
               have hqL := hq4
               rw [hbase] at hqL
               have hbL := hb14)
          clear hbase hq4 hq3 hqe d1 g1 hb4 hb3 hb0 hb14 c0 c1 c2
          go_loopw [14, 15] (fun v iv wr => ∃ k : Nat, iv = .int .i64 k ∧ k ≤ r ∧ Rq wr v ((Re.take k).foldl putL (baseL Un os arch)) ∧ Below (w.alloc (.cells #[.slice A0 OS.length k0, .slice A1 Un.length k1, .slice A2 Ar.length k2, .slice A3 St.length k3, .slice A4 Re.length k4, .slice A5 Li.length k5] 24)).heap.size (w.alloc (.cells #[.slice A0 OS.length k0, .slice A1 Un.length k1, .slice A2 Ar.length k2, .slice A3 St.length k3, .slice A4 Re.length k4, .slice A5 Li.length k5] 24)) wr) (fun v iv wr => r - (intOf iv).toNat)
          case atStart => exact ⟨0, rfl, Nat.zero_le _, hqL, hbL⟩
          case round =>
            clear hqL hbL
            obtain ⟨k, rfl, hk, hq, hb⟩ := hrel
            by_cases hlt2 : k < r
            · have hl' : k < Re.length := by omega
              have e4 := (hb.cell (p := ⟨w.heap.size, 4, none⟩) hlt).trans c4
              obtain ⟨A', c', he, -, -, hr⟩ := rq_below h4 hb
              obtain ⟨rfl, rfl⟩ : A4 = A' ∧ k4 = c' := by injection he with h1 h2 h3; exact ⟨h1, h3⟩
              obtain ⟨g, o, hg, hc⟩ := hr k hl'
              subst hg
              have HPS := Lib.hid (puts_snoc Re (baseL Un os arch) k hl')
              obtain ⟨x, hxe⟩ : ∃ x, Re[k] = x := ⟨_, rfl⟩
              rw [hxe] at hc HPS
              have hki : (k : Int) < Re.length := by omega
              have hll : ((Re.take k).foldl putL (baseL Un os arch)).length ≤ 10000 := by
                have := putsL_length (Re.take k) (baseL Un os arch)
                have := baseL_length Un os arch
                rw [List.length_take] at *
                omega
              clear hxe he hr
              go_wp2_with (first
                | (exfalso; rename_i hu _; simp [undef] at hu; done)
                | (go_at_call 36; refine (put x _ hq hll).mono ?_; rintro e w5 ⟨v5, rfl, hq5, hb5⟩))
              go_roundw
              case rel => exact ⟨k + 1, by go_num, by omega, by rw [HPS.out]; exact hq5, hb.trans (hb5.mono hb.size)⟩
              case measure => simp [intOf] <;> omega
            · obtain rfl : k = r := by omega
              obtain ⟨L2, hL2⟩ : ∃ L2, (Re.take k).foldl putL (baseL Un os arch) = L2 := ⟨_, rfl⟩
              have hl2 : L2.length ≤ 100 := by
                have := putsL_length (Re.take k) (baseL Un os arch)
                have := baseL_length Un os arch
                rw [List.length_take] at *
                rw [← hL2]
                omega
              rw [hL2] at hq HS2
              clear hL2
              go_wp2
              go_loopw [14, 16] (fun v iv wr => ∃ k : Nat, iv = .int .i64 k ∧ k ≤ more.length ∧ Rq wr v ((more.take k).foldl putL L2) ∧ Below (w.alloc (.cells #[.slice A0 OS.length k0, .slice A1 Un.length k1, .slice A2 Ar.length k2, .slice A3 St.length k3, .slice A4 Re.length k4, .slice A5 Li.length k5] 24)).heap.size (w.alloc (.cells #[.slice A0 OS.length k0, .slice A1 Un.length k1, .slice A2 Ar.length k2, .slice A3 St.length k3, .slice A4 Re.length k4, .slice A5 Li.length k5] 24)) wr) (fun v iv wr => more.length - (intOf iv).toNat)
              case atStart => exact ⟨0, rfl, Nat.zero_le _, hq, hb⟩
              case round =>
                clear hq hb
                obtain ⟨j, rfl, hj, hq, hb⟩ := hrel
                by_cases hlt3 : j < more.length
                · obtain ⟨A', c', he, -, -, hr⟩ := rq_below hm hb
                  obtain ⟨rfl, rfl⟩ : Am = A' ∧ km = c' := by injection he with h1 h2 h3; exact ⟨h1, h3⟩
                  obtain ⟨g, o, hg, hc⟩ := hr j hlt3
                  subst hg
                  have HPS := Lib.hid (puts_snoc more L2 j hlt3)
                  obtain ⟨x, hxe⟩ : ∃ x, more[j] = x := ⟨_, rfl⟩
                  rw [hxe] at hc HPS
                  have hki : (j : Int) < more.length := by omega
                  have hll : ((more.take j).foldl putL L2).length ≤ 10000 := by
                    have := putsL_length (more.take j) L2
                    rw [List.length_take] at *
                    omega
                  clear hxe he hr
                  go_wp2_with (first
                    | (exfalso; rename_i hu _; simp [undef] at hu; done)
                    | (go_at_call 36; refine (put x _ hq hll).mono ?_; rintro e w5 ⟨v5, rfl, hq5, hb5⟩))
                  go_roundw
                  case rel => exact ⟨j + 1, by go_num, by omega, by rw [HPS.out]; exact hq5, hb.trans (hb5.mono hb.size)⟩
                  case measure => simp [intOf] <;> omega
                · have HE := Lib.hid (show more.take j = more from List.take_of_length_le (by omega))
                  go_wp2
                  go_ret2
                  exact ⟨_, ret2 _ HS.out.symm, by rw [HS2.out]; have h := hq; rw [HE.out] at h; exact h, hB.trans (hb.mono hB.size)⟩
  · have HS := Lib.hid (show R = 3 by
      rw [← HR.out, ha, hb]
      rw [if_pos]
      by_cases h1 : (0 : Int) ≤ rel
      · rw [decide_eq_false (show ¬ rel ≤ Re.length by omega)]; simp
      · rw [decide_eq_false h1]; simp)
    have HS2 := Lib.hid (show L = [] by rw [← HL.out, HS.out]; rfl)
    clear ha hb
    by_cases hc0 : (0 : Int) ≤ rel
    · have hc1 : ¬ rel ≤ Re.length := by omega
      have hc2 : (Re.length : Int) < rel := by omega
      clear hc
      go_enter Tryd.func13, Tryd.ntmps13
      go_wp2_with (first
        | (exfalso; rename_i hu _; simp [undef] at hu; done)
        | (go_at_call 28; have mk2 := mk1; refine (has14 arch _ h2 (by omega)).mono ?_; rw [HB.out]; rintro e w' ⟨rfl, rfl⟩)
        | (go_at_call 28; refine (has14 os _ h0 (by omega)).mono ?_; rw [HA.out]; rintro e w' ⟨rfl, rfl⟩; have mk1 := True.intro))
      go_ret2
      exact ⟨_, ret2 _ HS.out.symm, by rw [HS2.out]; exact rq_nil _, hB⟩
    · have hc2 : rel < 0 := by omega
      clear hc
      go_enter Tryd.func13, Tryd.ntmps13
      go_wp2_with (first
        | (exfalso; rename_i hu _; simp [undef] at hu; done)
        | (go_at_call 28; have mk2 := mk1; refine (has14 arch _ h2 (by omega)).mono ?_; rw [HB.out]; rintro e w' ⟨rfl, rfl⟩)
        | (go_at_call 28; refine (has14 os _ h0 (by omega)).mono ?_; rw [HA.out]; rintro e w' ⟨rfl, rfl⟩; have mk1 := True.intro))
      go_ret2
      exact ⟨_, ret2 _ HS.out.symm, by rw [HS2.out]; exact rq_nil _, hB⟩
end Go.Proofs.YtcfmaeonginefaaDoor.Set14

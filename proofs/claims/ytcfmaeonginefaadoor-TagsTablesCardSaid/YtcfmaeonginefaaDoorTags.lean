/- graftbedlaw14.TagsTables: true. -/
import Derived.Test.YtcfmaeonginefaaDoorLarge
import Derived.Test.YtcfmaeonginefaaDoorSame
import Derived.Test.YtcfmaeonginefaaDoorShown
import Derived.Test.YtcfmaeonginefaaDoorSuffix14
import Derived.Test.YtcfmaeonginefaaDoorCheck14
import Derived.Test.YtcfmaeonginefaaDoorOrd
import Derived.Deep.RegionHeld3
namespace Go.Proofs.YtcfmaeonginefaaDoor.Tags
open Go Go.RowKit Go.Proofs.YtcfmaeonginefaaDoor.Made Go.Proofs.YtcfmaeonginefaaDoor.Base Go.Proofs.YtcfmaeonginefaaDoor.Sets Go.Proofs.YtcfmaeonginefaaDoor.Check Go.Proofs.YtcfmaeonginefaaDoor.Check14 Go.Proofs.YtcfmaeonginefaaDoor.Put Go.Proofs.YtcfmaeonginefaaDoor.Source Go.Proofs.YtcfmaeonginefaaDoor.Long Go.Proofs.YtcfmaeonginefaaDoor.Large Go.Proofs.YtcfmaeonginefaaDoor.Same Go.Proofs.YtcfmaeonginefaaDoor.Shown Go.Proofs.YtcfmaeonginefaaDoor.Suffix Go.Proofs.YtcfmaeonginefaaDoor.Suffix14 Go.Proofs.YtcfmaeonginefaaDoor.Set14 Go.Proofs.YtcfmaeonginefaaDoor.TSet Go.Proofs.YtcfmaeonginefaaDoor.Ord
set_option linter.unusedSimpArgs false
set_option linter.unusedVariables false

/-- What stands in every world of the walk. -/
def TS (w : World) (v0 v1 v2 v3 v4 v5 vm : Value) (OS Un Ar St Re Li more : List ByteArray) (m : Int) (W : World) : Prop :=
  W.cell? ⟨w.heap.size, 0, none⟩ = some v0 ∧ W.cell? ⟨w.heap.size, 1, none⟩ = some v1 ∧ W.cell? ⟨w.heap.size, 2, none⟩ = some v2 ∧ W.cell? ⟨w.heap.size, 3, none⟩ = some v3 ∧ W.cell? ⟨w.heap.size, 4, none⟩ = some v4 ∧ W.cell? ⟨w.heap.size, 5, none⟩ = some v5 ∧
  Rq W v0 OS ∧ Rq W v1 Un ∧ Rq W v2 Ar ∧ Rq W v3 St ∧ Rq W v4 Re ∧ Rq W v5 Li ∧ Rq W vm more ∧ W.cell? ⟨0, 0, none⟩ = some (.int .i64 m) ∧ Below w.heap.size w W ∧ w.heap.size < W.heap.size
theorem cellK {W W' : World} {b i : Nat} {v : Value} (h : W.cell? ⟨b, i, none⟩ = some v) (hb : Below W.heap.size W W') : W'.cell? ⟨b, i, none⟩ = some v := (hb.cell (p := ⟨b, i, none⟩) (Of.cell_lt h)).trans h
theorem ts_keep {w W W' : World} {v0 v1 v2 v3 v4 v5 vm : Value} {OS Un Ar St Re Li more : List ByteArray} {m : Int} (h : TS w v0 v1 v2 v3 v4 v5 vm OS Un Ar St Re Li more m W) (hb : Below W.heap.size W W') : TS w v0 v1 v2 v3 v4 v5 vm OS Un Ar St Re Li more m W' := by
  obtain ⟨a0, a1, a2, a3, a4, a5, b0, b1, b2, b3, b4, b5, bm, c, d, e⟩ := h
  exact ⟨cellK a0 hb, cellK a1 hb, cellK a2 hb, cellK a3 hb, cellK a4 hb, cellK a5 hb, rq_below b0 hb, rq_below b1 hb, rq_below b2 hb, rq_below b3 hb, rq_below b4 hb, rq_below b5 hb, rq_below bm hb, cellK c hb, d.trans (hb.mono d.size), by have := hb.size; omega⟩
theorem ts_new (w : World) (v0 v1 v2 v3 v4 v5 vm : Value) (OS Un Ar St Re Li more : List ByteArray) (m : Int) (h0 : Rq w v0 OS) (h1 : Rq w v1 Un) (h2 : Rq w v2 Ar) (h3 : Rq w v3 St) (h4 : Rq w v4 Re) (h5 : Rq w v5 Li) (hm : Rq w vm more) (hc : w.cell? ⟨0, 0, none⟩ = some (.int .i64 m)) :
    TS w v0 v1 v2 v3 v4 v5 vm OS Un Ar St Re Li more m (w.alloc (.cells #[v0, v1, v2, v3, v4, v5] 24)) := by
  have hB := below_alloc w (.cells #[v0, v1, v2, v3, v4, v5] 24)
  exact ⟨cell_new w _ _ 0 v0 rfl, cell_new w _ _ 1 v1 rfl, cell_new w _ _ 2 v2 rfl, cell_new w _ _ 3 v3 rfl, cell_new w _ _ 4 v4 rfl, cell_new w _ _ 5 v5 rfl, rq_below h0 hB, rq_below h1 hB, rq_below h2 hB, rq_below h3 hB, rq_below h4 hB, rq_below h5 hB, rq_below hm hB, cellK hc hB, hB, by rw [alloc_size]; omega⟩

def TT (w : World) (v0 v1 v2 v3 v4 v5 vA vB : Value) (OS Un Ar St Re Li L : List ByteArray) (m : Int) (W : World) : Prop :=
  W.cell? ⟨w.heap.size, 0, none⟩ = some v0 ∧ W.cell? ⟨w.heap.size, 1, none⟩ = some v1 ∧ W.cell? ⟨w.heap.size, 2, none⟩ = some v2 ∧ W.cell? ⟨w.heap.size, 3, none⟩ = some v3 ∧ W.cell? ⟨w.heap.size, 4, none⟩ = some v4 ∧ W.cell? ⟨w.heap.size, 5, none⟩ = some v5 ∧ Rq W v0 OS ∧ Rq W v1 Un ∧ Rq W v2 Ar ∧ Rq W v3 St ∧ Rq W v4 Re ∧ Rq W v5 Li ∧ Rq W vA L ∧ Rq W vB L ∧ W.cell? ⟨0, 0, none⟩ = some (.int .i64 m) ∧ Below w.heap.size w W ∧ w.heap.size < W.heap.size
theorem tt_keep {w W W' : World} {v0 v1 v2 v3 v4 v5 vA vB : Value} {OS Un Ar St Re Li L : List ByteArray} {m : Int} (h : TT w v0 v1 v2 v3 v4 v5 vA vB OS Un Ar St Re Li L m W) (hb : Below W.heap.size W W') : TT w v0 v1 v2 v3 v4 v5 vA vB OS Un Ar St Re Li L m W' := by
  obtain ⟨a0, a1, a2, a3, a4, a5, b0, b1, b2, b3, b4, b5, bA, bB, c, d, e⟩ := h
  exact ⟨cellK a0 hb, cellK a1 hb, cellK a2 hb, cellK a3 hb, cellK a4 hb, cellK a5 hb, rq_below b0 hb, rq_below b1 hb, rq_below b2 hb, rq_below b3 hb, rq_below b4 hb, rq_below b5 hb, rq_below bA hb, rq_below bB hb, cellK c hb, d.trans (hb.mono d.size), by have := hb.size; omega⟩
theorem checkC {w W : World} {v0 v1 v2 v3 v4 v5 vA vB : Value} {OS Un Ar St Re Li L : List ByteArray} {m : Int} {i : Int} (h : TT w v0 v1 v2 v3 v4 v5 vA vB OS Un Ar St Re Li L m W) (hf : Fit OS ∧ Fit Un ∧ Fit Ar ∧ Fit St ∧ Fit Re ∧ Fit Li) (hi : checkI OS Un Ar St Re Li = i) : Calls Tryd.prog 14 #[.agg #[v0, v1, v2, v3, v4, v5]] W fun e W' => e = .returned (.int .i64 i) ∧ Below W.heap.size W W' := by
  obtain ⟨a0, a1, a2, a3, a4, a5, b0, b1, b2, b3, b4, b5, -⟩ := h
  obtain ⟨f0, f1, f2, f3, f4, f5⟩ := hf
  rw [← hi]
  exact Check.Check v0 v1 v2 v3 v4 v5 OS Un Ar St Re Li W b0 b1 b2 b3 b4 b5 f0 f1 f2 f3 f4 f5
theorem checkD {w W : World} {v0 v1 v2 v3 v4 v5 vA vB : Value} {OS Un Ar St Re Li L : List ByteArray} {m : Int} {i : Int} (h : TT w v0 v1 v2 v3 v4 v5 vA vB OS Un Ar St Re Li L m W) (hf : Fit OS ∧ Fit Un ∧ Fit Ar ∧ Fit St ∧ Fit Re ∧ Fit Li) (hi : checkI OS Un Ar St Re Li = i) : Calls Tryd.prog 15 #[.agg #[v0, v1, v2, v3, v4, v5]] W fun e W' => e = .returned (.int .i64 i) ∧ Below W.heap.size W W' := by
  obtain ⟨a0, a1, a2, a3, a4, a5, b0, b1, b2, b3, b4, b5, -⟩ := h
  obtain ⟨f0, f1, f2, f3, f4, f5⟩ := hf
  rw [← hi]
  exact Check14.Check14 v0 v1 v2 v3 v4 v5 OS Un Ar St Re Li W b0 b1 b2 b3 b4 b5 f0 f1 f2 f3 f4 f5
theorem sourceC {W : World} {s : ByteArray} {b : Bool} (hs : s.size ≤ 1048576) (hb : srcB s = b) : Calls Tryd.prog 16 #[.string s] W fun e W' => e = .returned (.bool b) ∧ Below W.heap.size W W' :=
  (source s hs W).mono fun e W' h => ⟨by rw [h.1, hb], by rw [← h.2]; exact Below.refl _ _⟩
theorem sourceD {W : World} {s : ByteArray} {b : Bool} (hs : s.size ≤ 1048576) (hb : srcB s = b) : Calls Tryd.prog 17 #[.string s] W fun e W' => e = .returned (.bool b) ∧ Below W.heap.size W W' :=
  (source14 s hs W).mono fun e W' h => ⟨by rw [h.1, hb], by rw [← h.2]; exact Below.refl _ _⟩
theorem sameC {w W : World} {v0 v1 v2 v3 v4 v5 vA vB : Value} {OS Un Ar St Re Li L : List ByteArray} {m : Int} (h : TT w v0 v1 v2 v3 v4 v5 vA vB OS Un Ar St Re Li L m W) (hn : L.length ≤ 1048577) : Calls Tryd.prog 18 #[vA, vB] W fun e W' => e = .returned (.bool true) ∧ Below W.heap.size W W' := by
  obtain ⟨a0, a1, a2, a3, a4, a5, b0, b1, b2, b3, b4, b5, bA, bB, -⟩ := h
  exact same W bA bB hn
theorem shownC {w W W' : World} {v0 v1 v2 v3 v4 v5 vA vB : Value} {OS Un Ar St Re Li L : List ByteArray} {m : Int} (h : TT w v0 v1 v2 v3 v4 v5 vA vB OS Un Ar St Re Li L m W) : Calls Tryd.prog 9 #[] W fun e W' => e = .returned (.bool true) ∧ Below W.heap.size W W' := by
  obtain ⟨a0, a1, a2, a3, a4, a5, b0, b1, b2, b3, b4, b5, bA, bB, c, -⟩ := h
  exact shown m W c

set_option maxRecDepth 100000 in
set_option maxHeartbeats 16000000 in
theorem tagsTables (v0 v1 v2 v3 v4 v5 vm : Value) (OS Un Ar St Re Li more : List ByteArray) (name os arch : ByteArray) (rel m : Int) (w : World) (h0 : Rq w v0 OS) (h1 : Rq w v1 Un) (h2 : Rq w v2 Ar) (h3 : Rq w v3 St) (h4 : Rq w v4 Re) (h5 : Rq w v5 Li) (hm : Rq w vm more)
    (hc : w.cell? ⟨0, 0, none⟩ = some (.int .i64 m)) (hr1 : -9223372036854775808 ≤ rel) (hr2 : rel < 9223372036854775808)
    (n0 : OS.length ≤ 9223372036854775807) (n1 : Un.length ≤ 9223372036854775807) (n2 : Ar.length ≤ 9223372036854775807) (n3 : St.length ≤ 9223372036854775807) (n4 : Re.length ≤ 9223372036854775807) (n5 : Li.length ≤ 9223372036854775807) (nm : more.length ≤ 9223372036854775807) :
    Calls Tryd.prog 3 #[.agg #[v0, v1, v2, v3, v4, v5], .string name, .string os, .string arch, .int .i64 rel, vm] w fun e w' => e = .returned (.bool true) ∧ Below w.heap.size w w' := by
  obtain ⟨Am, km, em, -⟩ := id hm
  subst em
  have t0 := ts_new w v0 v1 v2 v3 v4 v5 _ OS Un Ar St Re Li more m h0 h1 h2 h3 h4 h5 hm hc
  obtain ⟨a0, a1, a2, a3, a4, a5, b0, b1, b2, b3, b4, b5, bm, cc, hb0, hz0⟩ := id t0
  cases hl : largeB OS Un Ar St Re Li with
  | true =>
    have HL := Lib.hid hl
    clear hl
    go_enter Tryd.func3, Tryd.ntmps3
    go_wp2_with (first
      | (exfalso; rename_i hu _; simp [undef] at hu; done)
      | (go_at_call 9; refine (shown m _ (cellK cc hb1)).mono ?_; rintro e w2 ⟨rfl, hb2⟩)
      | (go_at_call 7; refine (large _ _ _ _ _ _ OS Un Ar St Re Li _ b0 b1 b2 b3 b4 b5 n0 n1 n2 n3 n4 n5).mono ?_; rw [HL.out]; rintro e w1 ⟨rfl, hb1⟩))
    go_ret
    exact ⟨rfl, hb0.trans ((hb1.trans (hb2.mono hb1.size)).mono hb0.size)⟩
  | false =>
    have HL := Lib.hid hl
    obtain ⟨f0, f1, f2, f3, f4, f5⟩ := large_no hl
    clear hl
    by_cases q0 : (1024 : Int) < name.size
    · go_enter Tryd.func3, Tryd.ntmps3
      go_wp2_with (first
            | (exfalso; rename_i hu _; simp [undef] at hu; done)
            | (go_at_call 9; refine (shown m _ (cellK cc hb1)).mono ?_; rintro e w2 ⟨rfl, hb2⟩)
            | (go_at_call 7; refine (large _ _ _ _ _ _ OS Un Ar St Re Li _ b0 b1 b2 b3 b4 b5 n0 n1 n2 n3 n4 n5).mono ?_; rw [HL.out]; rintro e w1 ⟨rfl, hb1⟩; have t1 := ts_keep t0 hb1))
      go_ret
      exact ⟨rfl, hb0.trans ((hb1.trans (hb2.mono hb1.size)).mono hb0.size)⟩
    by_cases q1 : (100 : Int) < os.size
    · go_enter Tryd.func3, Tryd.ntmps3
      go_wp2_with (first
            | (exfalso; rename_i hu _; simp [undef] at hu; done)
            | (go_at_call 9; refine (shown m _ (cellK cc hb1)).mono ?_; rintro e w2 ⟨rfl, hb2⟩)
            | (go_at_call 7; refine (large _ _ _ _ _ _ OS Un Ar St Re Li _ b0 b1 b2 b3 b4 b5 n0 n1 n2 n3 n4 n5).mono ?_; rw [HL.out]; rintro e w1 ⟨rfl, hb1⟩; have t1 := ts_keep t0 hb1))
      go_ret
      exact ⟨rfl, hb0.trans ((hb1.trans (hb2.mono hb1.size)).mono hb0.size)⟩
    by_cases q2 : (100 : Int) < arch.size
    · go_enter Tryd.func3, Tryd.ntmps3
      go_wp2_with (first
            | (exfalso; rename_i hu _; simp [undef] at hu; done)
            | (go_at_call 9; refine (shown m _ (cellK cc hb1)).mono ?_; rintro e w2 ⟨rfl, hb2⟩)
            | (go_at_call 7; refine (large _ _ _ _ _ _ OS Un Ar St Re Li _ b0 b1 b2 b3 b4 b5 n0 n1 n2 n3 n4 n5).mono ?_; rw [HL.out]; rintro e w1 ⟨rfl, hb1⟩; have t1 := ts_keep t0 hb1))
      go_ret
      exact ⟨rfl, hb0.trans ((hb1.trans (hb2.mono hb1.size)).mono hb0.size)⟩
    by_cases q3 : (20 : Int) < more.length
    · go_enter Tryd.func3, Tryd.ntmps3
      go_wp2_with (first
            | (exfalso; rename_i hu _; simp [undef] at hu; done)
            | (go_at_call 9; refine (shown m _ (cellK cc hb1)).mono ?_; rintro e w2 ⟨rfl, hb2⟩)
            | (go_at_call 7; refine (large _ _ _ _ _ _ OS Un Ar St Re Li _ b0 b1 b2 b3 b4 b5 n0 n1 n2 n3 n4 n5).mono ?_; rw [HL.out]; rintro e w1 ⟨rfl, hb1⟩; have t1 := ts_keep t0 hb1))
      go_ret
      exact ⟨rfl, hb0.trans ((hb1.trans (hb2.mono hb1.size)).mono hb0.size)⟩
    cases hlm : longB more with
    | true =>
      have HM := Lib.hid hlm
      clear hlm
      go_enter Tryd.func3, Tryd.ntmps3
      go_wp2_with (first
            | (exfalso; rename_i hu _; simp [undef] at hu; done)
            | (go_at_call 9; refine (shown m _ (cellK cc hb1)).mono ?_; rintro e w2 ⟨rfl, hb2⟩)
            | (go_at_call 8; refine (long _ (rq_below bm hb1) nm).mono ?_; rw [HM.out]; rintro e w' ⟨rfl, rfl⟩)
            | (go_at_call 7; refine (large _ _ _ _ _ _ OS Un Ar St Re Li _ b0 b1 b2 b3 b4 b5 n0 n1 n2 n3 n4 n5).mono ?_; rw [HL.out]; rintro e w1 ⟨rfl, hb1⟩; have t1 := ts_keep t0 hb1))
      go_ret
      exact ⟨rfl, hb0.trans ((hb1.trans (hb2.mono hb1.size)).mono hb0.size)⟩
    | false =>
      have HM := Lib.hid hlm
      have fm : Fit more := ⟨by omega, long_no hlm (by omega)⟩
      clear hlm
      obtain ⟨r, hr⟩ : ∃ r, sufR OS Ar name = r := ⟨_, rfl⟩
      obtain ⟨E, hE⟩ : ∃ E, setI OS Ar Re more os arch rel = E := ⟨_, rfl⟩
      obtain ⟨L, hL⟩ : ∃ L, setL OS Un Ar Re more os arch rel = L := ⟨_, rfl⟩
      have HRR := Lib.hid hr
      have HE := Lib.hid hE
      have HLL := Lib.hid hL
      have HLM := Lib.hid ((set_eq OS Un Ar Re more os arch rel).trans hL)
      clear hr hE hL
      have hns : name.size ≤ 1048576 := by omega
      go_enter Tryd.func3, Tryd.ntmps3
      go_wp2_with (first
            | (exfalso; rename_i hu _; simp [undef] at hu; done)
            | (go_at_call 13; refine (Set14 _ _ _ _ _ _ _ OS Un Ar St Re Li more os arch rel _ t4.2.2.2.2.2.2.1 t4.2.2.2.2.2.2.2.1 t4.2.2.2.2.2.2.2.2.1 t4.2.2.2.2.2.2.2.2.2.1 t4.2.2.2.2.2.2.2.2.2.2.1 t4.2.2.2.2.2.2.2.2.2.2.2.1 t4.2.2.2.2.2.2.2.2.2.2.2.2.1 f0 f1 f2 f4 fm hr1 hr2).mono ?_; rw [HE.out, HLL.out]; rintro e w5 ⟨vB, rfl, hqB, hb5⟩; have t5 := ts_keep t4 hb5; have hqA5 := rq_below hqA hb5)
            | (go_at_call 12; refine (TSet.Set _ _ _ _ _ _ _ OS Un Ar St Re Li more os arch rel _ t3.2.2.2.2.2.2.1 t3.2.2.2.2.2.2.2.1 t3.2.2.2.2.2.2.2.2.1 t3.2.2.2.2.2.2.2.2.2.1 t3.2.2.2.2.2.2.2.2.2.2.1 t3.2.2.2.2.2.2.2.2.2.2.2.1 t3.2.2.2.2.2.2.2.2.2.2.2.2.1 f0 f1 f2 f4 fm hr1 hr2).mono ?_; rw [HE.out, HLM.out]; rintro e w4 ⟨vA, rfl, hqA, hb4⟩; have t4 := ts_keep t3 hb4; obtain ⟨z0, z1, z2, z3, z4, z5, -⟩ := id t4)
            | (go_at_call 11; refine (suffix14 _ _ _ _ _ _ OS Un Ar St Re Li name _ t2.2.2.2.2.2.2.1 t2.2.2.2.2.2.2.2.1 t2.2.2.2.2.2.2.2.2.1 t2.2.2.2.2.2.2.2.2.2.1 t2.2.2.2.2.2.2.2.2.2.2.1 t2.2.2.2.2.2.2.2.2.2.2.2.1 f0 f2 hns).mono ?_; rw [HRR.out]; rintro e w3 ⟨rfl, hb3⟩; have t3 := ts_keep t2 hb3; obtain ⟨d0, d1, d2, d3, d4, d5, -⟩ := id t3)
            | (go_at_call 10; refine (suffix _ _ _ _ _ _ OS Un Ar St Re Li name m _ t1.2.2.2.2.2.2.1 t1.2.2.2.2.2.2.2.1 t1.2.2.2.2.2.2.2.2.1 t1.2.2.2.2.2.2.2.2.2.1 t1.2.2.2.2.2.2.2.2.2.2.1 t1.2.2.2.2.2.2.2.2.2.2.2.1 f0 f2 hns t1.2.2.2.2.2.2.2.2.2.2.2.2.2.1).mono ?_; rw [HRR.out]; rintro e w2 ⟨rfl, hb2⟩; have t2 := ts_keep t1 hb2; obtain ⟨x0, x1, x2, x3, x4, x5, -⟩ := id t2)
            | (go_at_call 8; refine (long _ (rq_below bm hb1) nm).mono ?_; rw [HM.out]; rintro e w' ⟨rfl, rfl⟩)
            | (go_at_call 7; refine (large _ _ _ _ _ _ OS Un Ar St Re Li _ b0 b1 b2 b3 b4 b5 n0 n1 n2 n3 n4 n5).mono ?_; rw [HL.out]; rintro e w1 ⟨rfl, hb1⟩; have t1 := ts_keep t0 hb1; obtain ⟨y0, y1, y2, y3, y4, y5, -⟩ := id t1))
      have hLl : L.length ≤ 1048577 := by
        rw [← HLL.out]; unfold setL; split
        · have := putsL_length more ((Re.take rel.toNat).foldl putL (baseL Un os arch))
          have := putsL_length (Re.take rel.toNat) (baseL Un os arch)
          have := baseL_length Un os arch
          have := fm.1
          have := f4.1
          rw [List.length_take] at *
          omega
        · simp
      obtain ⟨ci, hci⟩ : ∃ c, checkI OS Un Ar St Re Li = c := ⟨_, rfl⟩
      obtain ⟨sb, hsb⟩ : ∃ b, srcB name = b := ⟨_, rfl⟩
      have HCI := Lib.hid hci
      have HSB := Lib.hid hsb
      have HF := Lib.hid (show Fit OS ∧ Fit Un ∧ Fit Ar ∧ Fit St ∧ Fit Re ∧ Fit Li from ⟨f0, f1, f2, f3, f4, f5⟩)
      clear hci hsb
      have u5 : TT w v0 v1 v2 v3 v4 v5 vA vB OS Un Ar St Re Li L m w5 := by
        obtain ⟨p0, p1, p2, p3, p4, p5, o0, o1, o2, o3, o4, o5, om, oc, od, oe⟩ := t5
        exact ⟨p0, p1, p2, p3, p4, p5, o0, o1, o2, o3, o4, o5, hqA5, hqB, oc, od, oe⟩
      clear t0 t1 t2 t3 t4 t5 hqA5 hqB hqA hb1 hb2 hb3 hb4 hb5
      have u5d := tt_keep u5 (pw_drewN (Below.refl _ _) 1)
      go_region_held3 (fun w' => w'.cell? ⟨w.heap.size, 0, none⟩ = some v0 ∧ w'.cell? ⟨w.heap.size, 1, none⟩ = some v1 ∧ w'.cell? ⟨w.heap.size, 2, none⟩ = some v2 ∧ w'.cell? ⟨w.heap.size, 3, none⟩ = some v3 ∧ w'.cell? ⟨w.heap.size, 4, none⟩ = some v4 ∧ w'.cell? ⟨w.heap.size, 5, none⟩ = some v5 ∧ Rq w' v0 OS ∧ Rq w' v1 Un ∧ Rq w' v2 Ar ∧ Rq w' v3 St ∧ Rq w' v4 Re ∧ Rq w' v5 Li ∧ Rq w' vA L ∧ Rq w' vB L ∧ w'.cell? ⟨0, 0, none⟩ = some (.int .i64 m) ∧ Below w.heap.size w w' ∧ w.heap.size < w'.heap.size)
        (first
          | assumption
          | exact tt_keep ‹_› hb9
          | exact u5d)
        (first
          | (go_at_call 14; refine (checkC (w := w) (v0 := v0) (v1 := v1) (v2 := v2) (v3 := v3) (v4 := v4) (v5 := v5) (vA := vA) (vB := vB) (OS := OS) (Un := Un) (Ar := Ar) (St := St) (Re := Re) (Li := Li) (L := L) (m := m) (by assumption) HF.out HCI.out).mono ?_; rintro e w9 ⟨rfl, hb9⟩)
          | (go_at_call 15; refine (checkD (w := w) (v0 := v0) (v1 := v1) (v2 := v2) (v3 := v3) (v4 := v4) (v5 := v5) (vA := vA) (vB := vB) (OS := OS) (Un := Un) (Ar := Ar) (St := St) (Re := Re) (Li := Li) (L := L) (m := m) (by assumption) HF.out HCI.out).mono ?_; rintro e w9 ⟨rfl, hb9⟩)
          | (go_at_call 16; refine (sourceC hns HSB.out).mono ?_; rintro e w9 ⟨rfl, hb9⟩)
          | (go_at_call 17; refine (sourceD hns HSB.out).mono ?_; rintro e w9 ⟨rfl, hb9⟩)
          | (go_at_call 18; refine (sameC (w := w) (v0 := v0) (v1 := v1) (v2 := v2) (v3 := v3) (v4 := v4) (v5 := v5) (vA := vA) (vB := vB) (OS := OS) (Un := Un) (Ar := Ar) (St := St) (Re := Re) (Li := Li) (L := L) (m := m) (by assumption) hLl).mono ?_; rintro e w9 ⟨rfl, hb9⟩)
          | (go_at_call 9; rename_i hHeld _ _; refine (shown m _ hHeld.2.2.2.2.2.2.2.2.2.2.2.2.2.2.1).mono ?_; rintro e w9 ⟨rfl, hb9⟩))
      rename_i hHeld
      have hfin : Below w.heap.size w w9 := hHeld.2.2.2.2.2.2.2.2.2.2.2.2.2.2.2.1
      clear hHeld u5 u5d
      go_wp2_with (first | (exfalso; rename_i hu _; simp [undef] at hu; done))
      go_ret
      exact ⟨ret_bool (by simp), hfin⟩
end Go.Proofs.YtcfmaeonginefaaDoor.Tags

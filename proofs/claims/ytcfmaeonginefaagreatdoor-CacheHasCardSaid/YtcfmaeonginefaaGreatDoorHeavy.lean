/- graftbedlaw07.heavy: entries that it lets through are not many, and none of their texts is long. -/
import Derived.Test.YtcfmaeonginefaaGreatDoorRow7
import Derived.IntWalk
import Derived.Deep.QuietTactic
import Derived.BigQuiet
import Derived.WalkLawsBesides
namespace Go.Proofs.YtcfmaeonginefaaGreatDoor.Heavy
open Go Go.RowKit Go.Shelf Go.Proofs.YtcfmaeonginefaaGreatDoor.Seq Go.Proofs.YtcfmaeonginefaaGreatDoor.Made Go.Proofs.YtcfmaeonginefaaGreatDoor.Row7
set_option linter.unusedSimpArgs false
set_option linter.unusedVariables false

def FitF (f : ByteArray × ByteArray) : Prop := f.1.size ≤ 16384 ∧ f.2.size ≤ 16384
def FitE (e : En) : Prop := e.p.size ≤ 16384 ∧ e.v.size ≤ 16384 ∧ e.g.size ≤ 16384 ∧ e.fl.length ≤ 16384 ∧ ∀ f ∈ e.fl, FitF f
def Fits (es : List En) : Prop := es.length ≤ 50 ∧ ∀ e ∈ es, FitE e
def HeavyOut (es : List En) (w : World) (e : Ending) (w' : World) : Prop := ∃ b : Bool, e = .returned (.bool b) ∧ (b = false → Fits es) ∧ Below w.heap.size w w'

/-- What the count so far tells of an entry. -/
def Bd (N : Int) (e : En) : Prop := min (e.p.size : Int) 1048576 ≤ N ∧ min (e.v.size : Int) 1048576 ≤ N ∧ min (e.g.size : Int) 1048576 ≤ N ∧ min (e.fl.length : Int) 1048576 ≤ N ∧ (N ≤ 16384 → ∀ f ∈ e.fl, (f.1.size : Int) ≤ N ∧ (f.2.size : Int) ≤ N)
theorem bd_mono {N M : Int} {e : En} (h : Bd N e) (hM : N ≤ M) : Bd M e := by
  obtain ⟨a, b, c, d, f⟩ := h
  refine ⟨by omega, by omega, by omega, by omega, fun h x hx => ?_⟩
  have := f (by omega) x hx
  omega
theorem bd_fit {N : Int} {e : En} (h : Bd N e) (hN : N ≤ 16384) : FitE e := by
  obtain ⟨a, b, c, d, f⟩ := h
  refine ⟨by omega, by omega, by omega, by omega, fun x hx => ?_⟩
  have := f hN x hx
  unfold FitF
  omega
theorem bd_mk {M : Int} {p v m : ByteArray} {fv : Value} {fl : List (ByteArray × ByteArray)} {l : Nat} {N1 : Int} (h : min (p.size : Int) 1048576 ≤ N1 ∧ min (v.size : Int) 1048576 ≤ N1 ∧ min (m.size : Int) 1048576 ≤ N1 ∧ min (l : Int) 1048576 ≤ N1) (hl : fl.length = l) (hM : N1 ≤ M)
    (hf : M ≤ 16384 → ∀ f ∈ fl, (f.1.size : Int) ≤ M ∧ (f.2.size : Int) ≤ M) : Bd M ⟨p, v, m, fv, fl⟩ :=
  ⟨Int.le_trans h.1 hM, Int.le_trans h.2.1 hM, Int.le_trans h.2.2.1 hM, by rw [hl]; exact Int.le_trans h.2.2.2 hM, hf⟩
/-- What the count so far tells of the first entries. -/
def Bds (es : List En) (i : Nat) (N : Int) : Prop := ∀ (j : Nat) (h : j < es.length), j < i → Bd N es[j]
theorem bds_snoc {es : List En} {i : Nat} {N M : Int} (h : Bds es i N) (hM : N ≤ M) (hi : i < es.length) (hb : Bd M es[i]) : Bds es (i + 1) M := by
  intro j hj hji
  rcases Nat.lt_or_ge j i with h1 | h1
  · exact bd_mono (h j hj h1) hM
  · obtain rfl : j = i := by omega
    exact hb
theorem bds_fits {es : List En} {N : Int} (h : Bds es es.length N) (h50 : es.length ≤ 50) (hN : N ≤ 16384) : Fits es := by
  refine ⟨h50, fun e he => ?_⟩
  obtain ⟨j, hj, rfl⟩ := List.getElem_of_mem he
  exact bd_fit (h j hj hj) hN
def Bf (fl : List (ByteArray × ByteArray)) (k : Nat) (N : Int) : Prop := ∀ (j : Nat) (h : j < fl.length), j < k → min (fl[j].1.size : Int) 1048576 ≤ N ∧ min (fl[j].2.size : Int) 1048576 ≤ N
theorem bf_snoc {fl : List (ByteArray × ByteArray)} {k : Nat} {N M : Int} (h : Bf fl k N) (hM : N ≤ M) (hk : k < fl.length) (hb : min (fl[k].1.size : Int) 1048576 ≤ M ∧ min (fl[k].2.size : Int) 1048576 ≤ M) : Bf fl (k + 1) M := by
  intro j hj hjk
  rcases Nat.lt_or_ge j k with h1 | h1
  · have := h j hj h1; omega
  · obtain rfl : j = k := by omega
    exact hb
theorem bf_all {fl : List (ByteArray × ByteArray)} {N : Int} (h : Bf fl fl.length N) (hN : N ≤ 16384) : ∀ f ∈ fl, (f.1.size : Int) ≤ N ∧ (f.2.size : Int) ≤ N := by
  intro f hf
  obtain ⟨j, hj, rfl⟩ := List.getElem_of_mem hf
  have := h j hj hj
  omega

set_option maxRecDepth 100000 in
set_option maxHeartbeats 4000000 in
theorem heavy {x : Value} {es : List En} (w : World) (h : RE w x es) : Calls Tryz.prog 15 #[x] w (HeavyOut es w) := by
  obtain ⟨⟨A, c, rfl, hA, hc, hn, hr⟩, hrf⟩ := h
  have HRF := Lib.hid hrf
  clear hrf
  have HA := Lib.hid hr
  clear hr
  obtain ⟨n, hnn⟩ : ∃ n, es.length = n := ⟨_, rfl⟩
  rw [hnn] at hn hc ⊢
  have HN := Lib.hid hnn
  clear hnn
  by_cases h50 : (50 : Int) < n
  · go_enter Tryz.func15, Tryz.ntmps15
    go_wp2
    go_ret
    exact ⟨true, rfl, (fun h => by cases h), Below.refl _ _⟩
  · go_enter Tryz.func15, Tryz.ntmps15
    go_wp2
    go_loopw [3, 4, 5] (fun v3 v4 v5 wr => ∃ (i : Nat) (N : Int) (q : Nat), v4 = .int .i64 i ∧ v3 = .int .i64 N ∧ i ≤ n ∧ 0 ≤ N ∧ N ≤ 8388608 ∧ Hid (Bds es i N) ∧ wr = w.drewN q) (fun v3 v4 v5 wr => n - (intOf v4).toNat)
    case atStart => exact ⟨0, 0, 0, rfl, rfl, Nat.zero_le _, Int.le_refl _, by omega, Lib.hid (fun j hj hj0 => absurd hj0 (Nat.not_lt_zero _)), rfl⟩
    case round =>
      obtain ⟨i, N, q, rfl, rfl, hi, h0, h1, HB, rfl⟩ := hrel
      by_cases hlt : i < n
      · by_cases hN : N ≤ 16384
        · have hl' : i < es.length := by rw [HN.out]; exact hlt
          have HS := Lib.hid (fun (M : Int) (hM : N ≤ M) (hb : Bd M es[i]) => bds_snoc HB.out hM hl' hb)
          obtain ⟨g, o, hg, c0, c1, c2, c3⟩ := HA.out i hl'
          have hf := HRF.out es[i] (List.getElem_mem hl')
          subst hg
          generalize es[i] = e at *
          obtain ⟨p, v, m, fv, fl⟩ := e
          simp only [] at c0 c1 c2 c3 hf
          obtain ⟨B, d, rfl, hB, hd, hln, hfr⟩ := hf
          have HF := Lib.hid hfr
          clear hfr
          obtain ⟨l, hll⟩ : ∃ l, fl.length = l := ⟨_, rfl⟩
          rw [hll] at hd hln c3
          have HL := Lib.hid hll
          clear hll
          go_wp2
          go_quiet (fail)
          rename_i nq
          clear c0 c1 c2
          generalize hN1 : (N + (1 + min (p.size : Int) 1048576 + min (v.size : Int) 1048576 + min (m.size : Int) 1048576 + min (l : Int) 1048576)) = N1
          have b0 : N ≤ N1 := by omega
          have b1 : N1 ≤ 8388608 := by omega
          have HM := Lib.hid (show min (p.size : Int) 1048576 ≤ N1 ∧ min (v.size : Int) 1048576 ≤ N1 ∧ min (m.size : Int) 1048576 ≤ N1 ∧ min (l : Int) 1048576 ≤ N1 by omega)
          clear hN1
          go_wp2
          go_loopw [3, 5] (fun v3 v5 wr => ∃ (k : Nat) (M : Int) (q : Nat), v5 = .int .i64 k ∧ v3 = .int .i64 M ∧ k ≤ l ∧ N1 ≤ M ∧ M ≤ 8388608 ∧ Hid (Bf fl k M) ∧ wr = w.drewN q) (fun v3 v5 wr => l - (intOf v5).toNat)
          case atStart => exact ⟨0, N1, q + nq, rfl, rfl, Nat.zero_le _, Int.le_refl _, b1, Lib.hid (fun j hj hj0 => absurd hj0 (Nat.not_lt_zero _)), by simp⟩
          case round =>
            obtain ⟨k, M, q, rfl, rfl, hk, m0, m1, HG, rfl⟩ := hrel
            by_cases hkl : k < l
            · by_cases hM : M ≤ 16384
              · have hk' : k < fl.length := by rw [HL.out]; exact hkl
                have HT := Lib.hid (fun (M' : Int) (hM : M ≤ M') hb => bf_snoc (M := M') HG.out hM hk' hb)
                obtain ⟨gf, oo, hgf, f0, f1⟩ := HF.out k hk'
                subst hgf
                generalize fl[k] = f at *
                obtain ⟨fp, fd⟩ := f
                simp only [] at f0 f1
                go_wp2
                go_quiet (fail)
                clear c3 f0 f1
                generalize hM1 : (M + (min (fp.size : Int) 1048576 + min (fd.size : Int) 1048576)) = M1
                have HX := Lib.hid (HT.out M1 (by omega) ⟨by omega, by omega⟩)
                have d0 : N1 ≤ M1 := by omega
                have d1 : M1 ≤ 8388608 := by omega
                clear hM1
                go_wp2
                go_roundw
                case rel => exact ⟨k + 1, M1, _, by go_num, rfl, by omega, d0, d1, HX, rfl⟩
                case measure => simp [intOf] <;> omega
              · have hM' : (16384 : Int) < M := by omega
                have HX := Lib.hid (HS.out M (by omega) (bd_mk HM.out HL.out m0 (fun h => absurd h hM)))
                go_wp2
                exact ⟨⟨i + 1, M, q, by go_num, rfl, by omega, by omega, m1, HX, rfl⟩, by simp [intOf]; omega⟩
            · obtain rfl : k = l := by omega
              have HX := Lib.hid (HS.out M (by omega) (bd_mk HM.out HL.out m0 (fun h => bf_all (by rw [HL.out]; exact HG.out) h)))
              go_wp2
              exact ⟨⟨i + 1, M, q, by go_num, rfl, by omega, by omega, m1, HX, rfl⟩, by simp [intOf]; omega⟩
        · have hN' : (16384 : Int) < N := by omega
          go_wp2
          go_ret
          exact ⟨true, rfl, (fun h => by cases h), pw_drewN (Below.refl _ _) _⟩
      · obtain rfl : i = n := by omega
        have HD := Lib.hid (fun hN : N ≤ 16384 => bds_fits (es := es) (N := N) (by rw [HN.out]; exact HB.out) (by rw [HN.out]; omega) hN)
        go_wp2
        go_ret
        refine ⟨_, rfl, fun h => HD.out ?_, pw_drewN (Below.refl _ _) _⟩
        simpa using h
end Go.Proofs.YtcfmaeonginefaaGreatDoor.Heavy

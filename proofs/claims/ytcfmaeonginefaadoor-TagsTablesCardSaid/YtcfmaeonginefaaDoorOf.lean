/- tags.of: the set of all the texts of some lists, and whether one stands twice. -/
import Derived.Test.YtcfmaeonginefaaDoorSets
namespace Go.Proofs.YtcfmaeonginefaaDoor.Of
open Go Go.RowKit Go.Maps Go.Proofs.YtcfmaeonginefaaDoor.Made Go.Proofs.YtcfmaeonginefaaDoor.Base Go.Proofs.YtcfmaeonginefaaDoor.Sets
set_option linter.unusedSimpArgs false
set_option linter.unusedVariables false

theorem mapT : Tryd.prog.underlying 64 = some (.map 9 4) := Tryd.underlying64
theorem cell_lt {w : World} {g i : Nat} {v : Value} (h : w.cell? ⟨g, i, none⟩ = some v) : g < w.heap.size := by
  rcases Nat.lt_or_ge g w.heap.size with k | k
  · exact k
  · exfalso
    simp [World.cell?, Array.getElem?_eq_none k] at h
theorem flat_snoc (xss : List (List ByteArray)) (k : Nat) (h : k < xss.length) : (xss.take (k + 1)).flatten = (xss.take k).flatten ++ xss[k] := by
  rw [List.take_succ_eq_append_getElem h, List.flatten_append]; simp
set_option maxRecDepth 100000 in
set_option maxHeartbeats 4000000 in
theorem of_ (g c : Nat) (vs : List Value) (xss : List (List ByteArray)) (w : World) (hl : vs.length = xss.length) (hm : xss.length ≤ 10)
    (hvs : ∀ (i : Nat) (h : i < vs.length), w.cell? ⟨g, i, none⟩ = some vs[i]) (hg : g < w.heap.size) (hrd : ∀ (i : Nat) (h1 : i < vs.length) (h2 : i < xss.length), Rq w vs[i] xss[i])
    (hsz : ∀ xs ∈ xss, xs.length ≤ 1048577 ∧ ∀ x ∈ xs, x.size ≤ 1048576) :
    Calls Tryd.prog 29 #[.slice (some ⟨g, 0, none⟩) xss.length c] w fun e w' => e = .returned (.tuple #[.map (some w.heap.size), .bool (dupB xss.flatten)]) ∧ SetIs w' w.heap.size xss.flatten.length xss.flatten ∧ Below w.heap.size w w' := by
  have hmm := @run_makeMap Tryd.prog
  have HV := Lib.hid hvs
  have HR := Lib.hid hrd
  have HZ := Lib.hid hsz
  obtain ⟨m, hmn⟩ : ∃ m, xss.length = m := ⟨_, rfl⟩
  rw [hmn] at hm hl ⊢
  have HM := Lib.hid hmn
  have HL := Lib.hid hl
  clear hvs hrd hsz hmn hl
  go_enter Tryd.func29, Tryd.ntmps29
  go_wp2
  go_loopw [5, 13] (fun v5 iv wr => ∃ k : Nat, iv = .int .i64 k ∧ k ≤ m ∧ v5 = .bool (dupB (xss.take k).flatten) ∧ SetIs wr w.heap.size (xss.take k).flatten.length (xss.take k).flatten ∧ Below w.heap.size w wr ∧ w.heap.size < wr.heap.size) (fun v5 iv wr => m - (intOf iv).toNat)
  case atStart => exact ⟨0, rfl, Nat.zero_le _, rfl, set_made w, (Below.refl _ _).alloc (Nat.le_refl _) _, by simp⟩
  case round =>
    obtain ⟨k, rfl, hk, rfl, hS, hB, hsz⟩ := hrel
    by_cases hlt : k < m
    · have l1 : k < vs.length := by rw [HL.out]; exact hlt
      have l2 : k < xss.length := by rw [HM.out]; exact hlt
      have hcv := (hB.cell (p := ⟨g, k, none⟩) hg).trans (HV.out k l1)
      obtain ⟨A, ca, hA, hA1, hA2, hrA⟩ := HR.out k l1 l2
      rw [hA] at hcv
      have hz := HZ.out xss[k] (List.getElem_mem l2)
      have HF := Lib.hid (flat_snoc xss k l2)
      obtain ⟨pre, hpre⟩ : ∃ pre, (xss.take k).flatten = pre := ⟨_, rfl⟩
      obtain ⟨xs, hxs⟩ : ∃ xs, xss[k] = xs := ⟨_, rfl⟩
      rw [hpre, hxs] at HF
      rw [hpre] at hS ⊢
      rw [hxs] at hz
      have hrX : ∀ (i : Nat) (h : i < xs.length), ∃ g o : Nat, A = some ⟨g, o, none⟩ ∧ w.cell? ⟨g, o + i, none⟩ = some (.string xs[i]) := by subst hxs; exact hrA
      have hAX : xss[k].length = xs.length := by rw [hxs]
      rw [hAX] at hcv
      have HXr := Lib.hid hrX
      obtain ⟨hz1, hz2⟩ := hz
      have HZ2 := Lib.hid hz2
      obtain ⟨n, hn⟩ : ∃ n, xs.length = n := ⟨_, rfl⟩
      rw [hn] at hcv hz1
      have HN := Lib.hid hn
      have hpl : pre.length ≤ k * 1048577 := by
        have key : ∀ (l : List (List ByteArray)), (∀ y ∈ l, y.length ≤ 1048577) → l.flatten.length ≤ l.length * 1048577 := by
          intro l
          induction l with
          | nil => intro _; simp
          | cons a r ih =>
            intro h
            have h1 := h a (by simp)
            have h2 := ih (fun y hy => h y (by simp [hy]))
            simp only [List.flatten_cons, List.length_append, List.length_cons]
            omega
        have := key (xss.take k) (fun y hy => (HZ.out y (List.mem_of_mem_take hy)).1)
        rw [hpre, List.length_take] at this
        have h3 : min k xss.length ≤ k := Nat.min_le_left _ _
        exact Nat.le_trans this (Nat.mul_le_mul_right _ h3)
      clear hA hA1 hA2 hrA hpre hxs hrX hAX hz2 hn l1 l2
      go_wp2
      go_loopw [5, 19] (fun v5 iv w2 => ∃ j : Nat, iv = .int .i64 j ∧ j ≤ n ∧ v5 = .bool (dupB (pre ++ xs.take j)) ∧ SetIs w2 w.heap.size (pre.length + j) (pre ++ xs.take j) ∧ Below w.heap.size w w2 ∧ w.heap.size < w2.heap.size) (fun v5 iv w2 => n - (intOf iv).toNat)
      case atStart => exact ⟨0, rfl, Nat.zero_le _, by rw [List.take_zero, List.append_nil], by rw [List.take_zero, List.append_nil]; exact hS, hB, hsz⟩
      case round =>
        obtain ⟨j, rfl, hj, rfl, hS2, hB2, hsz2⟩ := hrel
        clear hcv hS hB hsz
        by_cases hlj : j < n
        · have l3 : j < xs.length := by rw [HN.out]; exact hlj
          obtain ⟨g2, o2, hg2, c2⟩ := HXr.out j l3
          subst hg2
          have c3 := (hB2.cell (p := ⟨g2, o2 + j, none⟩) (cell_lt c2)).trans c2
          have hx := HZ2.out xs[j] (List.getElem_mem l3)
          have HT := Lib.hid (show xs.take (j + 1) = xs.take j ++ [xs[j]] from List.take_succ_eq_append_getElem l3)
          obtain ⟨x, hxe⟩ : ∃ x, xs[j] = x := ⟨_, rfl⟩
          rw [hxe] at c3 hx HT
          have hlk := look_run hS2 64 mapT x (by unfold maxLen; omega)
          obtain ⟨l, hle⟩ : ∃ l, pre ++ xs.take j = l := ⟨_, rfl⟩
          rw [hle] at hS2 hlk ⊢
          have HLE := Lib.hid hle
          clear hxe l3 c2 hle
          cases hd : dupB l with
          | true =>
            have HD := Lib.hid hd
            clear hd hlk
            go_wp2_with (first
              | (exfalso; rename_i hu _; simp [undef] at hu; done)
              | (at_mapUpdate; refine put _ rfl _ _ _ 64 rfl mapT w.heap.size _ _ rfl hS2 (by unfold maxLen; omega) x rfl (by unfold maxLen; omega) rfl ?_; intro w3 hS3 hg3))
            go_roundw
            case rel => exact ⟨j + 1, by go_num, by omega, by rw [HT.out, ← List.append_assoc, HLE.out, dup_snoc, HD.out]; rfl, by rw [HT.out, ← List.append_assoc, HLE.out]; exact hS3, hB2.grown hg3 hB2.size (fun j hj => by cases hj; exact Nat.le_refl _), by have := hg3.size; omega⟩
            case measure => simp [intOf] <;> omega
          | false =>
            have HD := Lib.hid hd
            clear hd
            go_wp2_with (first
              | (exfalso; rename_i hu _; simp [undef] at hu; done)
              | (at_mapUpdate; refine put _ rfl _ _ _ 64 rfl mapT w.heap.size _ _ rfl hS2 (by unfold maxLen; omega) x rfl (by unfold maxLen; omega) rfl ?_; intro w3 hS3 hg3))
            go_roundw
            case rel => exact ⟨j + 1, by go_num, by omega, by rw [HT.out, ← List.append_assoc, HLE.out, dup_snoc, HD.out]; rfl, by rw [HT.out, ← List.append_assoc, HLE.out]; exact hS3, hB2.grown hg3 hB2.size (fun j hj => by cases hj; exact Nat.le_refl _), by have := hg3.size; omega⟩
            case measure => simp [intOf] <;> omega
        · obtain rfl : j = n := by omega
          have HE := Lib.hid (show xs.take j = xs from List.take_of_length_le (by rw [HN.out]; exact Nat.le_refl _))
          have HLN := Lib.hid (show (pre ++ xs).length = pre.length + j by rw [List.length_append, HN.out])
          go_wp2
          go_roundw
          case rel => exact ⟨k + 1, by go_num, by omega, by rw [HF.out, HE.out], by rw [HF.out, HLN.out]; rw [HE.out] at hS2; exact hS2, hB2, hsz2⟩
          case measure => simp [intOf] <;> omega
    · obtain rfl : k = m := by omega
      have HE := Lib.hid (show xss.take k = xss from List.take_of_length_le (by rw [HM.out]; exact Nat.le_refl _))
      go_wp2
      go_ret2
      exact ⟨by rw [HE.out]; rfl, by rw [HE.out] at hS; exact hS, hB⟩
end Go.Proofs.YtcfmaeonginefaaDoor.Of

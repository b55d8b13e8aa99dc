/- graftbedref03: Split, identifiers: what they answer. -/
import Derived.Test.YtcfmaeonginefaaGreatDoorNum3
import Derived.Test.YtcfmaeonginefaaGreatDoorOrderPre
import Derived.Test.YtcfmaeonginefaaGreatDoorCollect
namespace Go.Proofs.YtcfmaeonginefaaGreatDoor.Split3
open Go Go.RowKit Go.Shelf Go.Proofs.YtcfmaeonginefaaGreatDoor.Seq Go.Proofs.YtcfmaeonginefaaGreatDoor.Cut Go.Proofs.YtcfmaeonginefaaGreatDoor.Elems Go.Proofs.YtcfmaeonginefaaGreatDoor.Paths Go.Proofs.YtcfmaeonginefaaGreatDoor.Made Go.Proofs.YtcfmaeonginefaaGreatDoor.Idents Go.Proofs.YtcfmaeonginefaaGreatDoor.Sign Go.Proofs.YtcfmaeonginefaaGreatDoor.Num3
set_option linter.unusedSimpArgs false
set_option linter.unusedVariables false

def strV (l : List UInt8) : Value := .string (mk l)
/-- How far a splitting loop has come. -/
def Rel (c : UInt8) (L : List UInt8) (k f : Nat) (pre : List (List UInt8)) : Prop :=
  (k ≤ L.length ∧ f ≤ k ∧ spl c L = pre ++ spl c (L.drop f) ∧ ∀ b ∈ (L.drop f).take (k - f), b ≠ c) ∨ (k = L.length + 1 ∧ spl c L = pre)
theorem rel_go {c : UInt8} {L : List UInt8} {k f : Nat} {pre : List (List UInt8)} (h : Rel c L k f pre) (hk : k < L.length) (hc : L[k] ≠ c) : Rel c L (k + 1) f pre := by
  rcases h with ⟨h1, h2, h3, h4⟩ | ⟨h1, _⟩
  · refine .inl ⟨hk, by omega, h3, fun b hb => ?_⟩
    rw [show k + 1 - f = (k - f) + 1 by omega, List.take_succ_eq_append_getElem (by simp; omega)] at hb
    rcases List.mem_append.1 hb with hb | hb
    · exact h4 b hb
    · simp at hb
      rw [hb]
      have : f + (k - f) = k := by omega
      simpa [this] using hc
  · omega
theorem rel_at {c : UInt8} {L : List UInt8} {k f : Nat} {pre : List (List UInt8)} (h : Rel c L k f pre) (hk : k < L.length) (hc : L[k] = c) : f ≤ k ∧ Rel c L (k + 1) (k + 1) (pre ++ [(L.drop f).take (k - f)]) := by
  rcases h with ⟨h1, h2, h3, h4⟩ | ⟨h1, _⟩
  · have hi : Lib.indexByte (L.drop f) c = ((k - f : Nat) : Int) := ib_take _ _ h4 (by simp; omega) (by
      have : f + (k - f) = k := by omega
      simpa [this] using hc)
    refine ⟨h2, .inl ⟨hk, Nat.le_refl _, ?_, by simp⟩⟩
    rw [h3, spl_some c _ _ hi, List.drop_drop, show f + (k - f + 1) = k + 1 by omega]
    simp
  · omega
theorem rel_end {c : UInt8} {L : List UInt8} {f : Nat} {pre : List (List UInt8)} (h : Rel c L L.length f pre) : f ≤ L.length ∧ Rel c L (L.length + 1) (L.length + 1) (pre ++ [(L.drop f).take (L.length - f)]) := by
  rcases h with ⟨h1, h2, h3, h4⟩ | ⟨h1, _⟩
  · have ht : (L.drop f).take (L.length - f) = L.drop f := List.take_of_length_le (by simp)
    rw [ht] at h4
    have hi : Lib.indexByte (L.drop f) c < 0 := by rw [ib_none _ h4]; decide
    refine ⟨h2, .inr ⟨rfl, ?_⟩⟩
    rw [h3, spl_none c _ hi, ht]
  · omega
theorem rel_done {c : UInt8} {L : List UInt8} {k f : Nat} {pre : List (List UInt8)} (h : Rel c L k f pre) (hk : ¬ k ≤ L.length) : spl c L = pre := by
  rcases h with ⟨h1, _⟩ | ⟨_, h⟩
  · omega
  · exact h
theorem rel_le {c : UInt8} {L : List UInt8} {k f : Nat} {pre : List (List UInt8)} (h : Rel c L k f pre) : k ≤ L.length + 1 := by
  rcases h with ⟨h1, _⟩ | ⟨h, _⟩ <;> omega

theorem rel_len {c : UInt8} {L : List UInt8} {k f : Nat} {pre : List (List UInt8)} (h : Rel c L k f pre) : pre.length ≤ L.length + 1 := by
  have h1 := spl_length c L
  rcases h with ⟨_, _, h, _⟩ | ⟨_, h⟩
  · rw [h, List.length_append] at h1; omega
  · rw [h] at h1; exact h1
theorem rowgrow {n : Nat} {w wr : World} {e sz k : Nat} {v : Value} {xs : List Value} (hB : Below n w wr) (hsz : n ≤ wr.heap.size) (hrow : wr.ownsRow n e sz v k xs) (o : Obj) : ∀ w1, (wr.alloc o).grownBy w1 v.ownBlock → Below n w w1 ∧ n ≤ w1.heap.size := fun w1 hg => by
  refine ⟨(hB.alloc hsz o).grown hg (by simp; omega) fun j ej => ?_, by have := hg.size; simp at this; omega⟩
  exact (hrow.lt j ej).1

set_option maxRecDepth 100000 in
set_option maxHeartbeats 2000000 in
theorem split3 (s : ByteArray) (c : UInt8) (hs : s.size ≤ 1048576) (w : World) : Calls Tryz.prog 75 #[.string s, .int .u8 c.toNat] w fun e w' => ∃ v, e = .returned v ∧ w'.ownsRow w.heap.size 9 1 v (splB c s).length ((splB c s).map Value.string) ∧ Below w.heap.size w w' := by
  have eL : s.data.toList.length = s.size := by rw [Array.length_toList]; rfl
  obtain ⟨i0, hi, hz0, hz1, hz2⟩ := info_parts Collect.infoS
  go_enter Tryz.func75, Tryz.ntmps75
  go_wp2
  go_loopw [5, 6, 7] (fun v fv iv wr => ∃ (k f : Nat) (pre : List (List UInt8)), fv = .int .i64 f ∧ iv = .int .i64 k ∧ Rel c s.data.toList k f pre ∧ wr.ownsRow w.heap.size 9 1 v pre.length (pre.map strV) ∧ Below w.heap.size w wr ∧ w.heap.size ≤ wr.heap.size)
    (fun v fv iv wr => s.size + 2 - (intOf iv).toNat)
  case atStart =>
    refine ⟨0, 0, [], rfl, rfl, .inl ⟨Nat.zero_le _, Nat.le_refl _, rfl, by simp⟩, World.ownsRow_lit w #[] 0 (Nat.le_refl _) (by decide) rfl, (Below.refl _ w).alloc (Nat.le_refl _) _, by simp⟩
  case round =>
    obtain ⟨k, f, pre, rfl, rfl, hR, hrow, hB, hsz⟩ := hrel
    have hle := rel_le hR
    have hln := rel_len hR
    by_cases hk : k ≤ s.size
    · by_cases hlt : k < s.size
      · by_cases hc : s[k] = c
        · have hR2 := rel_at hR (by omega) (show s.data.toList[k]'(by omega) = c from hc)
          have hln2 := rel_len hR2.2
          have hcb : ((s[k].toNat : Int) == c.toNat) = true := by rw [hc]; simp
          have hne : ((k : Int) == s.size) = false := by rw [beq_eq_false_iff_ne]; omega
          have hf0 : (0 : Int) ≤ f := by omega
          have hfk : (f : Int) ≤ k := by omega
          have hks : (k : Int) ≤ s.size := by omega
          have HX := Lib.hid (show s.extract f k = mk ((s.data.toList.drop f).take (k - f)) from extract_mk s f k)
          have HR := Lib.hid hR2.2
          simp only [List.length_append, List.length_singleton] at hln2
          have hcl := rowgrow hB hsz hrow (.cells #[.string (s.extract f k)] 9)
          clear hR hR2 hc hle
          go_wp2_with (at_builtin; refine wpList_append_own _ rfl _ _ 32 rfl w.heap.size 9 i0 (.string ⟨#[]⟩) 1 16 Tryz.underlying32 hi hz0 hz1 hz2 rfl (by decide) _ _ _ rfl (hrow.alloc _) ⟨wr.heap.size, 0, none⟩ 1 1 [.string (s.extract f k)] rfl rfl (cell_one_new _ _ _) (by simp [Value.oneCell']) (by unfold maxLen; omega) (by omega) (by simp; omega) ?_; intro v' w1 hown' hgrow _; have hcl1 := hcl _ hgrow)
          go_roundw
          case rel =>
            refine ⟨k + 1, k + 1, _, by go_num, by go_num, HR.out, ?_, hcl1.1, hcl1.2⟩
            rw [HX.out] at hown'
            simpa [strV] using hown'
          case measure => simp [intOf]; omega
        · have hR2 := rel_go hR (by omega) (show s.data.toList[k]'(by omega) ≠ c from hc)
          have hcb : ((s[k].toNat : Int) == c.toNat) = false := by
            rw [beq_eq_false_iff_ne]
            intro h
            exact hc (UInt8.toNat_inj.1 (by omega))
          have hne : ((k : Int) == s.size) = false := by rw [beq_eq_false_iff_ne]; omega
          have HR := Lib.hid hR2
          clear hR hR2 hc hle
          go_wp2
          go_roundw
          case rel => exact ⟨k + 1, f, pre, rfl, by go_num, HR.out, hrow, hB, hsz⟩
          case measure => simp [intOf]; omega
      · obtain rfl : k = s.size := by omega
        have hR2 := rel_end (show Rel c s.data.toList s.data.toList.length f pre by rw [eL]; exact hR)
        rw [eL] at hR2
        have hln2 := rel_len hR2.2
        have hf0 : (0 : Int) ≤ f := by omega
        have hfk : (f : Int) ≤ s.size := by omega
        have HX := Lib.hid (show s.extract f s.size = mk ((s.data.toList.drop f).take (s.size - f)) from extract_mk s f s.size)
        have HR := Lib.hid hR2.2
        simp only [List.length_append, List.length_singleton] at hln2
        have hcl := rowgrow hB hsz hrow (.cells #[.string (s.extract f s.size)] 9)
        clear hR hR2 hle
        go_wp2_with (at_builtin; refine wpList_append_own _ rfl _ _ 32 rfl w.heap.size 9 i0 (.string ⟨#[]⟩) 1 16 Tryz.underlying32 hi hz0 hz1 hz2 rfl (by decide) _ _ _ rfl (hrow.alloc _) ⟨wr.heap.size, 0, none⟩ 1 1 [.string (s.extract f s.size)] rfl rfl (cell_one_new _ _ _) (by simp [Value.oneCell']) (by unfold maxLen; omega) (by omega) (by simp; omega) ?_; intro v' w1 hown' hgrow _; have hcl1 := hcl _ hgrow)
        go_roundw
        case rel =>
          refine ⟨s.size + 1, s.size + 1, _, by go_num, by go_num, HR.out, ?_, hcl1.1, hcl1.2⟩
          rw [HX.out] at hown'
          simpa [strV] using hown'
        case measure => simp [intOf] <;> omega
    · have hR2 := rel_done hR (by omega)
      have hl : (splB c s).length = pre.length := by unfold splB; rw [hR2, List.length_map]
      have hm : (splB c s).map Value.string = pre.map strV := by unfold splB; rw [hR2, List.map_map]; rfl
      have HL := Lib.hid hl
      have HM := Lib.hid hm
      clear hR hR2 hl hm hle
      go_wp2
      go_ret
      exact ⟨_, rfl, by rw [HL.out, HM.out]; exact hrow, hB⟩

theorem all_bytes (p : UInt8 → Bool) (h : (List.range 256).all (fun n => p n.toUInt8) = true) (b : UInt8) : p b = true := by
  have := List.all_eq_true.1 h b.toNat (List.mem_range.2 b.toNat_lt)
  simpa using this
/-- A sign of an identifier. -/
def sign3B (b : UInt8) : Bool := digitB b || (decide ((97 : Int) ≤ b.toNat) && decide ((b.toNat : Int) ≤ 122)) || (decide ((65 : Int) ≤ b.toNat) && decide ((b.toNat : Int) ≤ 90)) || decide ((b.toNat : Int) = 45)
theorem sign_sign3 (b : UInt8) : signB b = sign3B b := by
  have := all_bytes (fun b => signB b == sign3B b) (by decide +kernel) b
  simpa using this
end Go.Proofs.YtcfmaeonginefaaGreatDoor.Split3

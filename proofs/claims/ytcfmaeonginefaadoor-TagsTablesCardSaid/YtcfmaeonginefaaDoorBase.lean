/- Words on lists and texts; graftbedref03.Split, graftbedref01.Elems: what they answer. -/
import Derived.Test.YtcfmaeonginefaaDoorMade
import Derived.Maps.AppendAt
import Derived.RangeFuncLeaves
import Derived.Deep.QuietTactic
import Derived.BigQuiet
namespace Go.Proofs.YtcfmaeonginefaaDoor.Base
open Go Go.RowKit Go.Shelf Go.Proofs.YtcfmaeonginefaaDoor.Seq Go.Proofs.YtcfmaeonginefaaDoor.Cut Go.Proofs.YtcfmaeonginefaaDoor.Elems Go.Proofs.YtcfmaeonginefaaDoor.Paths Go.Proofs.YtcfmaeonginefaaDoor.Made
set_option linter.unusedSimpArgs false
set_option linter.unusedVariables false

theorem infoS : (Tryd.prog.info? 9).map (fun i => (i.zero, i.size, i.bytes)) = some (some (.string ⟨#[]⟩), 1, 16) := by kernel_rfl
theorem all_split (p : UInt8 → Bool) (s : ByteArray) (k : Nat) (hlt : k < s.size) (HA : ((s.data.toList.take k).all p) = true) : ((s.data.toList.take (k + 1)).all p) = p s[k] := by
  have hts : s.data.toList.take (k + 1) = s.data.toList.take k ++ [s[k]] := by
    have : k < s.data.toList.length := by rw [Array.length_toList]; exact hlt
    rw [List.take_succ_eq_append_getElem this]; rfl
  rw [hts, List.all_append, HA]; simp
theorem ib_take {c : UInt8} : ∀ (l : List UInt8) (k : Nat), (∀ b ∈ l.take k, b ≠ c) → ∀ (h : k < l.length), l[k] = c → Lib.indexByte l c = k
  | [], k, _, h, _ => absurd h (by simp)
  | b :: t, 0, _, _, e => by obtain rfl : b = c := e; exact ib_here t b
  | b :: t, k + 1, hn, h, e => by
    have hb : b ≠ c := hn b (by simp)
    rw [ib_cons b t c hb, ib_take t k (fun x hx => hn x (by simp [hx])) (by simpa using h) (by simpa using e)]
    rw [if_neg (by omega)]
    omega
theorem ib_none {c : UInt8} : ∀ (l : List UInt8), (∀ b ∈ l, b ≠ c) → Lib.indexByte l c = -1
  | [], _ => rfl
  | b :: t, hn => by
    rw [ib_cons b t c (hn b (by simp)), ib_none t (fun x hx => hn x (by simp [hx]))]
    rfl
theorem newAt (X : World) (o : Obj) (k : Nat) (h : X.heap.size = k) : (X.alloc o).heap[k]? = some o := by subst h; exact World.alloc_heap_new X o
theorem rowBelow {W W' : World} {base e sz k : Nat} {v : Value} {xs : List Value} (h : W.ownsRow base e sz v k xs) (hb : Below W.heap.size W W') : W'.ownsRow base e sz v k xs := by
  rcases h with ⟨hl, h⟩
  refine ⟨hl, ?_⟩
  rcases h with h | ⟨g, cap, cur, rfl, hgb0, hgb, r⟩
  · exact .inl h
  · exact .inr ⟨g, cap, cur, rfl, hgb0, (hb.block g (Array.getElem?_eq_some_iff.1 hgb).1).trans hgb, r⟩
theorem cellB {W W' : World} {b o : Nat} {v : Value} (h : Below W.heap.size W W') (hb : b < W.heap.size) (hc : W.cell? ⟨b, o, none⟩ = some v) : W'.cell? ⟨b, o, none⟩ = some v := (h.cell (p := ⟨b, o, none⟩) hb).trans hc
theorem splB_size (c : UInt8) (s : ByteArray) {n : Nat} (hs : s.size ≤ n) (x : ByteArray) (h : x ∈ splB c s) : x.size ≤ n := by
  unfold splB at h
  obtain ⟨l, hl, rfl⟩ := List.mem_map.1 h
  have := spl_size c _ l hl
  have e : s.data.toList.length = s.size := by rw [Array.length_toList]; rfl
  have e2 : (mk l).size = l.length := by simp [mk, ByteArray.size]
  omega
def strV (l : List UInt8) : Value := .string (mk l)
/-- How far a splitting loop has come. -/
def Rel (c : UInt8) (L : List UInt8) (k f : Nat) (pre : List (List UInt8)) : Prop :=
  (k ≤ L.length ∧ f ≤ k ∧ spl c L = pre ++ spl c (L.drop f) ∧ ∀ b ∈ (L.drop f).take (k - f), b ≠ c) ∨ (k = L.length + 1 ∧ spl c L = pre)
theorem rel_go {c : UInt8} {L : List UInt8} {k f : Nat} {pre : List (List UInt8)} (h : Rel c L k f pre) (hk : k < L.length) (hc : L[k] ≠ c) : Rel c L (k + 1) f pre := by
  rcases h with ⟨h1, h2, h3, h4⟩ | ⟨h1, _⟩
  · refine .inl ⟨hk, by omega, h3, fun b hb => ?_⟩
    rw [show k + 1 - f = (k - f) + 1 by omega, List.take_succ_eq_append_getElem (by simp; omega)] at hb
    rcases List.mem_append.1 hb with hb | hb
    · exact h4 b hb
    · simp at hb
      rw [hb]
      have : f + (k - f) = k := by omega
      simpa [this] using hc
  · omega
theorem rel_at {c : UInt8} {L : List UInt8} {k f : Nat} {pre : List (List UInt8)} (h : Rel c L k f pre) (hk : k < L.length) (hc : L[k] = c) : f ≤ k ∧ Rel c L (k + 1) (k + 1) (pre ++ [(L.drop f).take (k - f)]) := by
  rcases h with ⟨h1, h2, h3, h4⟩ | ⟨h1, _⟩
  · have hi : Lib.indexByte (L.drop f) c = ((k - f : Nat) : Int) := ib_take _ _ h4 (by simp; omega) (by
      have : f + (k - f) = k := by omega
      simpa [this] using hc)
    refine ⟨h2, .inl ⟨hk, Nat.le_refl _, ?_, by simp⟩⟩
    rw [h3, spl_some c _ _ hi, List.drop_drop, show f + (k - f + 1) = k + 1 by omega]
    simp
  · omega
theorem rel_end {c : UInt8} {L : List UInt8} {f : Nat} {pre : List (List UInt8)} (h : Rel c L L.length f pre) : f ≤ L.length ∧ Rel c L (L.length + 1) (L.length + 1) (pre ++ [(L.drop f).take (L.length - f)]) := by
  rcases h with ⟨h1, h2, h3, h4⟩ | ⟨h1, _⟩
  · have ht : (L.drop f).take (L.length - f) = L.drop f := List.take_of_length_le (by simp)
    rw [ht] at h4
    have hi : Lib.indexByte (L.drop f) c < 0 := by rw [ib_none _ h4]; decide
    refine ⟨h2, .inr ⟨rfl, ?_⟩⟩
    rw [h3, spl_none c _ hi, ht]
  · omega
theorem rel_done {c : UInt8} {L : List UInt8} {k f : Nat} {pre : List (List UInt8)} (h : Rel c L k f pre) (hk : ¬ k ≤ L.length) : spl c L = pre := by
  rcases h with ⟨h1, _⟩ | ⟨_, h⟩
  · omega
  · exact h
theorem rel_le {c : UInt8} {L : List UInt8} {k f : Nat} {pre : List (List UInt8)} (h : Rel c L k f pre) : k ≤ L.length + 1 := by
  rcases h with ⟨h1, _⟩ | ⟨h, _⟩ <;> omega

theorem rel_len {c : UInt8} {L : List UInt8} {k f : Nat} {pre : List (List UInt8)} (h : Rel c L k f pre) : pre.length ≤ L.length + 1 := by
  have h1 := spl_length c L
  rcases h with ⟨_, _, h, _⟩ | ⟨_, h⟩
  · rw [h, List.length_append] at h1; omega
  · rw [h] at h1; exact h1
theorem rowgrow {n : Nat} {w wr : World} {e sz k : Nat} {v : Value} {xs : List Value} (hB : Below n w wr) (hsz : n ≤ wr.heap.size) (hrow : wr.ownsRow n e sz v k xs) (o : Obj) : ∀ w1, (wr.alloc o).grownBy w1 v.ownBlock → Below n w w1 ∧ n ≤ w1.heap.size := fun w1 hg => by
  refine ⟨(hB.alloc hsz o).grown hg (by simp; omega) fun j ej => ?_, by have := hg.size; simp at this; omega⟩
  exact (hrow.lt j ej).1

set_option maxRecDepth 100000 in
set_option maxHeartbeats 2000000 in
theorem split3 (s : ByteArray) (c : UInt8) (hs : s.size ≤ 1048576) (w : World) : Calls Tryd.prog 27 #[.string s, .int .u8 c.toNat] w fun e w' => ∃ v, e = .returned v ∧ w'.ownsRow w.heap.size 9 1 v (splB c s).length ((splB c s).map Value.string) ∧ Below w.heap.size w w' := by
  have eL : s.data.toList.length = s.size := by rw [Array.length_toList]; rfl
  obtain ⟨i0, hi, hz0, hz1, hz2⟩ := info_parts infoS
  go_enter Tryd.func27, Tryd.ntmps27
  go_wp2
  go_loopw [5, 6, 7] (fun v fv iv wr => ∃ (k f : Nat) (pre : List (List UInt8)), fv = .int .i64 f ∧ iv = .int .i64 k ∧ Rel c s.data.toList k f pre ∧ wr.ownsRow w.heap.size 9 1 v pre.length (pre.map strV) ∧ Below w.heap.size w wr ∧ w.heap.size ≤ wr.heap.size)
    (fun v fv iv wr => s.size + 2 - (intOf iv).toNat)
  case atStart =>
    refine ⟨0, 0, [], rfl, rfl, .inl ⟨Nat.zero_le _, Nat.le_refl _, rfl, by simp⟩, World.ownsRow_lit w #[] 0 (Nat.le_refl _) (by decide) rfl, (Below.refl _ w).alloc (Nat.le_refl _) _, by simp⟩
  case round =>
    obtain ⟨k, f, pre, rfl, rfl, hR, hrow, hB, hsz⟩ := hrel
    have hle := rel_le hR
    have hln := rel_len hR
    by_cases hk : k ≤ s.size
    · by_cases hlt : k < s.size
      · by_cases hc : s[k] = c
        · have hR2 := rel_at hR (by omega) (show s.data.toList[k]'(by omega) = c from hc)
          have hln2 := rel_len hR2.2
          have hcb : ((s[k].toNat : Int) == c.toNat) = true := by rw [hc]; simp
          have hne : ((k : Int) == s.size) = false := by rw [beq_eq_false_iff_ne]; omega
          have hf0 : (0 : Int) ≤ f := by omega
          have hfk : (f : Int) ≤ k := by omega
          have hks : (k : Int) ≤ s.size := by omega
          have HX := Lib.hid (show s.extract f k = mk ((s.data.toList.drop f).take (k - f)) from extract_mk s f k)
          have HR := Lib.hid hR2.2
          simp only [List.length_append, List.length_singleton] at hln2
          have hcl := rowgrow hB hsz hrow (.cells #[.string (s.extract f k)] 9)
          clear hR hR2 hc hle
          go_wp2_with (at_builtin; refine wpList_append_own _ rfl _ _ 22 rfl w.heap.size 9 i0 (.string ⟨#[]⟩) 1 16 Tryd.underlying22 hi hz0 hz1 hz2 rfl (by decide) _ _ _ rfl (hrow.alloc _) ⟨wr.heap.size, 0, none⟩ 1 1 [.string (s.extract f k)] rfl rfl (cell_one_new _ _ _) (by simp [Value.oneCell']) (by unfold maxLen; omega) (by omega) (by simp; omega) ?_; intro v' w1 hown' hgrow _; have hcl1 := hcl _ hgrow)
          go_roundw
          case rel =>
            refine ⟨k + 1, k + 1, _, by go_num, by go_num, HR.out, ?_, hcl1.1, hcl1.2⟩
            rw [HX.out] at hown'
            simpa [strV] using hown'
          case measure => simp [intOf]; omega
        · have hR2 := rel_go hR (by omega) (show s.data.toList[k]'(by omega) ≠ c from hc)
          have hcb : ((s[k].toNat : Int) == c.toNat) = false := by
            rw [beq_eq_false_iff_ne]
            intro h
            exact hc (UInt8.toNat_inj.1 (by omega))
          have hne : ((k : Int) == s.size) = false := by rw [beq_eq_false_iff_ne]; omega
          have HR := Lib.hid hR2
          clear hR hR2 hc hle
          go_wp2
          go_roundw
          case rel => exact ⟨k + 1, f, pre, rfl, by go_num, HR.out, hrow, hB, hsz⟩
          case measure => simp [intOf]; omega
      · obtain rfl : k = s.size := by omega
        have hR2 := rel_end (show Rel c s.data.toList s.data.toList.length f pre by rw [eL]; exact hR)
        rw [eL] at hR2
        have hln2 := rel_len hR2.2
        have hf0 : (0 : Int) ≤ f := by omega
        have hfk : (f : Int) ≤ s.size := by omega
        have HX := Lib.hid (show s.extract f s.size = mk ((s.data.toList.drop f).take (s.size - f)) from extract_mk s f s.size)
        have HR := Lib.hid hR2.2
        simp only [List.length_append, List.length_singleton] at hln2
        have hcl := rowgrow hB hsz hrow (.cells #[.string (s.extract f s.size)] 9)
        clear hR hR2 hle
        go_wp2_with (at_builtin; refine wpList_append_own _ rfl _ _ 22 rfl w.heap.size 9 i0 (.string ⟨#[]⟩) 1 16 Tryd.underlying22 hi hz0 hz1 hz2 rfl (by decide) _ _ _ rfl (hrow.alloc _) ⟨wr.heap.size, 0, none⟩ 1 1 [.string (s.extract f s.size)] rfl rfl (cell_one_new _ _ _) (by simp [Value.oneCell']) (by unfold maxLen; omega) (by omega) (by simp; omega) ?_; intro v' w1 hown' hgrow _; have hcl1 := hcl _ hgrow)
        go_roundw
        case rel =>
          refine ⟨s.size + 1, s.size + 1, _, by go_num, by go_num, HR.out, ?_, hcl1.1, hcl1.2⟩
          rw [HX.out] at hown'
          simpa [strV] using hown'
        case measure => simp [intOf] <;> omega
    · have hR2 := rel_done hR (by omega)
      have hl : (splB c s).length = pre.length := by unfold splB; rw [hR2, List.length_map]
      have hm : (splB c s).map Value.string = pre.map strV := by unfold splB; rw [hR2, List.map_map]; rfl
      have HL := Lib.hid hl
      have HM := Lib.hid hm
      clear hR hR2 hl hm hle
      go_wp2
      go_ret
      exact ⟨_, rfl, by rw [HL.out, HM.out]; exact hrow, hB⟩

theorem all_bytes (p : UInt8 → Bool) (h : (List.range 256).all (fun n => p n.toUInt8) = true) (b : UInt8) : p b = true := by
  have := List.all_eq_true.1 h b.toNat (List.mem_range.2 b.toNat_lt)
  simpa using this
/-- A sign of an identifier. -/
theorem take_all (p : ByteArray → Bool) (xs : List ByteArray) (i : Nat) (h : i < xs.length) (HA : ((xs.take i).all p) = true) : ((xs.take (i + 1)).all p) = p xs[i] := by
  rw [List.take_succ_eq_append_getElem h, List.all_append, HA]; simp
theorem all_false (p : ByteArray → Bool) (xs : List ByteArray) (i : Nat) (h : i < xs.length) (hp : p xs[i] = false) : xs.all p = false := by
  rw [← Bool.not_eq_true, List.all_eq_true]
  intro H
  rw [H _ (List.getElem_mem h)] at hp; cases hp
theorem spl_pos (c : UInt8) (s : ByteArray) : 0 < (splB c s).length := by
  have := spl_ne c s.data.toList
  unfold splB
  rw [List.length_map]
  exact List.length_pos_iff.2 this
set_option maxRecDepth 100000 in
set_option maxHeartbeats 2000000 in
theorem elems01 (s : ByteArray) (hs : s.size ≤ 1048576) (w : World) : Calls Tryd.prog 60 #[.string s] w fun e w' => ∃ v, e = .returned v ∧ w'.ownsRow w.heap.size 9 1 v (elemsB s).length ((elemsB s).map Value.string) ∧ Below w.heap.size w w' := by
  have eL : s.data.toList.length = s.size := by rw [Array.length_toList]; rfl
  obtain ⟨i0, hi, hz0, hz1, hz2⟩ := info_parts infoS
  cases hem : s.toList.isEmpty with
  | true =>
    have e : elemsB s = [] := by unfold elemsB; rw [hem]; rfl
    rw [e]
    clear e
    go_enter Tryd.func60, Tryd.ntmps60
    go_wp2
    go_ret
    exact ⟨_, rfl, World.ownsRow_lit w #[] 0 (Nat.le_refl _) (by decide) rfl, (Below.refl _ w).alloc (Nat.le_refl _) _⟩
  | false =>
  have heq : elemsB s = splB 47 s := by unfold elemsB; rw [hem]; rfl
  rw [heq]
  clear heq
  go_enter Tryd.func60, Tryd.ntmps60
  go_wp2
  go_loopw [3, 4, 5] (fun v fv iv wr => ∃ (k f : Nat) (pre : List (List UInt8)), fv = .int .i64 f ∧ iv = .int .i64 k ∧ Rel 47 s.data.toList k f pre ∧ wr.ownsRow w.heap.size 9 1 v pre.length (pre.map strV) ∧ Below w.heap.size w wr ∧ w.heap.size ≤ wr.heap.size)
    (fun v fv iv wr => s.size + 2 - (intOf iv).toNat)
  case atStart =>
    refine ⟨0, 0, [], rfl, rfl, .inl ⟨Nat.zero_le _, Nat.le_refl _, rfl, by simp⟩, World.ownsRow_lit w #[] 0 (Nat.le_refl _) (by decide) rfl, (Below.refl _ w).alloc (Nat.le_refl _) _, by simp⟩
  case round =>
    obtain ⟨k, f, pre, rfl, rfl, hR, hrow, hB, hsz⟩ := hrel
    have hle := rel_le hR
    have hln := rel_len hR
    by_cases hk : k ≤ s.size
    · by_cases hlt : k < s.size
      · by_cases hc : s[k] = 47
        · have hR2 := rel_at hR (by omega) (show s.data.toList[k]'(by omega) = 47 from hc)
          have hln2 := rel_len hR2.2
          have hcb : ((s[k].toNat : Int) == 47) = true := by rw [hc]; simp
          have hne : ((k : Int) == s.size) = false := by rw [beq_eq_false_iff_ne]; omega
          have hf0 : (0 : Int) ≤ f := by omega
          have hfk : (f : Int) ≤ k := by omega
          have hks : (k : Int) ≤ s.size := by omega
          have HX := Lib.hid (show s.extract f k = mk ((s.data.toList.drop f).take (k - f)) from extract_mk s f k)
          have HR := Lib.hid hR2.2
          simp only [List.length_append, List.length_singleton] at hln2
          have hcl := rowgrow hB hsz hrow (.cells #[.string (s.extract f k)] 9)
          clear hR hR2 hc hle
          go_wp2_with (at_builtin; refine wpList_append_own _ rfl _ _ 22 rfl w.heap.size 9 i0 (.string ⟨#[]⟩) 1 16 Tryd.underlying22 hi hz0 hz1 hz2 rfl (by decide) _ _ _ rfl (hrow.alloc _) ⟨wr.heap.size, 0, none⟩ 1 1 [.string (s.extract f k)] rfl rfl (cell_one_new _ _ _) (by simp [Value.oneCell']) (by unfold maxLen; omega) (by omega) (by simp; omega) ?_; intro v' w1 hown' hgrow _; have hcl1 := hcl _ hgrow)
          go_roundw
          case rel =>
            refine ⟨k + 1, k + 1, _, by go_num, by go_num, HR.out, ?_, hcl1.1, hcl1.2⟩
            rw [HX.out] at hown'
            simpa [strV] using hown'
          case measure => simp [intOf]; omega
        · have hR2 := rel_go hR (by omega) (show s.data.toList[k]'(by omega) ≠ 47 from hc)
          have hcb : ((s[k].toNat : Int) == 47) = false := by
            rw [beq_eq_false_iff_ne]
            intro h
            exact hc (UInt8.toNat_inj.1 (by have : (47 : UInt8).toNat = 47 := rfl; omega))
          have hne : ((k : Int) == s.size) = false := by rw [beq_eq_false_iff_ne]; omega
          have HR := Lib.hid hR2
          clear hR hR2 hc hle
          go_wp2
          go_roundw
          case rel => exact ⟨k + 1, f, pre, rfl, by go_num, HR.out, hrow, hB, hsz⟩
          case measure => simp [intOf]; omega
      · obtain rfl : k = s.size := by omega
        have hR2 := rel_end (show Rel 47 s.data.toList s.data.toList.length f pre by rw [eL]; exact hR)
        rw [eL] at hR2
        have hln2 := rel_len hR2.2
        have hf0 : (0 : Int) ≤ f := by omega
        have hfk : (f : Int) ≤ s.size := by omega
        have HX := Lib.hid (show s.extract f s.size = mk ((s.data.toList.drop f).take (s.size - f)) from extract_mk s f s.size)
        have HR := Lib.hid hR2.2
        simp only [List.length_append, List.length_singleton] at hln2
        have hcl := rowgrow hB hsz hrow (.cells #[.string (s.extract f s.size)] 9)
        clear hR hR2 hle
        go_wp2_with (at_builtin; refine wpList_append_own _ rfl _ _ 22 rfl w.heap.size 9 i0 (.string ⟨#[]⟩) 1 16 Tryd.underlying22 hi hz0 hz1 hz2 rfl (by decide) _ _ _ rfl (hrow.alloc _) ⟨wr.heap.size, 0, none⟩ 1 1 [.string (s.extract f s.size)] rfl rfl (cell_one_new _ _ _) (by simp [Value.oneCell']) (by unfold maxLen; omega) (by omega) (by simp; omega) ?_; intro v' w1 hown' hgrow _; have hcl1 := hcl _ hgrow)
        go_roundw
        case rel =>
          refine ⟨s.size + 1, s.size + 1, _, by go_num, by go_num, HR.out, ?_, hcl1.1, hcl1.2⟩
          rw [HX.out] at hown'
          simpa [strV] using hown'
        case measure => simp [intOf] <;> omega
    · have hR2 := rel_done hR (by omega)
      have hl : (splB 47 s).length = pre.length := by unfold splB; rw [hR2, List.length_map]
      have hm : (splB 47 s).map Value.string = pre.map strV := by unfold splB; rw [hR2, List.map_map]; rfl
      have HL := Lib.hid hl
      have HM := Lib.hid hm
      clear hR hR2 hl hm hle
      go_wp2
      go_ret
      exact ⟨_, rfl, by rw [HL.out, HM.out]; exact hrow, hB⟩
/-- A slice of texts reads as a list. -/
def Rd (w : World) (v : Value) (xs : List ByteArray) : Prop := ∃ (A : Option Addr) (c : Nat), v = .slice A xs.length c ∧ ∀ (i : Nat) (h : i < xs.length), ∃ g : Nat, A = some ⟨g, 0, none⟩ ∧ w.cell? ⟨g, i, none⟩ = some (.string xs[i])
theorem rd_row {w : World} {b e : Nat} {v : Value} {xs : List ByteArray} (h : w.ownsRow b e 1 v xs.length (xs.map Value.string)) : Rd w v xs := by
  obtain ⟨hl, h'⟩ := id h
  rcases h' with ⟨rfl, h0⟩ | ⟨g, cap, cur, rfl, _⟩
  · exact ⟨none, 0, by rw [h0], fun i hi => absurd hi (by omega)⟩
  · refine ⟨some ⟨g, 0, none⟩, cap, rfl, fun i hi => ⟨g, rfl, ?_⟩⟩
    rw [h.cellAt i (by omega)]
    simp [hi]
theorem elems_len (s : ByteArray) (hs : s.size ≤ 1048576) : (elemsB s).length ≤ 1048577 := by have := elemsB_length s; omega
end Go.Proofs.YtcfmaeonginefaaDoor.Base

/- paths.Import: what it answers. -/
import Derived.Test.YtcfmaeonginefaaDoorMade
namespace Go.Proofs.YtcfmaeonginefaaDoor.Import
open Go Go.RowKit Go.Shelf Go.Proofs.YtcfmaeonginefaaDoor.Seq Go.Proofs.YtcfmaeonginefaaDoor.Cut Go.Proofs.YtcfmaeonginefaaDoor.Elems Go.Proofs.YtcfmaeonginefaaDoor.Paths Go.Proofs.YtcfmaeonginefaaDoor.Made
attribute [local go_sem] Oper.semAt_some
set_option linter.unusedSimpArgs false
set_option linter.unusedVariables false

def caps : ByteArray := ⟨#[65, 66, 67, 68, 69, 70, 71, 72, 73, 74, 75, 76, 77, 78, 79, 80, 81, 82, 83, 84, 85, 86, 87, 88, 89, 90, 43]⟩
def first (x : ByteArray) (c : Int) : Bool := if h : 0 < x.size then decide ((x[0].toNat : Int) = c) else false
theorem first_yes {x : ByteArray} {c : Int} (h : 0 < x.size) (e : (x[0].toNat : Int) = c) : first x c = true := by unfold first; rw [dif_pos h]; exact decide_eq_true e
theorem first_no {x : ByteArray} {c : Int} (h : 0 < x.size) (e : ¬ (x[0].toNat : Int) = c) : first x c = false := by unfold first; rw [dif_pos h]; exact decide_eq_false e
def okI (x : ByteArray) : Bool := !(first x 46 || first x 45 || Lib.hasSuffix x.data.toList [46])
def importB (s : ByteArray) : Bool := validB s && madeB s caps && (elemsB s).all okI
def allI (pre : List ByteArray) : Prop := pre.all okI = true
def notI (pre : List ByteArray) : Prop := pre.all okI = false
theorem okE_pos {x : ByteArray} (h : okE x = true) : 0 < x.size := by
  rcases Nat.eq_zero_or_pos x.size with e | e
  · exfalso
    obtain ⟨⟨l⟩⟩ := x
    cases l with
    | nil =>
      have : (⟨#[]⟩ : ByteArray).toList.isEmpty = true := by decide +kernel
      unfold okE bad0 at h
      rw [this] at h
      simp at h
    | cons a t => exact absurd e (by simp [ByteArray.size])
  · exact e

set_option maxRecDepth 100000 in
set_option maxHeartbeats 4000000 in
theorem import_in (s : ByteArray) (hs : s.size ≤ 1048576) (w : World) :
    CallsIn Fence.wide 9 Tryd.prog 39 #[.string s] w fun e W' => e = .returned (.int .i64 (errB (importB s))) ∧ Below w.heap.size w W' := by
  refine callsIn_of_wp_marks Tryd.func39 rfl trivial ?_ rfl
  simp only [Tryd.ntmps39, List.size_toArray, List.length_cons, List.length_nil, Nat.reduceAdd, Nat.reduceSub, Array.replicate_succ, Array.replicate_zero, List.push_toArray, List.append_toArray, List.nil_append, List.cons_append]
  have bR := Boxed.new w 30 (.int .i64 0)
  cases hv : validB s with
  | false =>
    have e : importB s = false := by simp only [importB, hv, Bool.false_and]
    have HV := Lib.hid hv
    clear hv
    rw [errB_no e]
    clear e
    gi_wp2_with (first
        | (refine ⟨trivial, ?_⟩; gi_at_call 55; refine (callsIn_wide.2 (Made.Valid s hs _)).mono ?_; rw [HV.out]; rintro e w1 ⟨rfl, hb1⟩; have bR1 : Boxed w1 w.heap.size 30 (.int .i64 0) := (hb1.block _ bR.lt).trans bR; have hc1 := bR1.cell; have hf1 := bR1.frozen; have hbw : Below w.heap.size w w1 := ((Below.refl _ w).alloc (Nat.le_refl _) _).trans (hb1.mono (by simp)))
        | (refine ⟨trivial, ?_⟩; gi_wp2))
    exact ⟨.int .i64 10, by have hc := (bR1.set (.int .i64 10)).cell; simp [results, Tryd.f39, go_sem, hc], rfl, (hbw.setCell (p := ⟨w.heap.size, 0, none⟩) (Nat.le_refl _) _)⟩
  | true =>
  have HV := Lib.hid hv
  cases hm : madeB s caps with
  | false =>
    have e : importB s = false := by simp only [importB, hm, Bool.false_and, Bool.and_false]
    have HM := Lib.hid hm
    clear hv hm
    rw [errB_no e]
    clear e
    gi_wp2_with (first
        | (refine ⟨trivial, ?_⟩; gi_at_call 55; refine (callsIn_wide.2 (Made.Valid s hs _)).mono ?_; rw [HV.out]; rintro e w1 ⟨rfl, hb1⟩; have bR1 : Boxed w1 w.heap.size 30 (.int .i64 0) := (hb1.block _ bR.lt).trans bR; have hc1 := bR1.cell; have hf1 := bR1.frozen; have hbw : Below w.heap.size w w1 := ((Below.refl _ w).alloc (Nat.le_refl _) _).trans (hb1.mono (by simp)))
        | (refine ⟨trivial, ?_⟩; gi_at_call 56; refine (callsIn_wide.2 (made s caps hs (by decide) _)).mono ?_; rw [HM.out]; rintro e w2 ⟨rfl, rfl⟩)
        | (refine ⟨trivial, ?_⟩; gi_wp2))
    exact ⟨.int .i64 10, by have hc := (bR1.set (.int .i64 10)).cell; simp [results, Tryd.f39, go_sem, hc], rfl, (hbw.setCell (p := ⟨w.heap.size, 0, none⟩) (Nat.le_refl _) _)⟩
  | true =>
  have HM := Lib.hid hm
  have e : importB s = (elemsB s).all okI := by simp only [importB, hv, hm, Bool.and_self, Bool.true_and]
  rw [e]
  have hall : ∀ x, x ∈ elemsB s → 0 < x.size := fun x hx => by
    unfold validB at hv
    rw [Bool.and_eq_true] at hv
    exact okE_pos (List.all_eq_true.1 hv.2 x hx)
  have HP := Lib.hid hall
  clear hv hm e hall
  gi_wp2_with (first
        | (refine ⟨trivial, ?_⟩; gi_at_call 55; refine (callsIn_wide.2 (Made.Valid s hs _)).mono ?_; rw [HV.out]; rintro e w1 ⟨rfl, hb1⟩; have bR1 : Boxed w1 w.heap.size 30 (.int .i64 0) := (hb1.block _ bR.lt).trans bR; have hc1 := bR1.cell; have hf1 := bR1.frozen; have hbw : Below w.heap.size w w1 := ((Below.refl _ w).alloc (Nat.le_refl _) _).trans (hb1.mono (by simp)))
        | (refine ⟨trivial, ?_⟩; gi_at_call 56; refine (callsIn_wide.2 (made s caps hs (by decide) _)).mono ?_; rw [HM.out]; rintro e w2 ⟨rfl, rfl⟩)
        | (refine ⟨trivial, ?_⟩; gi_at_call 57; refine (elems s _).mono ?_; rintro e w' ⟨rfl, rfl⟩; clear hc1 hf1))
  have hsz1 : w.heap.size < w1.heap.size := by have := hb1.size; simp at this; omega
  have bE := Boxed.new w1 9 (.string s)
  have bA := bR1.alloc (.cells #[.string s] 9)
  have hbA : Below w.heap.size w (w1.alloc (.cells #[.string s] 9)) := hbw.alloc (by omega) _
  have hsA : (w1.alloc (.cells #[.string s] 9)).heap.size = w1.heap.size + 1 := by simp
  refine wpIn_rangeFunc_X (F := Fence.wide) rfl (by omega) (gf := 97) (lb := #[.pointer (some ⟨w1.heap.size, 0, none⟩)]) rfl trivial (enters_of Tryd.func97 (by kernel_rfl) rfl)
    (elems_seq s (by omega) w1.heap.size _ bE) (fun r e => by subst e; omega) keepsBox_t (keepsBox_b (by omega)) (fun _ => rfl)
    (RI allI w 30 (.int .i64 0)) (RX notI w 30 (.int .i64 10))
    (ri_abides (by omega) (by omega)) (rx_abides (by omega) (by omega))
    ⟨rfl, bA, hbA⟩
    (fun x => { tmps := #[.string s, undef, .pointer (some ⟨w.heap.size, 0, none⟩), .string x, .string s, .bool true, .bool false, .bool false, .string s, .bool true, .bool false, .bool false, .string s, .func (.func 97) #[] #[.pointer (some ⟨w1.heap.size, 0, none⟩)], .string x, undef, undef, undef, undef, undef, undef, undef, undef, undef, undef, undef, undef], defers := [] }) ?assign ?body ?done ?stop
  case assign =>
    intro l x W K hK
    gi_wp2
    exact hK
  case body =>
    rintro l pre x post W hxs ⟨hok, hb, hB⟩
    have hxsz : x.size ≤ 1048576 := elemsB_size s hs x (by rw [hxs]; simp)
    have hpos : 0 < x.size := HP.out x (by rw [hxs]; simp)
    clear hxs bR bE bA hbA hbw bR1 hb1 HV HM HP
    have hc := hb.cell
    have hf := hb.frozen
    have KF : okI x = false → ∀ n W', W' = W.setCell ⟨w.heap.size, 0, none⟩ (.int .i64 10) → KeepsFrom n W W' ∧ RX notI w 30 (.int .i64 10) .ret (pre ++ [x]) W' := by
      rintro hx n _ rfl
      exact ⟨(KeepsOthers.setCell _ _ _).from _, ⟨rfl, by simp [notI, hx]⟩, hb.set _, hB.setCell (p := ⟨w.heap.size, 0, none⟩) (Nat.le_refl _) _⟩
    have HK := Lib.hid KF
    clear KF
    by_cases h46 : (x[0].toNat : Int) = 46
    · have e : okI x = false := by simp only [okI, first_yes hpos h46, Bool.true_or, Bool.not_true]
      have hd : ((x[0].toNat : Int) == 46) = true := by simpa using h46
      have HE := Lib.hid e
      clear h46 e
      gi_wp2_with (refine ⟨trivial, ?_⟩; gi_wp2)
      exact HK.out HE.out _ _ rfl
    have hd : ((x[0].toNat : Int) == 46) = false := by simpa using h46
    by_cases h45 : (x[0].toNat : Int) = 45
    · have e : okI x = false := by simp only [okI, first_yes hpos h45, Bool.true_or, Bool.or_true, Bool.not_true]
      have hd2 : ((x[0].toNat : Int) == 45) = true := by simpa using h45
      have HE := Lib.hid e
      clear h46 h45 e
      gi_wp2_with (refine ⟨trivial, ?_⟩; gi_wp2)
      exact HK.out HE.out _ _ rfl
    have hd2 : ((x[0].toNat : Int) == 45) = false := by simpa using h45
    cases h2 : Lib.hasSuffix x.data.toList [46] with
    | true =>
      have e : okI x = false := by simp only [okI, h2, Bool.or_true, Bool.not_true]
      have H2 := Lib.hid h2
      have HE := Lib.hid e
      clear h46 h45 h2 e
      gi_wp2_with (refine ⟨trivial, ?_⟩; gi_at_call 41; refine (CallsIn.inRound l (callsIn_wide.2 (suffixU x hxsz _))).mono ?_; rw [H2.out]; rintro e w2 ⟨rfl, rfl⟩)
      exact HK.out HE.out _ _ rfl
    | false =>
      have e : okI x = true := by simp only [okI, first_no hpos h46, first_no hpos h45, h2, Bool.or_self, Bool.not_false]
      have H2 := Lib.hid h2
      have HE := Lib.hid e
      clear h46 h45 h2 e
      gi_wp2_with (refine ⟨trivial, ?_⟩; gi_at_call 41; refine (CallsIn.inRound l (callsIn_wide.2 (suffixU x hxsz _))).mono ?_; rw [H2.out]; rintro e w2 ⟨rfl, rfl⟩)
      exact ⟨KeepsFrom.refl _ _, rfl, by unfold allI at *; rw [List.all_append, hok]; simp [HE.out], hb, hB⟩
  case done =>
    rintro D W hD ⟨hok, hb, hB⟩ hK
    have hc := hb.cell
    have hf := hb.frozen
    gi_wp2
    have hb2 := hb.set (.int .i64 0)
    have hK2 : (W.setCell ⟨w.heap.size, 0, none⟩ (.int .i64 0)).heap[D]? = some (.deferred (some [])) := (Below.heap_setCell _ _ _ D (gone hb hK).symm).trans hK
    have hc3 := (Seq.Boxed.putObj hb2 (.deferred none) (gone hb hK)).cell
    refine leaveM hK2 (v := .int .i64 0) (by simp [results, Tryd.f39, go_sem, hc3]) ⟨ret_num (errB_yes hok).symm, below_leave (hB.setCell (p := ⟨w.heap.size, 0, none⟩) (Nat.le_refl _) _) (by omega) hK2 _⟩
  case stop =>
    rintro D c pre x post W hD hxs ⟨⟨rfl, hno⟩, hb, hB⟩ hK
    gi_wp2
    have hc3 := (Seq.Boxed.putObj hb (.deferred none) (gone hb hK)).cell
    have e : (elemsB s).all okI = false := by
      rw [show elemsB s = (pre ++ [x]) ++ post by rw [hxs]; simp, List.all_append]
      unfold notI at hno; rw [hno]; rfl
    refine leaveM hK (v := .int .i64 10) (by simp [results, Tryd.f39, go_sem, hc3]) ⟨ret_num (errB_no e).symm, below_leave hB (by omega) hK _⟩

theorem Import (s : ByteArray) (hs : s.size ≤ 1048576) (w : World) : Calls Tryd.prog 39 #[.string s] w fun e W' => e = .returned (.int .i64 (errB (importB s))) ∧ Below w.heap.size w W' := callsIn_wide.1 (import_in s hs w)
end Go.Proofs.YtcfmaeonginefaaDoor.Import

/- paths.Module: what it answers. -/
import Derived.Test.YtcfmaeonginefaaGreatDoorMade
namespace Go.Proofs.YtcfmaeonginefaaGreatDoor.Module
open Go Go.RowKit Go.Shelf Go.Proofs.YtcfmaeonginefaaGreatDoor.Seq Go.Proofs.YtcfmaeonginefaaGreatDoor.Cut Go.Proofs.YtcfmaeonginefaaGreatDoor.Elems Go.Proofs.YtcfmaeonginefaaGreatDoor.Paths Go.Proofs.YtcfmaeonginefaaGreatDoor.Made
attribute [local go_sem] Oper.semAt_some
set_option linter.unusedSimpArgs false
set_option linter.unusedVariables false

def dash (s : ByteArray) : Bool := if h : 0 < s.size then decide ((s[0].toNat : Int) = 45) else false
/-- No dot at the begin or at the end. -/
def okM (x : ByteArray) : Bool := !(Lib.hasPrefix x.data.toList [46] || Lib.hasSuffix x.data.toList [46])
def moduleB (s : ByteArray) : Bool := validB s && madeB s ⟨#[]⟩ && !dash s && decide (0 ≤ ix (cutB s 47).1 46) && (elemsB s).all okM

def allM (pre : List ByteArray) : Prop := pre.all okM = true
def notM (pre : List ByteArray) : Prop := pre.all okM = false

set_option maxRecDepth 100000 in
set_option maxHeartbeats 4000000 in
theorem module_in (s : ByteArray) (hs : s.size ≤ 1048576) (w : World) :
    CallsIn Fence.wide 9 Tryz.prog 31 #[.string s] w fun e W' => e = .returned (.int .i64 (errB (moduleB s))) ∧ Below w.heap.size w W' := by
  refine callsIn_of_wp_marks Tryz.func31 rfl trivial ?_ rfl
  simp only [Tryz.ntmps31, List.size_toArray, List.length_cons, List.length_nil, Nat.reduceAdd, Nat.reduceSub, Array.replicate_succ, Array.replicate_zero, List.push_toArray, List.append_toArray, List.nil_append, List.cons_append]
  have bR := Boxed.new w 27 (.int .i64 0)
  cases hv : validB s with
  | false =>
    have e : moduleB s = false := by simp only [moduleB, hv, Bool.false_and]
    have HV := Lib.hid hv
    clear hv
    rw [errB_no e]
    clear e
    gi_wp2_with (first
      | (refine ⟨trivial, ?_⟩; gi_at_call 58; refine (callsIn_wide.2 (Made.Valid s hs _)).mono ?_; rw [HV.out]; rintro e w1 ⟨rfl, hb1⟩; have bR1 : Boxed w1 w.heap.size 27 (.int .i64 0) := (hb1.block _ bR.lt).trans bR; have hc1 := bR1.cell; have hf1 := bR1.frozen; have hbw : Below w.heap.size w w1 := ((Below.refl _ w).alloc (Nat.le_refl _) _).trans (hb1.mono (by simp)))
      | (refine ⟨trivial, ?_⟩; gi_wp2))
    exact ⟨.int .i64 10, by have hc := (bR1.set (.int .i64 10)).cell; simp [results, Tryz.f31, go_sem, hc], rfl, (hbw.setCell (p := ⟨w.heap.size, 0, none⟩) (Nat.le_refl _) _)⟩
  | true =>
  have hpos : 0 < s.size := by have := valid_size s hv; omega
  have HV := Lib.hid hv
  cases hm : madeB s ⟨#[]⟩ with
  | false =>
    have e : moduleB s = false := by simp only [moduleB, hm, Bool.false_and, Bool.and_false]
    have HM := Lib.hid hm
    clear hv hm
    rw [errB_no e]
    clear e
    gi_wp2_with (first
      | (refine ⟨trivial, ?_⟩; gi_at_call 58; refine (callsIn_wide.2 (Made.Valid s hs _)).mono ?_; rw [HV.out]; rintro e w1 ⟨rfl, hb1⟩; have bR1 : Boxed w1 w.heap.size 27 (.int .i64 0) := (hb1.block _ bR.lt).trans bR; have hc1 := bR1.cell; have hf1 := bR1.frozen; have hbw : Below w.heap.size w w1 := ((Below.refl _ w).alloc (Nat.le_refl _) _).trans (hb1.mono (by simp)))
      | (refine ⟨trivial, ?_⟩; gi_at_call 59; refine (callsIn_wide.2 (made s ⟨#[]⟩ hs (by decide) _)).mono ?_; rw [HM.out]; rintro e w2 ⟨rfl, rfl⟩)
      | (refine ⟨trivial, ?_⟩; gi_wp2))
    exact ⟨.int .i64 10, by have hc := (bR1.set (.int .i64 10)).cell; simp [results, Tryz.f31, go_sem, hc], rfl, (hbw.setCell (p := ⟨w.heap.size, 0, none⟩) (Nat.le_refl _) _)⟩
  | true =>
  have HM := Lib.hid hm
  by_cases hd : (s[0].toNat : Int) = 45
  · have hd' : dash s = true := by unfold dash; rw [dif_pos hpos]; exact decide_eq_true hd
    have e : moduleB s = false := by simp only [moduleB, hd', Bool.not_true, Bool.false_and, Bool.and_false]
    have hdb : ((s[0].toNat : Int) == 45) = true := by simpa using hd
    clear hv hm hd hd'
    rw [errB_no e]
    clear e
    gi_wp2_with (first
      | (refine ⟨trivial, ?_⟩; gi_at_call 58; refine (callsIn_wide.2 (Made.Valid s hs _)).mono ?_; rw [HV.out]; rintro e w1 ⟨rfl, hb1⟩; have bR1 : Boxed w1 w.heap.size 27 (.int .i64 0) := (hb1.block _ bR.lt).trans bR; have hc1 := bR1.cell; have hf1 := bR1.frozen; have hbw : Below w.heap.size w w1 := ((Below.refl _ w).alloc (Nat.le_refl _) _).trans (hb1.mono (by simp)))
      | (refine ⟨trivial, ?_⟩; gi_at_call 59; refine (callsIn_wide.2 (made s ⟨#[]⟩ hs (by decide) _)).mono ?_; rw [HM.out]; rintro e w2 ⟨rfl, rfl⟩)
      | (refine ⟨trivial, ?_⟩; gi_wp2))
    exact ⟨.int .i64 10, by have hc := (bR1.set (.int .i64 10)).cell; simp [results, Tryz.f31, go_sem, hc], rfl, (hbw.setCell (p := ⟨w.heap.size, 0, none⟩) (Nat.le_refl _) _)⟩
  have hd' : dash s = false := by unfold dash; rw [dif_pos hpos]; exact decide_eq_false hd
  have hdb : ((s[0].toNat : Int) == 45) = false := by simpa using hd
  by_cases hi : 0 ≤ ix (cutB s 47).1 46
  · have e : moduleB s = (elemsB s).all okM := by simp only [moduleB, hv, hm, hd', decide_eq_true hi, Bool.not_false, Bool.and_self, Bool.true_and]
    rw [e]
    generalize hcb : cutB s 47 = cb at *
    obtain ⟨x1, x2, x3⟩ := cb
    have HC := Lib.hid hcb
    dsimp only at hi
    clear hv hm hd hd' hcb e
    gi_wp2_with (first
      | (refine ⟨trivial, ?_⟩; gi_at_call 58; refine (callsIn_wide.2 (Made.Valid s hs _)).mono ?_; rw [HV.out]; rintro e w1 ⟨rfl, hb1⟩; have bR1 : Boxed w1 w.heap.size 27 (.int .i64 0) := (hb1.block _ bR.lt).trans bR; have hc1 := bR1.cell; have hf1 := bR1.frozen; have hbw : Below w.heap.size w w1 := ((Below.refl _ w).alloc (Nat.le_refl _) _).trans (hb1.mono (by simp)))
      | (refine ⟨trivial, ?_⟩; gi_at_call 59; refine (callsIn_wide.2 (made s ⟨#[]⟩ hs (by decide) _)).mono ?_; rw [HM.out]; rintro e w2 ⟨rfl, rfl⟩)
      | (refine ⟨trivial, ?_⟩; gi_at_call 60; refine (callsIn_wide.2 (cut s 47 _ (by omega))).mono ?_; rw [HC.out]; rintro e w3 ⟨rfl, q, rfl⟩; replace bR1 := Seq.Boxed.drewN bR1 q; clear hc1 hf1; have hc1 := bR1.cell; have hf1 := bR1.frozen)
      | (refine ⟨trivial, ?_⟩; gi_at_call 61; refine (callsIn_wide.2 (idxU x1 46 _)).mono ?_; rintro e w2 ⟨rfl, rfl⟩)
      | (refine ⟨trivial, ?_⟩; gi_at_call 62; refine (elems s _).mono ?_; rintro e w' ⟨rfl, rfl⟩; clear hc1 hf1))
    have hdi : decide (ix x1 46 < 0) = false := decide_eq_false (by omega)
    rw [hdi]
    clear hdi
    have hsz1 : w.heap.size < w1.heap.size := by have := hb1.size; simp at this; omega
    have bE := Boxed.new (w1.drewN q) 9 (.string s)
    have hbw2 := pw_drewN hbw q
    have hsq : (w1.drewN q).heap.size = w1.heap.size := rfl
    rw [hsq] at bE
    have bA := bR1.alloc (.cells #[.string s] 9)
    have hbA : Below w.heap.size w ((w1.drewN q).alloc (.cells #[.string s] 9)) := hbw2.alloc (by rw [hsq]; omega) _
    have hsA : ((w1.drewN q).alloc (.cells #[.string s] 9)).heap.size = w1.heap.size + 1 := by simp [hsq]
    refine wpIn_rangeFunc_X (F := Fence.wide) rfl (by omega) (gf := 95) (lb := #[.pointer (some ⟨w1.heap.size, 0, none⟩)]) rfl trivial (enters_of Tryz.func95 (by kernel_rfl) rfl)
      (elems_seq s (by omega) w1.heap.size _ bE) (fun r e => by subst e; omega) keepsBox_t (keepsBox_b (by omega)) (fun _ => rfl)
      (RI allM w 27 (.int .i64 0)) (RX notM w 27 (.int .i64 10))
      (ri_abides (by omega) (by omega)) (rx_abides (by omega) (by omega))
      ⟨rfl, bA, hbA⟩
      (fun x => { tmps := #[.string s, undef, .pointer (some ⟨w.heap.size, 0, none⟩), .string x1, .string x2, .bool x3, .string x, .string s, .bool true, .bool false, .bool false, .string s, .bool true, .bool false, .bool false, .bool false, .string s, .int .u8 s[0].toNat, .bool false, .bool false, .tuple #[.string x1, .string x2, .bool x3], .string s, .tuple #[.string x1, .string x2, .bool x3], .string x1, .string x2, .bool x3, .string x1, .int .i64 (ix x1 46), .bool false, .string s, .func (.func 95) #[] #[.pointer (some ⟨w1.heap.size, 0, none⟩)], .string x, undef, undef, undef, undef, undef, undef], defers := [] }) ?assign ?body ?done ?stop
    case assign =>
      intro l x W K hK
      gi_wp2
      exact hK
    case body =>
      rintro l pre x post W hxs ⟨hok, hb, hB⟩
      have hxsz : x.size ≤ 1048576 := elemsB_size s hs x (by rw [hxs]; simp)
      clear hxs bR bE bA hbA hbw2 hbw hdb bR1 hb1 HV HM HC hi
      have hc := hb.cell
      have hf := hb.frozen
      have KF : okM x = false → ∀ n W', W' = W.setCell ⟨w.heap.size, 0, none⟩ (.int .i64 10) → KeepsFrom n W W' ∧ RX notM w 27 (.int .i64 10) .ret (pre ++ [x]) W' := by
        rintro hx n _ rfl
        exact ⟨(KeepsOthers.setCell _ _ _).from _, ⟨rfl, by simp [notM, hx]⟩, hb.set _, hB.setCell (p := ⟨w.heap.size, 0, none⟩) (Nat.le_refl _) _⟩
      have HK := Lib.hid KF
      clear KF
      cases h1 : Lib.hasPrefix x.data.toList [46] with
      | true =>
        have e : okM x = false := by simp only [okM, h1, Bool.true_or, Bool.not_true]
        have H1 := Lib.hid h1
        have HE := Lib.hid e
        clear h1 e
        gi_wp2_with (first
          | (refine ⟨trivial, ?_⟩; gi_at_call 63; refine (CallsIn.inRound l (callsIn_wide.2 (prefixU _ _))).mono ?_; rw [H1.out]; rintro e w2 ⟨rfl, rfl⟩)
          | (refine ⟨trivial, ?_⟩; gi_wp2))
        exact HK.out HE.out _ _ rfl
      | false =>
        have H1 := Lib.hid h1
        cases h2 : Lib.hasSuffix x.data.toList [46] with
        | true =>
          have e : okM x = false := by simp only [okM, h2, Bool.or_true, Bool.not_true]
          have H2 := Lib.hid h2
          have HE := Lib.hid e
          clear h1 h2 e
          gi_wp2_with (first
            | (refine ⟨trivial, ?_⟩; gi_at_call 63; refine (CallsIn.inRound l (callsIn_wide.2 (prefixU _ _))).mono ?_; rw [H1.out]; rintro e w2 ⟨rfl, rfl⟩)
            | (refine ⟨trivial, ?_⟩; gi_at_call 64; refine (CallsIn.inRound l (callsIn_wide.2 (suffixU x hxsz _))).mono ?_; rw [H2.out]; rintro e w2 ⟨rfl, rfl⟩))
          exact HK.out HE.out _ _ rfl
        | false =>
          have e : okM x = true := by simp only [okM, h1, h2, Bool.or_self, Bool.not_false]
          have H2 := Lib.hid h2
          have HE := Lib.hid e
          clear h1 h2 e
          gi_wp2_with (first
            | (refine ⟨trivial, ?_⟩; gi_at_call 63; refine (CallsIn.inRound l (callsIn_wide.2 (prefixU _ _))).mono ?_; rw [H1.out]; rintro e w2 ⟨rfl, rfl⟩)
            | (refine ⟨trivial, ?_⟩; gi_at_call 64; refine (CallsIn.inRound l (callsIn_wide.2 (suffixU x hxsz _))).mono ?_; rw [H2.out]; rintro e w2 ⟨rfl, rfl⟩))
          exact ⟨KeepsFrom.refl _ _, rfl, by unfold allM at *; rw [List.all_append, hok]; simp [HE.out], hb, hB⟩
    case done =>
      rintro D W hD ⟨hok, hb, hB⟩ hK
      have hc := hb.cell
      have hf := hb.frozen
      gi_wp2
      have hb2 := hb.set (.int .i64 0)
      have hK2 : (W.setCell ⟨w.heap.size, 0, none⟩ (.int .i64 0)).heap[D]? = some (.deferred (some [])) := (Below.heap_setCell _ _ _ D (gone hb hK).symm).trans hK
      have hc3 := (Seq.Boxed.putObj hb2 (.deferred none) (gone hb hK)).cell
      refine leaveM hK2 (v := .int .i64 0) (by simp [results, Tryz.f31, go_sem, hc3]) ⟨ret_num (errB_yes hok).symm, below_leave (hB.setCell (p := ⟨w.heap.size, 0, none⟩) (Nat.le_refl _) _) (by omega) hK2 _⟩
    case stop =>
      rintro D c pre x post W hD hxs ⟨⟨rfl, hno⟩, hb, hB⟩ hK
      gi_wp2
      have hc3 := (Seq.Boxed.putObj hb (.deferred none) (gone hb hK)).cell
      have e : (elemsB s).all okM = false := by
        rw [show elemsB s = (pre ++ [x]) ++ post by rw [hxs]; simp, List.all_append]
        unfold notM at hno; rw [hno]; rfl
      refine leaveM hK (v := .int .i64 10) (by simp [results, Tryz.f31, go_sem, hc3]) ⟨ret_num (errB_no e).symm, below_leave hB (by omega) hK _⟩
  · have e : moduleB s = false := by simp only [moduleB, decide_eq_false hi, Bool.false_and, Bool.and_false]
    generalize hcb : cutB s 47 = cb at *
    obtain ⟨x1, x2, x3⟩ := cb
    have HC := Lib.hid hcb
    dsimp only at hi
    clear hv hm hd hd' hcb
    rw [errB_no e]
    clear e
    gi_wp2_with (first
      | (refine ⟨trivial, ?_⟩; gi_at_call 58; refine (callsIn_wide.2 (Made.Valid s hs _)).mono ?_; rw [HV.out]; rintro e w1 ⟨rfl, hb1⟩; have bR1 : Boxed w1 w.heap.size 27 (.int .i64 0) := (hb1.block _ bR.lt).trans bR; have hc1 := bR1.cell; have hf1 := bR1.frozen; have hbw : Below w.heap.size w w1 := ((Below.refl _ w).alloc (Nat.le_refl _) _).trans (hb1.mono (by simp)))
      | (refine ⟨trivial, ?_⟩; gi_at_call 59; refine (callsIn_wide.2 (made s ⟨#[]⟩ hs (by decide) _)).mono ?_; rw [HM.out]; rintro e w2 ⟨rfl, rfl⟩)
      | (refine ⟨trivial, ?_⟩; gi_at_call 60; refine (callsIn_wide.2 (cut s 47 _ (by omega))).mono ?_; rw [HC.out]; rintro e w3 ⟨rfl, q, rfl⟩; replace bR1 := Seq.Boxed.drewN bR1 q; clear hc1 hf1; have hc1 := bR1.cell; have hf1 := bR1.frozen)
      | (refine ⟨trivial, ?_⟩; gi_at_call 61; refine (callsIn_wide.2 (idxU x1 46 _)).mono ?_; rintro e w2 ⟨rfl, rfl⟩)
      | (refine ⟨trivial, ?_⟩; gi_wp2))
    exact ⟨.int .i64 10, by have hc := (bR1.set (.int .i64 10)).cell; simp [results, Tryz.f31, go_sem, hc], rfl, ((pw_drewN hbw q).setCell (p := ⟨w.heap.size, 0, none⟩) (Nat.le_refl _) _)⟩

theorem Module (s : ByteArray) (hs : s.size ≤ 1048576) (w : World) : Calls Tryz.prog 31 #[.string s] w fun e W' => e = .returned (.int .i64 (errB (moduleB s))) ∧ Below w.heap.size w W' := callsIn_wide.1 (module_in s hs w)
end Go.Proofs.YtcfmaeonginefaaGreatDoor.Module

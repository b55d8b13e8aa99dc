/- paths.made, Module, Import: what they answer. -/
import Derived.Test.YtcfmaeonginefaaPaths
import Derived.Lib.Strings
namespace Go.Proofs.Ytcfmaeonginefaa.Module
open Go Go.RowKit Go.Shelf Go.Proofs.Ytcfmaeonginefaa.Seq Go.Proofs.Ytcfmaeonginefaa.Cut Go.Proofs.Ytcfmaeonginefaa.Elems Go.Proofs.Ytcfmaeonginefaa.Collect Go.Proofs.Ytcfmaeonginefaa.Paths
attribute [local go_sem] Oper.semAt_some
set_option linter.unusedSimpArgs false
set_option linter.unusedVariables false

theorem Valid (s : ByteArray) (hs : s.size ≤ 1048576) (w : World) : Calls Try.prog 8 #[.string s] w fun e W' => e = .returned (.bool (validB s)) ∧ Below w.heap.size w W' := callsIn_wide.1 (valid_in s hs w)

/-- The letters, digits and signs of a module's path. -/
def low : ByteArray := ⟨#[97, 98, 99, 100, 101, 102, 103, 104, 105, 106, 107, 108, 109, 110, 111, 112, 113, 114, 115, 116, 117, 118, 119, 120, 121, 122, 48, 49, 50, 51, 52, 53, 54, 55, 56, 57, 45, 46, 95, 126, 47]⟩
def inB (set : ByteArray) (b : UInt8) : Bool := decide (0 ≤ ix set b)
def madeB (s more : ByteArray) : Bool := s.data.toList.all fun b => inB (low ++ more) b

theorem ret_bool {a b : Bool} (h : a = b) : Ending.returned (.bool a) = .returned (.bool b) := by rw [h]
theorem ret_num {k : IntKind} {a b : Int} (h : a = b) : Ending.returned (.int k a) = .returned (.int k b) := by rw [h]
theorem idxU (s : ByteArray) (b : UInt8) (w : World) : Calls Try.prog 20 #[.string s, .int .u8 b.toNat] w fun e w' => e = .returned (.int .i64 (ix s b)) ∧ w = w' :=
  (idxB s b.toNat w).mono fun e w' h => by
    have e1 : ((b.toNat : Int)).toNat.toUInt8 = b := by simp
    rw [e1] at h; exact h

set_option maxRecDepth 100000 in
set_option maxHeartbeats 1000000 in
theorem made (s more : ByteArray) (hs : s.size ≤ 1048576) (hm : more.size ≤ 1000) (w : World) : Calls Try.prog 18 #[.string s, .string more] w fun e w' => e = .returned (.bool (madeB s more)) ∧ w = w' := by
  go_enter Try.func18, Try.ntmps18
  go_wp2
  go_loop [8] (fun i => ∃ k : Nat, k ≤ s.size ∧ i = .int .i64 k ∧ ((s.data.toList.take k).all fun b => inB (low ++ more) b) = true) (fun i => s.size - (intOf i).toNat)
  case atStart => exact ⟨0, Nat.zero_le _, rfl, rfl⟩
  case round =>
    have hsz : s.data.toList.length = s.size := by rw [Array.length_toList]; rfl
    obtain ⟨k, hk, rfl, hall⟩ := hrel
    have HA := Lib.hid hall
    clear hall
    by_cases hlt : k < s.size
    · have hts : s.data.toList.take (k + 1) = s.data.toList.take k ++ [s[k]] := by
        rw [List.take_succ_eq_append_getElem (by omega)]; rfl
      have HT := Lib.hid hts
      clear hts
      by_cases hin : 0 ≤ ix (low ++ more) s[k]
      · go_wp2_with (go_at_call 20; refine (idxU (low ++ more) s[k] _).mono ?_; rintro e w' ⟨rfl, rfl⟩)
        go_round
        case rel => exact ⟨k + 1, by omega, by go_num, by rw [HT.out, List.all_append, HA.out]; simp [inB, hin]⟩
        case measure => simp [intOf]; omega
      · have hno : madeB s more = false := by
          unfold madeB
          rw [← Bool.not_eq_true, List.all_eq_true]
          intro h
          have := h s[k] (by
            have : s.data.toList[k]? = some s[k] := by rw [List.getElem?_eq_getElem (by omega)]; rfl
            exact List.mem_of_getElem? this)
          simp [inB, hin] at this
        have HN := Lib.hid hno
        clear hno
        go_wp2_with (go_at_call 20; refine (idxU (low ++ more) s[k] _).mono ?_; rintro e w' ⟨rfl, rfl⟩)
        go_ret
        exact ⟨ret_bool HN.out.symm, rfl⟩
    · obtain rfl : k = s.size := by omega
      go_wp2
      go_ret
      exact ⟨ret_bool (by unfold madeB; rw [← HA.out, List.take_of_length_le (by omega)]), rfl⟩

def dash (s : ByteArray) : Bool := if h : 0 < s.size then decide ((s[0].toNat : Int) = 45) else false
/-- No dot at the begin or at the end. -/
def okM (x : ByteArray) : Bool := !(Lib.hasPrefix x.data.toList [46] || Lib.hasSuffix x.data.toList [46])
def moduleB (s : ByteArray) : Bool := validB s && madeB s ⟨#[]⟩ && !dash s && decide (0 ≤ ix (cutB s 47).1 46) && (elemsB s).all okM
def errB (b : Bool) : Int := if b = true then 0 else 10

theorem prefixU (s : ByteArray) (w : World) : Calls Try.prog 21 #[.string s, .string ⟨#[46]⟩] w fun e w' => e = .returned (.bool (Lib.hasPrefix s.data.toList [46])) ∧ w = w' := (Try.strings_HasPrefix s ⟨#[46]⟩ w).mono fun _ _ h => ⟨h.1, h.2.symm⟩
theorem suffixU (s : ByteArray) (hs : s.size ≤ 1048576) (w : World) : Calls Try.prog 22 #[.string s, .string ⟨#[46]⟩] w fun e w' => e = .returned (.bool (Lib.hasSuffix s.data.toList [46])) ∧ w = w' := (Try.strings_HasSuffix s ⟨#[46]⟩ w (by omega)).mono fun _ _ h => ⟨h.1, h.2.symm⟩

theorem valid_size (s : ByteArray) (h : validB s = true) : s.size ≠ 0 := by
  intro e
  obtain ⟨⟨l⟩⟩ := s
  cases l with
  | nil =>
    have : (⟨#[]⟩ : ByteArray).toList.isEmpty = true := by decide +kernel
    unfold validB at h
    rw [this] at h
    simp at h
  | cons a t => exact absurd e (by simp [ByteArray.size])

theorem pw_drewN {B : Nat} {w W : World} (h : Below B w W) (n : Nat) : Below B w (W.drewN n) := ⟨h.os, h.tape, h.output, h.size, h.block⟩
def allM (pre : List ByteArray) : Prop := pre.all okM = true
def notM (pre : List ByteArray) : Prop := pre.all okM = false
theorem errB_no {b : Bool} (h : b = false) : errB b = 10 := by subst h; rfl
theorem errB_yes {b : Bool} (h : b = true) : errB b = 0 := by subst h; rfl

set_option maxRecDepth 100000 in
set_option maxHeartbeats 4000000 in
theorem module_in (s : ByteArray) (hs : s.size ≤ 1048576) (w : World) :
    CallsIn Fence.wide 9 Try.prog 10 #[.string s] w fun e W' => e = .returned (.int .i64 (errB (moduleB s))) ∧ Below w.heap.size w W' := by
  refine callsIn_of_wp_marks Try.func10 rfl trivial ?_ rfl
  simp only [Try.ntmps10, List.size_toArray, List.length_cons, List.length_nil, Nat.reduceAdd, Nat.reduceSub, Array.replicate_succ, Array.replicate_zero, List.push_toArray, List.append_toArray, List.nil_append, List.cons_append]
  have bR := Boxed.new w 26 (.int .i64 0)
  cases hv : validB s with
  | false =>
    have e : moduleB s = false := by simp only [moduleB, hv, Bool.false_and]
    have HV := Lib.hid hv
    clear hv
    rw [errB_no e]
    clear e
    gi_wp2_with (first
      | (refine ⟨trivial, ?_⟩; gi_at_call 8; refine (callsIn_wide.2 (Module.Valid s hs _)).mono ?_; rw [HV.out]; rintro e w1 ⟨rfl, hb1⟩; have bR1 : Boxed w1 w.heap.size 26 (.int .i64 0) := (hb1.block _ bR.lt).trans bR; have hc1 := bR1.cell; have hf1 := bR1.frozen; have hbw : Below w.heap.size w w1 := ((Below.refl _ w).alloc (Nat.le_refl _) _).trans (hb1.mono (by simp)))
      | (refine ⟨trivial, ?_⟩; gi_wp2))
    exact ⟨.int .i64 10, by have hc := (bR1.set (.int .i64 10)).cell; simp [results, Try.f10, go_sem, hc], rfl, (hbw.setCell (p := ⟨w.heap.size, 0, none⟩) (Nat.le_refl _) _)⟩
  | true =>
  have hpos : 0 < s.size := by have := valid_size s hv; omega
  have HV := Lib.hid hv
  cases hm : madeB s ⟨#[]⟩ with
  | false =>
    have e : moduleB s = false := by simp only [moduleB, hm, Bool.false_and, Bool.and_false]
    have HM := Lib.hid hm
    clear hv hm
    rw [errB_no e]
    clear e
    gi_wp2_with (first
      | (refine ⟨trivial, ?_⟩; gi_at_call 8; refine (callsIn_wide.2 (Module.Valid s hs _)).mono ?_; rw [HV.out]; rintro e w1 ⟨rfl, hb1⟩; have bR1 : Boxed w1 w.heap.size 26 (.int .i64 0) := (hb1.block _ bR.lt).trans bR; have hc1 := bR1.cell; have hf1 := bR1.frozen; have hbw : Below w.heap.size w w1 := ((Below.refl _ w).alloc (Nat.le_refl _) _).trans (hb1.mono (by simp)))
      | (refine ⟨trivial, ?_⟩; gi_at_call 18; refine (callsIn_wide.2 (made s ⟨#[]⟩ hs (by decide) _)).mono ?_; rw [HM.out]; rintro e w2 ⟨rfl, rfl⟩)
      | (refine ⟨trivial, ?_⟩; gi_wp2))
    exact ⟨.int .i64 10, by have hc := (bR1.set (.int .i64 10)).cell; simp [results, Try.f10, go_sem, hc], rfl, (hbw.setCell (p := ⟨w.heap.size, 0, none⟩) (Nat.le_refl _) _)⟩
  | true =>
  have HM := Lib.hid hm
  by_cases hd : (s[0].toNat : Int) = 45
  · have hd' : dash s = true := by unfold dash; rw [dif_pos hpos]; exact decide_eq_true hd
    have e : moduleB s = false := by simp only [moduleB, hd', Bool.not_true, Bool.false_and, Bool.and_false]
    have hdb : ((s[0].toNat : Int) == 45) = true := by simpa using hd
    clear hv hm hd hd'
    rw [errB_no e]
    clear e
    gi_wp2_with (first
      | (refine ⟨trivial, ?_⟩; gi_at_call 8; refine (callsIn_wide.2 (Module.Valid s hs _)).mono ?_; rw [HV.out]; rintro e w1 ⟨rfl, hb1⟩; have bR1 : Boxed w1 w.heap.size 26 (.int .i64 0) := (hb1.block _ bR.lt).trans bR; have hc1 := bR1.cell; have hf1 := bR1.frozen; have hbw : Below w.heap.size w w1 := ((Below.refl _ w).alloc (Nat.le_refl _) _).trans (hb1.mono (by simp)))
      | (refine ⟨trivial, ?_⟩; gi_at_call 18; refine (callsIn_wide.2 (made s ⟨#[]⟩ hs (by decide) _)).mono ?_; rw [HM.out]; rintro e w2 ⟨rfl, rfl⟩)
      | (refine ⟨trivial, ?_⟩; gi_wp2))
    exact ⟨.int .i64 10, by have hc := (bR1.set (.int .i64 10)).cell; simp [results, Try.f10, go_sem, hc], rfl, (hbw.setCell (p := ⟨w.heap.size, 0, none⟩) (Nat.le_refl _) _)⟩
  have hd' : dash s = false := by unfold dash; rw [dif_pos hpos]; exact decide_eq_false hd
  have hdb : ((s[0].toNat : Int) == 45) = false := by simpa using hd
  by_cases hi : 0 ≤ ix (cutB s 47).1 46
  · have e : moduleB s = (elemsB s).all okM := by simp only [moduleB, hv, hm, hd', decide_eq_true hi, Bool.not_false, Bool.and_self, Bool.true_and]
    rw [e]
    generalize hcb : cutB s 47 = cb at *
    obtain ⟨x1, x2, x3⟩ := cb
    have HC := Lib.hid hcb
    dsimp only at hi
    clear hv hm hd hd' hcb e
    gi_wp2_with (first
      | (refine ⟨trivial, ?_⟩; gi_at_call 8; refine (callsIn_wide.2 (Module.Valid s hs _)).mono ?_; rw [HV.out]; rintro e w1 ⟨rfl, hb1⟩; have bR1 : Boxed w1 w.heap.size 26 (.int .i64 0) := (hb1.block _ bR.lt).trans bR; have hc1 := bR1.cell; have hf1 := bR1.frozen; have hbw : Below w.heap.size w w1 := ((Below.refl _ w).alloc (Nat.le_refl _) _).trans (hb1.mono (by simp)))
      | (refine ⟨trivial, ?_⟩; gi_at_call 18; refine (callsIn_wide.2 (made s ⟨#[]⟩ hs (by decide) _)).mono ?_; rw [HM.out]; rintro e w2 ⟨rfl, rfl⟩)
      | (refine ⟨trivial, ?_⟩; gi_at_call 19; refine (callsIn_wide.2 (cut s 47 _ (by omega))).mono ?_; rw [HC.out]; rintro e w3 ⟨rfl, q, rfl⟩; replace bR1 := Seq.Boxed.drewN bR1 q; clear hc1 hf1; have hc1 := bR1.cell; have hf1 := bR1.frozen)
      | (refine ⟨trivial, ?_⟩; gi_at_call 20; refine (callsIn_wide.2 (idxU x1 46 _)).mono ?_; rintro e w2 ⟨rfl, rfl⟩)
      | (refine ⟨trivial, ?_⟩; gi_at_call 15; refine (elems s _).mono ?_; rintro e w' ⟨rfl, rfl⟩; clear hc1 hf1))
    have hdi : decide (ix x1 46 < 0) = false := decide_eq_false (by omega)
    rw [hdi]
    clear hdi
    have hsz1 : w.heap.size < w1.heap.size := by have := hb1.size; simp at this; omega
    have bE := Boxed.new (w1.drewN q) 9 (.string s)
    have hbw2 := pw_drewN hbw q
    have hsq : (w1.drewN q).heap.size = w1.heap.size := rfl
    rw [hsq] at bE
    have bA := bR1.alloc (.cells #[.string s] 9)
    have hbA : Below w.heap.size w ((w1.drewN q).alloc (.cells #[.string s] 9)) := hbw2.alloc (by rw [hsq]; omega) _
    have hsA : ((w1.drewN q).alloc (.cells #[.string s] 9)).heap.size = w1.heap.size + 1 := by simp [hsq]
    refine wpIn_rangeFunc_X (F := Fence.wide) rfl (by omega) (gf := 25) (lb := #[.pointer (some ⟨w1.heap.size, 0, none⟩)]) rfl trivial (enters_of Try.func25 (by kernel_rfl) rfl)
      (elems_seq s (by omega) w1.heap.size _ bE) (fun r e => by subst e; omega) keepsBox_t (keepsBox_b (by omega)) (fun _ => rfl)
      (RI allM w 26 (.int .i64 0)) (RX notM w 26 (.int .i64 10))
      (ri_abides (by omega) (by omega)) (rx_abides (by omega) (by omega))
      ⟨rfl, bA, hbA⟩
      (fun x => { tmps := #[.string s, undef, .pointer (some ⟨w.heap.size, 0, none⟩), .string x1, .string x2, .bool x3, .string x, .string s, .bool true, .bool false, .bool false, .string s, .bool true, .bool false, .bool false, .bool false, .string s, .int .u8 s[0].toNat, .bool false, .bool false, .tuple #[.string x1, .string x2, .bool x3], .string s, .tuple #[.string x1, .string x2, .bool x3], .string x1, .string x2, .bool x3, .string x1, .int .i64 (ix x1 46), .bool false, .string s, .func (.func 25) #[] #[.pointer (some ⟨w1.heap.size, 0, none⟩)], .string x, undef, undef, undef, undef, undef, undef], defers := [] }) ?assign ?body ?done ?stop
    case assign =>
      intro l x W K hK
      gi_wp2
      exact hK
    case body =>
      rintro l pre x post W hxs ⟨hok, hb, hB⟩
      have hxsz : x.size ≤ 1048576 := elemsB_size s hs x (by rw [hxs]; simp)
      clear hxs bR bE bA hbA hbw2 hbw hdb bR1 hb1 HV HM HC hi
      have hc := hb.cell
      have hf := hb.frozen
      have KF : okM x = false → ∀ n W', W' = W.setCell ⟨w.heap.size, 0, none⟩ (.int .i64 10) → KeepsFrom n W W' ∧ RX notM w 26 (.int .i64 10) .ret (pre ++ [x]) W' := by
        rintro hx n _ rfl
        exact ⟨(KeepsOthers.setCell _ _ _).from _, ⟨rfl, by simp [notM, hx]⟩, hb.set _, hB.setCell (p := ⟨w.heap.size, 0, none⟩) (Nat.le_refl _) _⟩
      have HK := Lib.hid KF
      clear KF
      cases h1 : Lib.hasPrefix x.data.toList [46] with
      | true =>
        have e : okM x = false := by simp only [okM, h1, Bool.true_or, Bool.not_true]
        have H1 := Lib.hid h1
        have HE := Lib.hid e
        clear h1 e
        gi_wp2_with (first
          | (refine ⟨trivial, ?_⟩; gi_at_call 21; refine (CallsIn.inRound l (callsIn_wide.2 (prefixU _ _))).mono ?_; rw [H1.out]; rintro e w2 ⟨rfl, rfl⟩)
          | (refine ⟨trivial, ?_⟩; gi_wp2))
        exact HK.out HE.out _ _ rfl
      | false =>
        have H1 := Lib.hid h1
        cases h2 : Lib.hasSuffix x.data.toList [46] with
        | true =>
          have e : okM x = false := by simp only [okM, h2, Bool.or_true, Bool.not_true]
          have H2 := Lib.hid h2
          have HE := Lib.hid e
          clear h1 h2 e
          gi_wp2_with (first
            | (refine ⟨trivial, ?_⟩; gi_at_call 21; refine (CallsIn.inRound l (callsIn_wide.2 (prefixU _ _))).mono ?_; rw [H1.out]; rintro e w2 ⟨rfl, rfl⟩)
            | (refine ⟨trivial, ?_⟩; gi_at_call 22; refine (CallsIn.inRound l (callsIn_wide.2 (suffixU x hxsz _))).mono ?_; rw [H2.out]; rintro e w2 ⟨rfl, rfl⟩))
          exact HK.out HE.out _ _ rfl
        | false =>
          have e : okM x = true := by simp only [okM, h1, h2, Bool.or_self, Bool.not_false]
          have H2 := Lib.hid h2
          have HE := Lib.hid e
          clear h1 h2 e
          gi_wp2_with (first
            | (refine ⟨trivial, ?_⟩; gi_at_call 21; refine (CallsIn.inRound l (callsIn_wide.2 (prefixU _ _))).mono ?_; rw [H1.out]; rintro e w2 ⟨rfl, rfl⟩)
            | (refine ⟨trivial, ?_⟩; gi_at_call 22; refine (CallsIn.inRound l (callsIn_wide.2 (suffixU x hxsz _))).mono ?_; rw [H2.out]; rintro e w2 ⟨rfl, rfl⟩))
          exact ⟨KeepsFrom.refl _ _, rfl, by unfold allM at *; rw [List.all_append, hok]; simp [HE.out], hb, hB⟩
    case done =>
      rintro D W hD ⟨hok, hb, hB⟩ hK
      have hc := hb.cell
      have hf := hb.frozen
      gi_wp2
      have hb2 := hb.set (.int .i64 0)
      have hK2 : (W.setCell ⟨w.heap.size, 0, none⟩ (.int .i64 0)).heap[D]? = some (.deferred (some [])) := (Below.heap_setCell _ _ _ D (gone hb hK).symm).trans hK
      have hc3 := (Seq.Boxed.putObj hb2 (.deferred none) (gone hb hK)).cell
      refine leaveM hK2 (v := .int .i64 0) (by simp [results, Try.f10, go_sem, hc3]) ⟨ret_num (errB_yes hok).symm, below_leave (hB.setCell (p := ⟨w.heap.size, 0, none⟩) (Nat.le_refl _) _) (by omega) hK2 _⟩
    case stop =>
      rintro D c pre x post W hD hxs ⟨⟨rfl, hno⟩, hb, hB⟩ hK
      gi_wp2
      have hc3 := (Seq.Boxed.putObj hb (.deferred none) (gone hb hK)).cell
      have e : (elemsB s).all okM = false := by
        rw [show elemsB s = (pre ++ [x]) ++ post by rw [hxs]; simp, List.all_append]
        unfold notM at hno; rw [hno]; rfl
      refine leaveM hK (v := .int .i64 10) (by simp [results, Try.f10, go_sem, hc3]) ⟨ret_num (errB_no e).symm, below_leave hB (by omega) hK _⟩
  · have e : moduleB s = false := by simp only [moduleB, decide_eq_false hi, Bool.false_and, Bool.and_false]
    generalize hcb : cutB s 47 = cb at *
    obtain ⟨x1, x2, x3⟩ := cb
    have HC := Lib.hid hcb
    dsimp only at hi
    clear hv hm hd hd' hcb
    rw [errB_no e]
    clear e
    gi_wp2_with (first
      | (refine ⟨trivial, ?_⟩; gi_at_call 8; refine (callsIn_wide.2 (Module.Valid s hs _)).mono ?_; rw [HV.out]; rintro e w1 ⟨rfl, hb1⟩; have bR1 : Boxed w1 w.heap.size 26 (.int .i64 0) := (hb1.block _ bR.lt).trans bR; have hc1 := bR1.cell; have hf1 := bR1.frozen; have hbw : Below w.heap.size w w1 := ((Below.refl _ w).alloc (Nat.le_refl _) _).trans (hb1.mono (by simp)))
      | (refine ⟨trivial, ?_⟩; gi_at_call 18; refine (callsIn_wide.2 (made s ⟨#[]⟩ hs (by decide) _)).mono ?_; rw [HM.out]; rintro e w2 ⟨rfl, rfl⟩)
      | (refine ⟨trivial, ?_⟩; gi_at_call 19; refine (callsIn_wide.2 (cut s 47 _ (by omega))).mono ?_; rw [HC.out]; rintro e w3 ⟨rfl, q, rfl⟩; replace bR1 := Seq.Boxed.drewN bR1 q; clear hc1 hf1; have hc1 := bR1.cell; have hf1 := bR1.frozen)
      | (refine ⟨trivial, ?_⟩; gi_at_call 20; refine (callsIn_wide.2 (idxU x1 46 _)).mono ?_; rintro e w2 ⟨rfl, rfl⟩)
      | (refine ⟨trivial, ?_⟩; gi_wp2))
    exact ⟨.int .i64 10, by have hc := (bR1.set (.int .i64 10)).cell; simp [results, Try.f10, go_sem, hc], rfl, ((pw_drewN hbw q).setCell (p := ⟨w.heap.size, 0, none⟩) (Nat.le_refl _) _)⟩
end Go.Proofs.Ytcfmaeonginefaa.Module

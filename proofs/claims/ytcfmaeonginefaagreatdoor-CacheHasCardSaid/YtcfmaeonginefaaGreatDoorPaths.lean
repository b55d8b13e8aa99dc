/- paths.fine, Valid, made, Module, Import: what they answer. -/
import Derived.Test.YtcfmaeonginefaaGreatDoorElems
import Derived.WalkLawsBesides
import Derived.Lib.ConvBytes
namespace Go.Proofs.YtcfmaeonginefaaGreatDoor.Paths
open Go Go.RowKit Go.Shelf Go.Proofs.YtcfmaeonginefaaGreatDoor.Seq Go.Proofs.YtcfmaeonginefaaGreatDoor.Cut Go.Proofs.YtcfmaeonginefaaGreatDoor.Elems
attribute [local go_sem] Oper.semAt_some
set_option linter.unusedSimpArgs false
set_option linter.unusedVariables false

/-- May a byte stand in a path? -/
def odd : ByteArray := ⟨#[34, 42, 58, 60, 62, 63, 92, 124, 96]⟩
def fineB (c : Int) : Bool := decide (32 < c) && decide (c < 127) && decide (ix odd c.toNat.toUInt8 < 0)
theorem idxB (s : ByteArray) (c : Int) (w : World) : Calls Tryz.prog 61 #[.string s, .int .u8 c] w fun e w' => e = .returned (.int .i64 (ix s c.toNat.toUInt8)) ∧ w = w' := (Tryz.strings_IndexByte s c w).mono fun _ _ h => ⟨h.1, h.2.symm⟩

set_option maxHeartbeats 1000000 in
theorem fine (c : Int) (w : World) : Calls Tryz.prog 92 #[.int .u8 c] w fun e w' => e = .returned (.bool (fineB c)) ∧ w = w' := by
  by_cases h1 : 32 < c
  · by_cases h2 : c < 127
    · go_enter Tryz.func92, Tryz.ntmps92
      go_wp2_with (go_at_call 61; refine (idxB odd _ _).mono ?_; rintro e w' ⟨rfl, rfl⟩)
      go_ret
      exact ⟨by simp [fineB, h1, h2], rfl⟩
    · have e : fineB c = false := by simp only [fineB, decide_eq_false h2, Bool.and_false, Bool.false_and]
      rw [e]
      go_enter Tryz.func92, Tryz.ntmps92
      go_wp2_with fail
      go_ret
      exact ⟨rfl, rfl⟩
  · have e : fineB c = false := by simp only [fineB, decide_eq_false h1, Bool.false_and]
    rw [e]
    go_enter Tryz.func92, Tryz.ntmps92
    go_wp2_with fail
    go_ret
    exact ⟨rfl, rfl⟩

/-- May an element stand in a path? -/
def bad0 (x : ByteArray) : Bool := x.toList.isEmpty || decide (30 < x.size) || (x.toList == [46]) || (x.toList == [46, 46])
def okE (x : ByteArray) : Bool := !bad0 x && x.data.toList.all fun b => fineB b.toNat

/-- Between two rounds: all elements so far are fine; the result's box. -/
def RI (p : List ByteArray → Prop) (w : World) (t : TypeId) (v : Value) (pre : List ByteArray) (W : World) : Prop := p pre ∧ Boxed W w.heap.size t v ∧ Below w.heap.size w W
/-- Where a round returns. -/
def RX (p : List ByteArray → Prop) (w : World) (t : TypeId) (v : Value) (c : Code) (pre : List ByteArray) (W : World) : Prop := (c = .ret ∧ p pre) ∧ Boxed W w.heap.size t v ∧ Below w.heap.size w W
theorem ri_abides {p : List ByteArray → Prop} {w : World} {t : TypeId} {v : Value} {B Bs : Nat} (h1 : w.heap.size < Bs) (h2 : w.heap.size < B) : AbidesX B (· = Bs) (RI p w t v) :=
  AbidesX.and (abidesX_pure _) (AbidesX.and (abidesX_box _ (by omega) h2) (abidesX_below (Nat.le_refl _) (by omega) (by omega)))
theorem rx_abides {p : List ByteArray → Prop} {w : World} {t : TypeId} {v : Value} {B Bs : Nat} (h1 : w.heap.size < Bs) (h2 : w.heap.size < B) (c : Code) : AbidesX B (· = Bs) (RX p w t v c) :=
  AbidesX.and (abidesX_pure _) (AbidesX.and (abidesX_box _ (by omega) h2) (abidesX_below (Nat.le_refl _) (by omega) (by omega)))

def allOk (pre : List ByteArray) : Prop := pre.all okE = true
def notOk (pre : List ByteArray) : Prop := pre.all okE = false
def validB (s : ByteArray) : Bool := !(s.toList.isEmpty || decide (60 < (s.size : Int))) && (elemsB s).all okE

set_option maxRecDepth 100000 in
set_option maxHeartbeats 4000000 in
theorem valid_in (s : ByteArray) (hs : s.size ≤ 1048576) (w : World) :
    CallsIn Fence.wide 9 Tryz.prog 58 #[.string s] w fun e W' => e = .returned (.bool (validB s)) ∧ Below w.heap.size w W' := by
  refine callsIn_of_wp_marks Tryz.func58 rfl trivial ?_ rfl
  simp only [Tryz.ntmps58, List.size_toArray, List.length_cons, List.length_nil, Nat.reduceAdd, Nat.reduceSub, Array.replicate_succ, Array.replicate_zero, List.push_toArray, List.append_toArray, List.nil_append, List.cons_append]
  by_cases h1 : s.toList.isEmpty = true
  · have e : validB s = false := by simp only [validB, h1, Bool.true_or, Bool.not_true, Bool.false_and]
    rw [e]
    gi_wp2_with fail
    exact ⟨.bool false, by simp [results, Tryz.f58, go_sem], rfl, (Below.refl _ w).alloc (Nat.le_refl _) _⟩
  have h1' : s.toList.isEmpty = false := by simpa using h1
  clear h1
  by_cases h2 : (60 : Int) < s.size
  · have e : validB s = false := by simp only [validB, decide_eq_true h2, Bool.or_true, Bool.not_true, Bool.false_and]
    rw [e]
    gi_wp2_with fail
    exact ⟨.bool false, by simp [results, Tryz.f58, go_sem], rfl, (Below.refl _ w).alloc (Nat.le_refl _) _⟩
  have e : validB s = (elemsB s).all okE := by simp only [validB, h1', decide_eq_false h2, Bool.or_self, Bool.not_false, Bool.true_and]
  rw [e]
  have h2' : (s.size : Int) ≤ 60 := by omega
  clear h2 e
  gi_wp2_with (refine ⟨trivial, ?_⟩; gi_at_call 62; refine (elems s _).mono ?_; rintro e w' ⟨rfl, rfl⟩)
  have bR := Boxed.new w 4 (.bool false)
  have bE := Boxed.new (w.alloc (.cells #[.bool false] 4)) 9 (.string s)
  rw [World.size_alloc] at bE
  have hB0 : Below w.heap.size w ((w.alloc (.cells #[.bool false] 4)).alloc (.cells #[.string s] 9)) := ((Below.refl _ w).alloc (Nat.le_refl _) _).alloc (by simp) _
  have hd : decide ((60 : Int) < s.size) = false := decide_eq_false (by omega)
  rw [hd]
  clear hd
  refine wpIn_rangeFunc_X (F := Fence.wide) rfl (by omega) (gf := 95) (lb := #[.pointer (some ⟨w.heap.size + 1, 0, none⟩)]) rfl trivial (enters_of Tryz.func95 (by kernel_rfl) rfl)
    (elems_seq s (by omega) (w.heap.size + 1) _ bE) (fun r e => by subst e; simp) keepsBox_t (keepsBox_b (by simp)) (fun _ => rfl)
    (RI allOk w 4 (.bool false)) (RX notOk w 4 (.bool false))
    (ri_abides (by omega) (by simp; omega)) (rx_abides (by omega) (by simp; omega))
    ⟨rfl, bR.alloc _, hB0⟩
    (fun x => { tmps := #[.string s, undef, .pointer (some ⟨w.heap.size, 0, none⟩), .string x, undef, .string s, .bool false, .bool false, .string s, .int .i64 s.size, .bool false, .bool false, .string s, .func (.func 95) #[] #[.pointer (some ⟨w.heap.size + 1, 0, none⟩)], .string x, undef, undef, undef, undef, undef, undef, undef, undef, undef, undef, undef, undef, undef, undef, undef, undef, undef, undef, undef, undef, undef, undef, undef, undef, undef, undef], defers := [] }) ?assign ?body ?done ?stop
  case assign =>
    intro l x W K hK
    gi_wp2
    exact hK
  case body =>
    rintro l pre x post W hxs ⟨hok, hb, hB⟩
    clear hxs bR bE hB0 h1' h2'
    have hc := hb.cell
    have hf := hb.frozen
    have KF : okE x = false → ∀ n W', W' = W.setCell ⟨w.heap.size, 0, none⟩ (.bool false) → KeepsFrom n W W' ∧ RX notOk w 4 (.bool false) .ret (pre ++ [x]) W' := by
      rintro hx n _ rfl
      exact ⟨(KeepsOthers.setCell _ _ _).from _, ⟨rfl, by simp [notOk, hx]⟩, hb.set _, hB.setCell (p := ⟨w.heap.size, 0, none⟩) (Nat.le_refl _) _⟩
    by_cases a1 : x.toList.isEmpty = true
    · have hx : okE x = false := by simp only [okE, bad0, a1, Bool.true_or, Bool.not_true, Bool.false_and]
      gi_wp2
      exact KF hx _ _ rfl
    have b1 : x.toList.isEmpty = false := by simpa using a1
    clear a1
    by_cases a2 : (30 : Int) < x.size
    · have hx : okE x = false := by
        have : decide (30 < x.size) = true := decide_eq_true (by omega)
        simp only [okE, bad0, this, Bool.true_or, Bool.or_true, Bool.not_true, Bool.false_and]
      gi_wp2
      exact KF hx _ _ rfl
    have b2 : decide (30 < x.size) = false := decide_eq_false (by omega)
    by_cases a3 : (x.toList == [46]) = true
    · have hx : okE x = false := by simp only [okE, bad0, a3, Bool.true_or, Bool.or_true, Bool.not_true, Bool.false_and]
      gi_wp2
      exact KF hx _ _ rfl
    have b3 : (x.toList == [46]) = false := by simpa using a3
    clear a3
    by_cases a4 : (x.toList == [46, 46]) = true
    · have hx : okE x = false := by simp only [okE, bad0, a4, Bool.or_true, Bool.not_true, Bool.false_and]
      gi_wp2
      exact KF hx _ _ rfl
    have b4 : (x.toList == [46, 46]) = false := by simpa using a4
    clear a4
    have hx : okE x = x.data.toList.all fun b => fineB b.toNat := by simp only [okE, bad0, b1, b2, b3, b4, Bool.or_self, Bool.not_false, Bool.true_and]
    have hsz : x.data.toList.length = x.size := by rw [Array.length_toList]; rfl
    have hx2 : x.size ≤ 30 := by simpa using b2
    gi_wp2
    gi_loop [32] (fun i => ∃ k : Nat, k ≤ x.size ∧ i = .int .i64 k ∧ ((x.data.toList.take k).all fun b => fineB b.toNat) = true) (fun i => x.size - (intOf i).toNat)
    case atStart => exact ⟨0, Nat.zero_le _, rfl, rfl⟩
    case round =>
      obtain ⟨k, hk, rfl, hall⟩ := hrel
      have HA := Lib.hid hall
      clear hall
      by_cases hlt : k < x.size
      · have hts : x.data.toList.take (k + 1) = x.data.toList.take k ++ [x[k]] := by
          rw [List.take_succ_eq_append_getElem (by omega)]; rfl
        have HT := Lib.hid hts
        clear hts
        cases hfb : fineB x[k].toNat with
        | true =>
          have HF := Lib.hid hfb
          clear hfb
          gi_wp2_with (refine ⟨trivial, ?_⟩; gi_at_call 92; refine (CallsIn.inRound l (callsIn_wide.2 (fine _ _))).mono ?_; rw [HF.out]; rintro e w' ⟨rfl, rfl⟩)
          go_round
          case rel => exact ⟨k + 1, by omega, by go_num, by rw [HT.out, List.all_append, HA.out]; simp only [List.all_cons, List.all_nil, HF.out, Bool.and_true]⟩
          case measure => simp [intOf]; omega
        | false =>
          have hx' : okE x = false := by
            rw [hx, ← Bool.not_eq_true, List.all_eq_true]
            intro h
            have := h x[k] (by
              have : x.data.toList[k]? = some x[k] := by rw [List.getElem?_eq_getElem (by omega)]; rfl
              exact List.mem_of_getElem? this)
            rw [hfb] at this; cases this
          have HF := Lib.hid hfb
          clear hfb
          gi_wp2_with (refine ⟨trivial, ?_⟩; gi_at_call 92; refine (CallsIn.inRound l (callsIn_wide.2 (fine _ _))).mono ?_; rw [HF.out]; rintro e w' ⟨rfl, rfl⟩)
          exact KF hx' _ _ rfl
      · obtain rfl : k = x.size := by omega
        have hx' : okE x = true := by
          rw [hx, ← HA.out, List.take_of_length_le (by omega)]
        gi_wp2
        exact ⟨KeepsFrom.refl _ _, rfl, by unfold allOk at *; rw [List.all_append, hok]; simp [hx'], hb, hB⟩
  case done =>
    rintro D W hD ⟨hok, hb, hB⟩ hK
    have hc := hb.cell
    have hf := hb.frozen
    gi_wp2
    have hb2 := hb.set (.bool true)
    have hK2 : (W.setCell ⟨w.heap.size, 0, none⟩ (.bool true)).heap[D]? = some (.deferred (some [])) := (Below.heap_setCell _ _ _ D (gone hb hK).symm).trans hK
    have hc3 := (Seq.Boxed.putObj hb2 (.deferred none) (gone hb hK)).cell
    refine leaveM hK2 (v := .bool true) (by simp [results, Tryz.f58, go_sem, hc3]) ⟨?_, ?_⟩
    · unfold allOk at hok; rw [hok]
    · exact below_leave (hB.setCell (p := ⟨w.heap.size, 0, none⟩) (Nat.le_refl _) _) (by simp at hD; omega) hK2 _
  case stop =>
    rintro D c pre x post W hD hxs ⟨⟨rfl, hno⟩, hb, hB⟩ hK
    gi_wp2
    have hc3 := (Seq.Boxed.putObj hb (.deferred none) (gone hb hK)).cell
    refine leaveM hK (v := .bool false) (by simp [results, Tryz.f58, go_sem, hc3]) ⟨?_, below_leave hB (by simp at hD; omega) hK _⟩
    have e : (elemsB s).all okE = false := by
      rw [show elemsB s = (pre ++ [x]) ++ post by rw [hxs]; simp, List.all_append]
      unfold notOk at hno; rw [hno]; rfl
    rw [e]
end Go.Proofs.YtcfmaeonginefaaGreatDoor.Paths

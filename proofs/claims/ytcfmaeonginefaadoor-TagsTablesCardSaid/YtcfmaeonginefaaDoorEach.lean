/- (tags.set[string]).each at the function values that it is handed: is each text of the set as wished? -/
import Derived.Test.YtcfmaeonginefaaDoorOf
namespace Go.Proofs.YtcfmaeonginefaaDoor.Each
open Go Go.RowKit Go.WideMaps Go.Maps Go.Proofs.YtcfmaeonginefaaDoor.Made Go.Proofs.YtcfmaeonginefaaDoor.Base Go.Proofs.YtcfmaeonginefaaDoor.Sets Go.Proofs.YtcfmaeonginefaaDoor.Of
set_option linter.unusedSimpArgs false
set_option linter.unusedVariables false

theorem keyS_inv {key : Value} {k : Lit} (h : keyOf Tryd.prog 9 key = some k) : ∃ s : ByteArray, key = .string s ∧ k = kl s ∧ s.size ≤ maxLen := string_of_keyOf Tryd.underlying9 h
/-- The step of a range over a set. -/
theorem nextS {ops : Array Oper} {rest : List Oper} {o : Oper} {a : Act} {Q : Exit → Act → World → Prop} (w : World) (hg : o.guard = none) (it : Operand) (hop : o.op = Op.next it false) (xs : List ByteArray)
    (b r n : Nat) (D : DataW Unit) (hhas : ∀ s : ByteArray, Maps.has D (kl s) = inL s xs) (hat : ∀ s : ByteArray, D.atKey (kl s) (.lit (.bool false)) = .lit (.bool (inL s xs))) (left : Lit → Bool) (cnt : Nat)
    (hit : a.eval it = .pointer (some ⟨r, 0, none⟩)) (h : w.ranges Tryd.prog 9 (plainElem Tryd.prog 4) b r n D left cnt)
    (hDone : cnt = 0 → (∀ k, left k = false) → wpList Tryd.prog ops Q rest (a.put o.dst (.tuple #[.bool false])) w)
    (hMore : ∀ (x : ByteArray) (w' : World) (cnt' : Nat), x ∈ xs → w'.ranges Tryd.prog 9 (plainElem Tryd.prog 4) b r n D (fun z => left z && !z.sameKey (kl x)) cnt' → cnt' < cnt →
      w.grownBy w' (some r) → w'.heap.size = w.heap.size → (Instr.entry (.pointer (some ⟨r, 0, none⟩))).run Tryd.prog w' = .ok (.tuple #[.string x, .bool true]) w' → wpList Tryd.prog ops Q rest (a.put o.dst (.tuple #[.bool true, .string x, .bool true])) w') :
    wpList Tryd.prog ops Q (o :: rest) a w :=
  wpList_next_ranges w hg it hop 9 law _ Value.string Value.bool (fun key k h => by obtain ⟨s, h, _⟩ := keyS_inv h; exact ⟨s, h⟩) (fun v y h => by obtain ⟨c, h, _⟩ := plainB_inv h; exact ⟨c, h⟩) b r n D left cnt hit h hDone
    (fun x c k y w' cnt' hkey hlk hv hat2 hrg hlt hgr hsz hen => by
      obtain ⟨s, hs, rfl, hz⟩ := keyS_inv hkey
      cases hs
      obtain ⟨c', hc, rfl⟩ := plainB_inv hv
      cases hc
      have hin : inL x xs = true := by rw [← hhas x]; exact has_true_of_atKey hat2
      have hc := (hat2 (.lit (.bool false))).symm.trans (hat x)
      rw [hin] at hc
      simp only [DataW.lit.injEq, Lit.bool.injEq] at hc
      subst hc
      exact hMore x w' cnt' (inL_iff.1 hin) hrg hlt hgr hsz hen)
theorem ranges_below {w w' : World} {b r n : Nat} {D : DataW Unit} {left : Lit → Bool} {cnt : Nat} (h : w.ranges Tryd.prog 9 (plainElem Tryd.prog 4) b r n D left cnt) (hb : Below w.heap.size w w') :
    w'.ranges Tryd.prog 9 (plainElem Tryd.prog 4) b r n D left cnt := by
  obtain ⟨es, clock, since, seen, c0, h1, h2, h3, h4, h5, h6⟩ := h
  exact ⟨es, clock, since, seen, c0, (hb.block b (Array.getElem?_eq_some_iff.1 h1).1).trans h1, h2, h3, h4, (hb.block r (Array.getElem?_eq_some_iff.1 h5).1).trans h5, h6⟩
def allB (P : ByteArray → Bool) (xs : List ByteArray) : Bool := xs.all P

set_option maxRecDepth 100000 in
set_option maxHeartbeats 4000000 in
theorem each_tag (b n : Nat) (xs : List ByteArray) (P : ByteArray → Bool) (w : World) (hS : SetIs w b n xs)
    (hw : ∀ (W : World) (s : ByteArray), s ∈ xs → Below w.heap.size w W → Calls Tryd.prog 32 #[.string s] W fun e W' => e = .returned (.bool (P s)) ∧ Below W.heap.size W W') :
    Calls Tryd.prog 30 #[.map (some b), .func (.func 32) #[] #[]] w fun e w' => e = .returned (.bool (allB P xs)) ∧ Below w.heap.size w w' := by
  have HW := Lib.hid hw
  obtain ⟨D, hown, hD, hat0, hhas⟩ := hS
  have HH := Lib.hid hhas
  have HA := Lib.hid hat0
  clear hw hat0 hhas
  have hbl := hown.lt
  go_enter Tryd.func30, Tryd.ntmps30
  go_wp2_with (first
    | (at_range; refine wpList_range_own _ rfl _ 64 rfl 9 4 law mapT _ b n _ rfl hown ?_; intro w0 hrg0 hg0 hs0)
    | go_in)
  go_frame
  go_loopw [5] (fun _ wr => ∃ (left : Lit → Bool) (cnt : Nat), wr.ranges Tryd.prog 9 (plainElem Tryd.prog 4) b w.heap.size n D left cnt ∧ Below w.heap.size w wr ∧ w.heap.size < wr.heap.size ∧ Hid (∀ s : ByteArray, s ∈ xs → left (kl s) = false → P s = true)) (fun _ wr => wr.rangeLeft b w.heap.size)
  case atStart => exact ⟨_, _, hrg0, (Below.refl _ w).grown hg0 (Nat.le_refl _) (fun j hj => by cases hj), by omega, Lib.hid fun s hs hl => by rw [HH.out s, inL_iff.2 hs] at hl; cases hl⟩
  case round =>
    obtain ⟨left, cnt, hrg, hB, hsz, HP⟩ := hrel
    go_wp2_with (first
      | (at_next; refine nextS _ rfl _ rfl xs b w.heap.size n D HH.out HA.out _ _ rfl hrg ?_ ?_)
      | go_in)
    · intro _ hl0
      have HS := Lib.hid (show allB P xs = true from List.all_eq_true.2 fun x hx => HP.out x hx (hl0 _))
      go_wp2
      go_ret
      exact ⟨ret_bool HS.out.symm, hB⟩
    · intro x w1 cnt1 hx hrg1 hlt hg1 hs1 hen
      have hB1 : Below w.heap.size w w1 := hB.grown hg1 hB.size (fun j hj => by cases hj; exact Nat.le_refl _)
      have hsz1 : w.heap.size < w1.heap.size := by omega
      have HX := Lib.hid hx
      clear hx hg1
      have hcall := HW.out w1 x HX.out hB1
      cases hp : P x with
      | true =>
        have HPX := Lib.hid hp
        clear hp
        rw [HPX.out] at hcall
        go_wp2_with (first
          | (go_at_call 32; refine hcall.mono ?_; rintro e w4 ⟨rfl, hb4⟩)
          | go_in)
        go_roundw
        case rel =>
          refine ⟨_, cnt1, ranges_below hrg1 hb4, hB1.trans (hb4.mono (by omega)), by have := hb4.size; omega, Lib.hid fun s hs hl => ?_⟩
          by_cases e : s = x
          · subst e; exact HPX.out
          · rw [sameKey_ne (fun h => e (kl_inj h)), Bool.not_false, Bool.and_true] at hl
            exact HP.out s hs hl
        case measure => rw [(ranges_below hrg1 hb4).left_eq, hrg.left_eq]; exact hlt
      | false =>
        have HS := Lib.hid (show allB P xs = false from List.all_eq_false.2 ⟨x, HX.out, by rw [hp]; exact Bool.false_ne_true⟩)
        have HPX := Lib.hid hp
        clear hp
        rw [HPX.out] at hcall
        go_wp2_with (first
          | (go_at_call 32; refine hcall.mono ?_; rintro e w4 ⟨rfl, hb4⟩)
          | go_in)
        go_ret
        exact ⟨ret_bool HS.out.symm, hB1.trans (hb4.mono (by omega))⟩

set_option maxRecDepth 100000 in
set_option maxHeartbeats 4000000 in
theorem each_os (b n : Nat) (xs : List ByteArray) (P : ByteArray → Bool) (g : Addr) (w : World) (hS : SetIs w b n xs)
    (hw : ∀ (W : World) (s : ByteArray), s ∈ xs → Below w.heap.size w W → Calls Tryd.prog 37 #[.string s, .pointer (some g)] W fun e W' => e = .returned (.bool (P s)) ∧ Below W.heap.size W W') :
    Calls Tryd.prog 30 #[.map (some b), .func (.func 37) #[] #[.pointer (some g)]] w fun e w' => e = .returned (.bool (allB P xs)) ∧ Below w.heap.size w w' := by
  have HW := Lib.hid hw
  obtain ⟨D, hown, hD, hat0, hhas⟩ := hS
  have HH := Lib.hid hhas
  have HA := Lib.hid hat0
  clear hw hat0 hhas
  have hbl := hown.lt
  go_enter Tryd.func30, Tryd.ntmps30
  go_wp2_with (first
    | (at_range; refine wpList_range_own _ rfl _ 64 rfl 9 4 law mapT _ b n _ rfl hown ?_; intro w0 hrg0 hg0 hs0)
    | go_in)
  go_frame
  go_loopw [5] (fun _ wr => ∃ (left : Lit → Bool) (cnt : Nat), wr.ranges Tryd.prog 9 (plainElem Tryd.prog 4) b w.heap.size n D left cnt ∧ Below w.heap.size w wr ∧ w.heap.size < wr.heap.size ∧ Hid (∀ s : ByteArray, s ∈ xs → left (kl s) = false → P s = true)) (fun _ wr => wr.rangeLeft b w.heap.size)
  case atStart => exact ⟨_, _, hrg0, (Below.refl _ w).grown hg0 (Nat.le_refl _) (fun j hj => by cases hj), by omega, Lib.hid fun s hs hl => by rw [HH.out s, inL_iff.2 hs] at hl; cases hl⟩
  case round =>
    obtain ⟨left, cnt, hrg, hB, hsz, HP⟩ := hrel
    go_wp2_with (first
      | (at_next; refine nextS _ rfl _ rfl xs b w.heap.size n D HH.out HA.out _ _ rfl hrg ?_ ?_)
      | go_in)
    · intro _ hl0
      have HS := Lib.hid (show allB P xs = true from List.all_eq_true.2 fun x hx => HP.out x hx (hl0 _))
      go_wp2
      go_ret
      exact ⟨ret_bool HS.out.symm, hB⟩
    · intro x w1 cnt1 hx hrg1 hlt hg1 hs1 hen
      have hB1 : Below w.heap.size w w1 := hB.grown hg1 hB.size (fun j hj => by cases hj; exact Nat.le_refl _)
      have hsz1 : w.heap.size < w1.heap.size := by omega
      have HX := Lib.hid hx
      clear hx hg1
      have hcall := HW.out w1 x HX.out hB1
      cases hp : P x with
      | true =>
        have HPX := Lib.hid hp
        clear hp
        rw [HPX.out] at hcall
        go_wp2_with (first
          | (go_at_call 37; refine hcall.mono ?_; rintro e w4 ⟨rfl, hb4⟩)
          | go_in)
        go_roundw
        case rel =>
          refine ⟨_, cnt1, ranges_below hrg1 hb4, hB1.trans (hb4.mono (by omega)), by have := hb4.size; omega, Lib.hid fun s hs hl => ?_⟩
          by_cases e : s = x
          · subst e; exact HPX.out
          · rw [sameKey_ne (fun h => e (kl_inj h)), Bool.not_false, Bool.and_true] at hl
            exact HP.out s hs hl
        case measure => rw [(ranges_below hrg1 hb4).left_eq, hrg.left_eq]; exact hlt
      | false =>
        have HS := Lib.hid (show allB P xs = false from List.all_eq_false.2 ⟨x, HX.out, by rw [hp]; exact Bool.false_ne_true⟩)
        have HPX := Lib.hid hp
        clear hp
        rw [HPX.out] at hcall
        go_wp2_with (first
          | (go_at_call 37; refine hcall.mono ?_; rintro e w4 ⟨rfl, hb4⟩)
          | go_in)
        go_ret
        exact ⟨ret_bool HS.out.symm, hB1.trans (hb4.mono (by omega))⟩

set_option maxRecDepth 100000 in
set_option maxHeartbeats 4000000 in
theorem each_std (b n : Nat) (xs : List ByteArray) (P : ByteArray → Bool) (w : World) (hS : SetIs w b n xs)
    (hw : ∀ (W : World) (s : ByteArray), s ∈ xs → Below w.heap.size w W → Calls Tryd.prog 38 #[.string s] W fun e W' => e = .returned (.bool (P s)) ∧ Below W.heap.size W W') :
    Calls Tryd.prog 30 #[.map (some b), .func (.func 38) #[] #[]] w fun e w' => e = .returned (.bool (allB P xs)) ∧ Below w.heap.size w w' := by
  have HW := Lib.hid hw
  obtain ⟨D, hown, hD, hat0, hhas⟩ := hS
  have HH := Lib.hid hhas
  have HA := Lib.hid hat0
  clear hw hat0 hhas
  have hbl := hown.lt
  go_enter Tryd.func30, Tryd.ntmps30
  go_wp2_with (first
    | (at_range; refine wpList_range_own _ rfl _ 64 rfl 9 4 law mapT _ b n _ rfl hown ?_; intro w0 hrg0 hg0 hs0)
    | go_in)
  go_frame
  go_loopw [5] (fun _ wr => ∃ (left : Lit → Bool) (cnt : Nat), wr.ranges Tryd.prog 9 (plainElem Tryd.prog 4) b w.heap.size n D left cnt ∧ Below w.heap.size w wr ∧ w.heap.size < wr.heap.size ∧ Hid (∀ s : ByteArray, s ∈ xs → left (kl s) = false → P s = true)) (fun _ wr => wr.rangeLeft b w.heap.size)
  case atStart => exact ⟨_, _, hrg0, (Below.refl _ w).grown hg0 (Nat.le_refl _) (fun j hj => by cases hj), by omega, Lib.hid fun s hs hl => by rw [HH.out s, inL_iff.2 hs] at hl; cases hl⟩
  case round =>
    obtain ⟨left, cnt, hrg, hB, hsz, HP⟩ := hrel
    go_wp2_with (first
      | (at_next; refine nextS _ rfl _ rfl xs b w.heap.size n D HH.out HA.out _ _ rfl hrg ?_ ?_)
      | go_in)
    · intro _ hl0
      have HS := Lib.hid (show allB P xs = true from List.all_eq_true.2 fun x hx => HP.out x hx (hl0 _))
      go_wp2
      go_ret
      exact ⟨ret_bool HS.out.symm, hB⟩
    · intro x w1 cnt1 hx hrg1 hlt hg1 hs1 hen
      have hB1 : Below w.heap.size w w1 := hB.grown hg1 hB.size (fun j hj => by cases hj; exact Nat.le_refl _)
      have hsz1 : w.heap.size < w1.heap.size := by omega
      have HX := Lib.hid hx
      clear hx hg1
      have hcall := HW.out w1 x HX.out hB1
      cases hp : P x with
      | true =>
        have HPX := Lib.hid hp
        clear hp
        rw [HPX.out] at hcall
        go_wp2_with (first
          | (go_at_call 38; refine hcall.mono ?_; rintro e w4 ⟨rfl, hb4⟩)
          | go_in)
        go_roundw
        case rel =>
          refine ⟨_, cnt1, ranges_below hrg1 hb4, hB1.trans (hb4.mono (by omega)), by have := hb4.size; omega, Lib.hid fun s hs hl => ?_⟩
          by_cases e : s = x
          · subst e; exact HPX.out
          · rw [sameKey_ne (fun h => e (kl_inj h)), Bool.not_false, Bool.and_true] at hl
            exact HP.out s hs hl
        case measure => rw [(ranges_below hrg1 hb4).left_eq, hrg.left_eq]; exact hlt
      | false =>
        have HS := Lib.hid (show allB P xs = false from List.all_eq_false.2 ⟨x, HX.out, by rw [hp]; exact Bool.false_ne_true⟩)
        have HPX := Lib.hid hp
        clear hp
        rw [HPX.out] at hcall
        go_wp2_with (first
          | (go_at_call 38; refine hcall.mono ?_; rintro e w4 ⟨rfl, hb4⟩)
          | go_in)
        go_ret
        exact ⟨ret_bool HS.out.symm, hB1.trans (hb4.mono (by omega))⟩

set_option maxRecDepth 100000 in
set_option maxHeartbeats 4000000 in
theorem each_more (b n : Nat) (xs : List ByteArray) (P : ByteArray → Bool) (g : Addr) (w : World) (hS : SetIs w b n xs)
    (hw : ∀ (W : World) (s : ByteArray), s ∈ xs → Below w.heap.size w W → Calls Tryd.prog 31 #[.string s, .pointer (some g)] W fun e W' => e = .returned (.bool (P s)) ∧ Below W.heap.size W W') :
    Calls Tryd.prog 30 #[.map (some b), .func (.func 31) #[] #[.pointer (some g)]] w fun e w' => e = .returned (.bool (allB P xs)) ∧ Below w.heap.size w w' := by
  have HW := Lib.hid hw
  obtain ⟨D, hown, hD, hat0, hhas⟩ := hS
  have HH := Lib.hid hhas
  have HA := Lib.hid hat0
  clear hw hat0 hhas
  have hbl := hown.lt
  go_enter Tryd.func30, Tryd.ntmps30
  go_wp2_with (first
    | (at_range; refine wpList_range_own _ rfl _ 64 rfl 9 4 law mapT _ b n _ rfl hown ?_; intro w0 hrg0 hg0 hs0)
    | go_in)
  go_frame
  go_loopw [5] (fun _ wr => ∃ (left : Lit → Bool) (cnt : Nat), wr.ranges Tryd.prog 9 (plainElem Tryd.prog 4) b w.heap.size n D left cnt ∧ Below w.heap.size w wr ∧ w.heap.size < wr.heap.size ∧ Hid (∀ s : ByteArray, s ∈ xs → left (kl s) = false → P s = true)) (fun _ wr => wr.rangeLeft b w.heap.size)
  case atStart => exact ⟨_, _, hrg0, (Below.refl _ w).grown hg0 (Nat.le_refl _) (fun j hj => by cases hj), by omega, Lib.hid fun s hs hl => by rw [HH.out s, inL_iff.2 hs] at hl; cases hl⟩
  case round =>
    obtain ⟨left, cnt, hrg, hB, hsz, HP⟩ := hrel
    go_wp2_with (first
      | (at_next; refine nextS _ rfl _ rfl xs b w.heap.size n D HH.out HA.out _ _ rfl hrg ?_ ?_)
      | go_in)
    · intro _ hl0
      have HS := Lib.hid (show allB P xs = true from List.all_eq_true.2 fun x hx => HP.out x hx (hl0 _))
      go_wp2
      go_ret
      exact ⟨ret_bool HS.out.symm, hB⟩
    · intro x w1 cnt1 hx hrg1 hlt hg1 hs1 hen
      have hB1 : Below w.heap.size w w1 := hB.grown hg1 hB.size (fun j hj => by cases hj; exact Nat.le_refl _)
      have hsz1 : w.heap.size < w1.heap.size := by omega
      have HX := Lib.hid hx
      clear hx hg1
      have hcall := HW.out w1 x HX.out hB1
      cases hp : P x with
      | true =>
        have HPX := Lib.hid hp
        clear hp
        rw [HPX.out] at hcall
        go_wp2_with (first
          | (go_at_call 31; refine hcall.mono ?_; rintro e w4 ⟨rfl, hb4⟩)
          | go_in)
        go_roundw
        case rel =>
          refine ⟨_, cnt1, ranges_below hrg1 hb4, hB1.trans (hb4.mono (by omega)), by have := hb4.size; omega, Lib.hid fun s hs hl => ?_⟩
          by_cases e : s = x
          · subst e; exact HPX.out
          · rw [sameKey_ne (fun h => e (kl_inj h)), Bool.not_false, Bool.and_true] at hl
            exact HP.out s hs hl
        case measure => rw [(ranges_below hrg1 hb4).left_eq, hrg.left_eq]; exact hlt
      | false =>
        have HS := Lib.hid (show allB P xs = false from List.all_eq_false.2 ⟨x, HX.out, by rw [hp]; exact Bool.false_ne_true⟩)
        have HPX := Lib.hid hp
        clear hp
        rw [HPX.out] at hcall
        go_wp2_with (first
          | (go_at_call 31; refine hcall.mono ?_; rintro e w4 ⟨rfl, hb4⟩)
          | go_in)
        go_ret
        exact ⟨ret_bool HS.out.symm, hB1.trans (hb4.mono (by omega))⟩
end Go.Proofs.YtcfmaeonginefaaDoor.Each

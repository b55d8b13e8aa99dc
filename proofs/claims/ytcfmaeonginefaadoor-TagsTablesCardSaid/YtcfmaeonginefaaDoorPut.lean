/- graftbedref14.put: what it answers. -/
import Derived.Test.YtcfmaeonginefaaDoorAppend
import Derived.Test.YtcfmaeonginefaaDoorHas
namespace Go.Proofs.YtcfmaeonginefaaDoor.Put
open Go Go.RowKit Go.Maps Go.Proofs.YtcfmaeonginefaaDoor.Made Go.Proofs.YtcfmaeonginefaaDoor.Base Go.Proofs.YtcfmaeonginefaaDoor.Sets Go.Proofs.YtcfmaeonginefaaDoor.Of Go.Proofs.YtcfmaeonginefaaDoor.Has Go.Proofs.YtcfmaeonginefaaDoor.Append
set_option linter.unusedSimpArgs false
set_option linter.unusedVariables false

section
variable {ops : Array Oper} {rest : List Oper} {o : Oper} {a : Act} {Q : Exit → Act → World → Prop}
/-- A text is appended to an own row. -/
theorem append_one (w0 wr : World) (e : TypeId) (hg : o.guard = none) (s x : Operand) (hop : o.op = .call { callee := .builtin .append, args := #[s, x], argTypes := #[22, 22] })
    (B : Nat) (v : Value) (xs : List ByteArray) (y : ByteArray) (hs : a.eval s = v) (hown : OwnT wr B v xs) (N : Nat) (hx : a.eval x = .slice (some ⟨N, 0, none⟩) 1 1) (hN : wr.heap.size = N) (hB : B ≤ wr.heap.size) (hn : xs.length ≤ 900000)
    (hb : Below B w0 wr)
    (hK : ∀ A c w', OwnT w' B (.slice A (xs.length + 1) c) (xs ++ [y]) → Below B w0 w' → B ≤ w'.heap.size → wpList Tryd.prog ops Q rest (a.put o.dst (.slice A (xs.length + 1) c)) w') : wpList Tryd.prog ops Q (o :: rest) a (wr.alloc (.cells #[.string y] e)) := by
  subst hN
  have hba := (Below.refl wr.heap.size wr).alloc (Nat.le_refl _) (.cells #[.string y] e)
  have hsz : (wr.alloc (.cells #[.string y] e)).heap.size = wr.heap.size + 1 := by simp
  refine append_rq _ hg s x hop B v _ xs [y] hs (own_below hown hba) hx (rq_one wr y e) (by omega) (by simp; omega) fun A c w' h1 h2 => ?_
  have hl : (xs ++ [y]).length = xs.length + 1 := by simp
  have hh := own_grown (hb.alloc hB (.cells #[.string y] e)) (own_below hown hba) h2 (by omega)
  have hz := h2.size
  rw [hl] at h1 ⊢
  exact hK A c w' h1 hh (by omega)
end

def ltB (x y : ByteArray) : Bool := Op.bytesLess x.toList y.toList
/-- A text is put into a list ahead of the first greater one. -/
def insG (s : ByteArray) : List ByteArray → List ByteArray
  | [] => [s]
  | x :: r => if ltB s x = true then s :: x :: r else x :: insG s r
def putL (xs : List ByteArray) (s : ByteArray) : List ByteArray := if inL s xs = true then xs else insG s xs
theorem insG_length (s : ByteArray) : ∀ xs, (insG s xs).length = xs.length + 1
  | [] => rfl
  | x :: r => by
    unfold insG
    split
    · rfl
    · simp [insG_length s r]
theorem putL_length (xs : List ByteArray) (s : ByteArray) : (putL xs s).length ≤ xs.length + 1 := by
  unfold putL
  split
  · omega
  · rw [insG_length]; exact Nat.le_refl _
/-- What stands when k texts have been read. -/
def St (s : ByteArray) (xs : List ByteArray) (k : Nat) (d : Bool) (out : List ByteArray) : Prop := out ++ (if d = true then xs.drop k else insG s (xs.drop k)) = insG s xs
theorem st_start (s : ByteArray) (xs : List ByteArray) : St s xs 0 false [] := rfl
theorem st_len {s : ByteArray} {xs out : List ByteArray} {k : Nat} {d : Bool} (h : St s xs k d out) : out.length ≤ xs.length + 1 := by
  have := congrArg List.length h
  rw [insG_length, List.length_append] at this
  omega
theorem drop_at (xs : List ByteArray) (k : Nat) (h : k < xs.length) : xs.drop k = xs[k] :: xs.drop (k + 1) := List.drop_eq_getElem_cons h
theorem st_done {s : ByteArray} {xs out : List ByteArray} {k : Nat} (h : k < xs.length) (hs : St s xs k true out) : St s xs (k + 1) true (out ++ [xs[k]]) := by
  unfold St at *
  rw [← hs, if_pos rfl, if_pos rfl, drop_at xs k h]; simp
theorem st_put {s : ByteArray} {xs out : List ByteArray} {k : Nat} (h : k < xs.length) (hl : ltB s xs[k] = true) (hs : St s xs k false out) : St s xs (k + 1) true (out ++ [s] ++ [xs[k]]) := by
  unfold St at *
  rw [← hs, if_pos rfl, if_neg (by decide), drop_at xs k h]
  unfold insG
  rw [if_pos hl]; simp
theorem st_skip {s : ByteArray} {xs out : List ByteArray} {k : Nat} (h : k < xs.length) (hl : ltB s xs[k] = false) (hs : St s xs k false out) : St s xs (k + 1) false (out ++ [xs[k]]) := by
  unfold St at *
  rw [← hs, if_neg (by decide), if_neg (by decide), drop_at xs k h]
  conv => rhs; unfold insG
  rw [if_neg (by rw [hl]; decide)]; simp
theorem st_end_done {s : ByteArray} {xs out : List ByteArray} {k : Nat} (h : ¬ k < xs.length) (hs : St s xs k true out) : out = insG s xs := by
  unfold St at hs
  rw [if_pos rfl, List.drop_of_length_le (by omega), List.append_nil] at hs; exact hs
theorem st_end_put {s : ByteArray} {xs out : List ByteArray} {k : Nat} (h : ¬ k < xs.length) (hs : St s xs k false out) : out ++ [s] = insG s xs := by
  unfold St at hs
  rw [if_neg (by decide), List.drop_of_length_le (by omega)] at hs; exact hs

set_option maxRecDepth 100000 in
set_option maxHeartbeats 8000000 in
theorem put {v : Value} {xs : List ByteArray} (s : ByteArray) (w : World) (h : Rq w v xs) (hn : xs.length ≤ 10000) :
    Calls Tryd.prog 36 #[v, .string s] w fun e w' => ∃ v', e = .returned v' ∧ Rq w' v' (putL xs s) ∧ Below w.heap.size w w' := by
  have hq := h
  obtain ⟨A, c, rfl, hA, hc, hr⟩ := h
  cases hi : inL s xs with
  | true =>
    have HI := Lib.hid hi
    have HP := Lib.hid (show putL xs s = xs by unfold putL; rw [if_pos hi])
    clear hi
    go_enter Tryd.func36, Tryd.ntmps36
    go_wp2_with (go_at_call 28; refine (has14 s _ hq (by omega)).mono ?_; rw [HI.out]; rintro e w' ⟨rfl, rfl⟩)
    go_ret
    exact ⟨_, rfl, by rw [HP.out]; exact hq, Below.refl _ _⟩
  | false =>
    have HI := Lib.hid hi
    have HP := Lib.hid (show putL xs s = insG s xs by unfold putL; rw [if_neg (by rw [hi]; decide)])
    clear hi
    have HA := Lib.hid hr
    have HQ := Lib.hid hq
    clear hr hq
    obtain ⟨n, hnn⟩ : ∃ n, xs.length = n := ⟨_, rfl⟩
    rw [hnn] at hn hc ⊢
    have HN := Lib.hid hnn
    have hE0 := own_empty w w.heap.size (Nat.le_refl _)
    have hb0 := (Below.refl w.heap.size w).alloc (Nat.le_refl _) (.cells #[] 9)
    have hl0 : w.heap.size ≤ (w.alloc (.cells #[] 9)).heap.size := hb0.size
    clear hnn
    go_enter Tryd.func36, Tryd.ntmps36
    go_wp2_with (go_at_call 28; refine (has14 s _ (by rw [← HN.out]; exact HQ.out) (by rw [HN.out]; omega)).mono ?_; rw [HI.out]; rintro e w' ⟨rfl, rfl⟩)
    go_loopw [5, 6, 7] (fun v5 v6 iv wr => ∃ (k : Nat) (d : Bool) (out : List ByteArray), iv = .int .i64 k ∧ v6 = .bool d ∧ k ≤ n ∧ Hid (St s xs k d out) ∧ OwnT wr w.heap.size v5 out ∧ Below w.heap.size w wr ∧ w.heap.size ≤ wr.heap.size) (fun v5 v6 iv wr => n - (intOf iv).toNat)
    case atStart => exact ⟨0, false, [], rfl, rfl, Nat.zero_le _, Lib.hid (st_start s xs), hE0, hb0, hl0⟩
    case round =>
      clear hE0 hb0 hl0
      obtain ⟨k, d, out, rfl, rfl, hk, HS, hown, hB, hsz⟩ := hrel
      obtain ⟨A5, c5, rfl⟩ := own_shape hown
      have hol := st_len HS.out
      rw [HN.out] at hol
      by_cases hlt : k < n
      · have hl' : k < xs.length := by rw [HN.out]; exact hlt
        obtain ⟨g, o, hg, hc0⟩ := HA.out k hl'
        subst hg
        have hgl : g < w.heap.size := cell_lt hc0
        have hcell := (hB.cell (p := ⟨g, o + k, none⟩) (cell_lt hc0)).trans hc0
        cases d with
        | true =>
          have HT := Lib.hid (st_done hl' HS.out)
          obtain ⟨x, hxe⟩ : ∃ x, xs[k] = x := ⟨_, rfl⟩
          rw [hxe] at hcell HT
          clear hxe hc0 hl'
          go_wp2_with (first
            | (exfalso; rename_i hu _; simp [undef] at hu; done)
            | (at_builtin; refine append_one w _ _ rfl _ _ rfl w.heap.size (.slice A5 out.length c5) out x (by rfl) hown _ (by rfl) rfl hsz (by omega) hB ?_; intro A1 c1 w1 hE1 hb1 hl1))
          go_roundw
          case rel => exact ⟨k + 1, true, _, by go_num, rfl, by omega, HT, hE1, hb1, hl1⟩
          case measure => simp [intOf] <;> omega
        | false =>
          cases hlx : ltB s xs[k] with
          | true =>
            have HT := Lib.hid (st_put hl' hlx HS.out)
            obtain ⟨x, hxe⟩ : ∃ x, xs[k] = x := ⟨_, rfl⟩
            rw [hxe] at hcell HT hlx hc0
            unfold ltB at hlx
            clear hxe hl'
            go_wp2_with (first
              | (exfalso; rename_i hu _; simp [undef] at hu; done)
              | (at_builtin; refine append_one w _ _ rfl _ _ rfl w.heap.size (.slice A1 (out.length + 1) c1) (out ++ [s]) x (by rfl) hE1 _ (by rfl) rfl hl1 (by simp; omega) hb1 ?_; intro A2 c2 w2 hE2 hb2 hl2)
              | (at_builtin; refine append_one w _ _ rfl _ _ rfl w.heap.size (.slice A5 out.length c5) out s (by rfl) hown _ (by rfl) rfl hsz (by omega) hB ?_; intro A1 c1 w1 hE1 hb1 hl1; have hcell1 := (hb1.cell (p := ⟨g, o + k, none⟩) hgl).trans hc0))
            go_roundw
            case rel => exact ⟨k + 1, true, _, by go_num, rfl, by omega, HT, by simpa using hE2, hb2, hl2⟩
            case measure => simp [intOf] <;> omega
          | false =>
            have HT := Lib.hid (st_skip hl' hlx HS.out)
            obtain ⟨x, hxe⟩ : ∃ x, xs[k] = x := ⟨_, rfl⟩
            rw [hxe] at hcell HT hlx hc0
            unfold ltB at hlx
            clear hxe hl'
            go_wp2_with (first
              | (exfalso; rename_i hu _; simp [undef] at hu; done)
              | (at_builtin; refine append_one w _ _ rfl _ _ rfl w.heap.size (.slice A5 out.length c5) out x (by rfl) hown _ (by rfl) rfl hsz (by omega) hB ?_; intro A1 c1 w1 hE1 hb1 hl1))
            go_roundw
            case rel => exact ⟨k + 1, false, _, by go_num, rfl, by omega, HT, hE1, hb1, hl1⟩
            case measure => simp [intOf] <;> omega
      · cases d with
        | true =>
          have HT := Lib.hid (st_end_done (by rw [HN.out]; exact hlt) HS.out)
          go_wp2_with (first
            | (exfalso; rename_i hu _; simp [undef] at hu; done))
          go_ret
          exact ⟨_, rfl, by rw [HP.out, ← HT.out]; exact own_rq hown, hB⟩
        | false =>
          have HT := Lib.hid (st_end_put (by rw [HN.out]; exact hlt) HS.out)
          go_wp2_with (first
            | (exfalso; rename_i hu _; simp [undef] at hu; done)
            | (at_builtin; refine append_one w _ _ rfl _ _ rfl w.heap.size (.slice A5 out.length c5) out s (by rfl) hown _ (by rfl) rfl hsz (by omega) hB ?_; intro A1 c1 w1 hE1 hb1 hl1))
          go_ret
          exact ⟨_, rfl, by rw [HP.out, ← HT.out]; exact own_rq (by simpa using hE1), hb1⟩
end Go.Proofs.YtcfmaeonginefaaDoor.Put

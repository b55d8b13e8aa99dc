/- semver.idents and its iterator; digit, sign, every, nought: what they answer. -/
import Derived.Test.YtcfmaeonginefaaGreatDoorMade
namespace Go.Proofs.YtcfmaeonginefaaGreatDoor.Idents
open Go Go.RowKit Go.Shelf Go.Proofs.YtcfmaeonginefaaGreatDoor.Seq Go.Proofs.YtcfmaeonginefaaGreatDoor.Cut Go.Proofs.YtcfmaeonginefaaGreatDoor.Elems Go.Proofs.YtcfmaeonginefaaGreatDoor.Paths Go.Proofs.YtcfmaeonginefaaGreatDoor.Made
attribute [local go_sem] Oper.semAt_some
set_option linter.unusedSimpArgs false
set_option linter.unusedVariables false

set_option maxRecDepth 100000 in
set_option maxHeartbeats 1000000 in
theorem idents1 (l Bs : Nat) (s : ByteArray) (hs : s.size ≤ 9223372036854775807) (J Jx : List ByteArray → World → Prop)
    (hJ : ∀ s A B row, J s A → A.grownBy B row → (∀ r, row = some r → r = Bs) → J s B)
    (hY : ∀ pre x post W1, splB 46 s = pre ++ x :: post → J pre W1 → YieldAt Fence.wide 7 Tryz.prog l #[.string x] W1 fun e W' =>
      (e = .returned (.bool true) ∧ J (pre ++ [x]) W' ∧ KeepsBox Bs W1 W') ∨ (e = .returned (.bool false) ∧ Jx (pre ++ [x]) W'))
    (W : World) (hB : Boxed W Bs 9 (.string s)) (h0 : J [] W) :
    CallsIn Fence.wide 8 Tryz.prog 122 #[.func (.yield l) #[] #[], .pointer (some ⟨Bs, 0, none⟩)] W fun e W' => (∃ v, e = .returned v) ∧ (J (splB 46 s) W' ∨ ∃ pre x post, splB 46 s = pre ++ x :: post ∧ Jx (pre ++ [x]) W') := by
  refine callsIn_of_wp Tryz.func122 rfl trivial ?_ rfl
  simp only [Tryz.ntmps122, List.size_toArray, List.length_cons, List.length_nil, Nat.reduceAdd, Nat.reduceSub, Array.replicate_succ, Array.replicate_zero, List.push_toArray, List.append_toArray, List.nil_append, List.cons_append]
  have hc := hB.cell
  gi_wp2
  gi_loopw [3] (fun m wr => ∃ (pre : List ByteArray) (cur : ByteArray) (more : Bool), m = .bool more ∧ splB 46 s = pre ++ rest 46 more cur ∧ cur.size ≤ 9223372036854775807 ∧ Boxed wr Bs 9 (.string cur) ∧ J pre wr)
    (fun m wr => left Bs m wr)
  case atStart => exact ⟨[], s, true, rfl, rfl, hs, hB, h0⟩
  case round =>
    clear hB hc h0
    obtain ⟨pre, cur, more, rfl, hx, hcs, hb, hj⟩ := hrel
    have hc := hb.cell
    have hf := hb.frozen
    cases more with
    | false =>
      gi_wp2
      go_end0
      have hx' : splB 46 s = pre := by rw [hx]; simp [rest]
      exact ⟨⟨_, rfl⟩, .inl (by rw [hx']; exact hj)⟩
    | true =>
      have hx2 : splB 46 s = pre ++ (cutB cur 46).1 :: rest 46 (cutB cur 46).2.2 (cutB cur 46).2.1 := by
        rw [hx]; show pre ++ splB 46 cur = _; rw [splB_cut]; rfl
      have hx3 : splB 46 s = (pre ++ [(cutB cur 46).1]) ++ rest 46 (cutB cur 46).2.2 (cutB cur 46).2.1 := by rw [hx2]; simp
      have hz := cutB_size cur 46
      have hl : left Bs (.bool true) wr = cur.size + 1 := by unfold left; rw [hc]
      generalize hcb : cutB cur 46 = cb at *
      obtain ⟨x, cur2, more2⟩ := cb
      dsimp only at hx2 hx3 hz
      have HC := Lib.hid hcb
      have HX := Lib.hid hx
      have HX2 := Lib.hid hx2
      have HX3 := Lib.hid hx3
      have HL := Lib.hid hl
      clear hcb hx hx2 hx3 hl
      gi_wp2_with (refine ⟨trivial, ?_⟩; gi_at_call 60; refine (callsIn_wide.2 (cut cur 46 _ hcs)).mono ?_; rw [HC.out]; rintro e w' ⟨rfl, q, rfl⟩; clear hc hf; have hbq : Boxed (wr.drewN q) Bs 9 (.string cur) := hb; have hc := hbq.cell; have hf := hbq.frozen; obtain ⟨fn, tmps, assign, body, hy, hR⟩ := hY pre x _ ((wr.drewN q).setCell ⟨Bs, 0, none⟩ (.string cur2)) HX2.out (hJ _ _ _ (some Bs) (hJ _ _ _ none hj (grownBy_drewN _ _ _) (fun r e => by cases e)) (grownBy_setCell' _ _ _) (fun r e => by cases e; rfl)))
      refine hR.mono ?_
      clear hR hy hc hf
      have hb2 : Boxed ((wr.drewN q).setCell ⟨Bs, 0, none⟩ (.string cur2)) Bs 9 (.string cur2) := hbq.set _
      rintro e W3 (⟨rfl, hJ3, hk3⟩ | ⟨rfl, hJx3⟩)
      · have hb3 : Boxed W3 Bs 9 (.string cur2) := Eq.trans hk3 hb2
        gi_wp2
        go_roundw
        case rel => exact ⟨pre ++ [x], cur2, more2, rfl, HX3.out, by omega, hb3, hJ3⟩
        case measure =>
          show left Bs (.bool more2) W3 < left Bs (.bool true) wr
          rw [HL.out]
          unfold left
          rw [hb3.cell]
          cases more2
          · simp
          · have := hz.2 rfl; simp; omega
      · gi_wp2
        refine bodyPost_ret (results_none rfl _ _ _) rfl ?_
        exact ⟨⟨_, rfl⟩, .inr ⟨pre, x, _, HX2.out, hJx3⟩⟩

/-- semver.idents hands back an iterator over its box. -/
theorem idents (s : ByteArray) (w : World) :
    CallsIn Fence.wide 8 Tryz.prog 85 #[.string s] w fun e w' => e = .returned (.func (.func 122) #[] #[.pointer (some ⟨w.heap.size, 0, none⟩)]) ∧ w' = w.alloc (.cells #[.string s] 9) := by
  refine callsIn_of_wp Tryz.func85 rfl trivial ?_ rfl
  simp only [Tryz.ntmps85, List.size_toArray, List.length_cons, List.length_nil, Nat.reduceAdd, Nat.reduceSub, Array.replicate_succ, Array.replicate_zero, List.push_toArray, List.append_toArray, List.nil_append, List.cons_append]
  gi_wp2
  go_ret
  exact ⟨rfl, rfl⟩

theorem idents_seq (s : ByteArray) (hs : s.size ≤ 9223372036854775807) (Bs : Nat) (w : World) (hB : Boxed w Bs 9 (.string s)) :
    SeqX Fence.wide 8 Tryz.prog 122 #[.pointer (some ⟨Bs, 0, none⟩)] (fun x : ByteArray => #[.string x]) (· = Bs) (KeepsBox Bs) (splB 46 s) w :=
  fun l J Jx hJ _ hY W hW h0 => idents1 l Bs s hs J Jx hJ hY W (hB.kept hW (by simp)) h0

def digitB (b : UInt8) : Bool := decide ((48 : Int) ≤ b.toNat) && decide ((b.toNat : Int) ≤ 57)
theorem digit (b : UInt8) (w : World) : Calls Tryz.prog 123 #[.int .u8 b.toNat] w fun e w' => e = .returned (.bool (digitB b)) ∧ w = w' := by
  by_cases h1 : (48 : Int) ≤ b.toNat
  · by_cases h2 : (b.toNat : Int) ≤ 57
    · have e : digitB b = true := by simp [digitB, h1, h2]
      rw [e]
      go_enter Tryz.func123, Tryz.ntmps123
      go_wp2
      go_ret
      exact ⟨by simp [h2], rfl⟩
    · have e : digitB b = false := by simp [digitB, h2]
      rw [e]
      go_enter Tryz.func123, Tryz.ntmps123
      go_wp2
      go_ret
      exact ⟨by simp [h2], rfl⟩
  · have e : digitB b = false := by simp [digitB, h1]
    rw [e]
    go_enter Tryz.func123, Tryz.ntmps123
    go_wp2
    go_ret
    exact ⟨rfl, rfl⟩

def lowB (b : UInt8) : Bool := decide ((97 : Int) ≤ bits BinOp.or IntKind.u8 b.toNat 32) && decide (bits BinOp.or IntKind.u8 b.toNat 32 ≤ 122)
def signB (b : UInt8) : Bool := digitB b || lowB b || ((b.toNat : Int) == 45)

theorem all_split (p : UInt8 → Bool) (s : ByteArray) (k : Nat) (hlt : k < s.size) (HA : ((s.data.toList.take k).all p) = true) : ((s.data.toList.take (k + 1)).all p) = p s[k] := by
  have hts : s.data.toList.take (k + 1) = s.data.toList.take k ++ [s[k]] := by
    have : k < s.data.toList.length := by rw [Array.length_toList]; exact hlt
    rw [List.take_succ_eq_append_getElem this]; rfl
  rw [hts, List.all_append, HA]; simp
theorem all_no (p : UInt8 → Bool) (s : ByteArray) (k : Nat) (hlt : k < s.size) (h : p s[k] = false) : s.data.toList.all p = false := by
  rw [← Bool.not_eq_true, List.all_eq_true]
  intro H
  have := H s[k] (by
    have hl : k < s.data.toList.length := by rw [Array.length_toList]; exact hlt
    have : s.data.toList[k]? = some s[k] := by rw [List.getElem?_eq_getElem hl]; rfl
    exact List.mem_of_getElem? this)
  rw [h] at this; cases this
def everyB (p : UInt8 → Bool) (s : ByteArray) : Bool := s.data.toList.all p && !s.toList.isEmpty

set_option maxRecDepth 100000 in
set_option maxHeartbeats 1000000 in
theorem everyD (s : ByteArray) (hs : s.size ≤ 1048576) (w : World) : Calls Tryz.prog 87 #[.string s, .func (.func 123) #[] #[]] w fun e w' => e = .returned (.bool (everyB digitB s)) ∧ w = w' := by
  go_enter Tryz.func87, Tryz.ntmps87
  go_wp2
  go_loop [8] (fun i => ∃ k : Nat, k ≤ s.size ∧ i = .int .i64 k ∧ ((s.data.toList.take k).all digitB) = true) (fun i => s.size - (intOf i).toNat)
  case atStart => exact ⟨0, Nat.zero_le _, rfl, rfl⟩
  case round =>
    obtain ⟨k, hk, rfl, hall⟩ := hrel
    by_cases hlt : k < s.size
    · have HT := Lib.hid (all_split digitB s k hlt hall)
      clear hall
      cases hd : digitB s[k] with
      | true =>
        have HD := Lib.hid hd
        clear hd
        go_wp2_with (go_at_call 123; refine (digit s[k] _).mono ?_; rw [HD.out]; rintro e w' ⟨rfl, rfl⟩)
        go_round
        case rel => exact ⟨k + 1, by omega, by go_num, by rw [HT.out]; exact HD.out⟩
        case measure => simp [intOf]; omega
      | false =>
        have HN := Lib.hid (all_no digitB s k hlt hd)
        have HD := Lib.hid hd
        clear hd
        go_wp2_with (go_at_call 123; refine (digit s[k] _).mono ?_; rw [HD.out]; rintro e w' ⟨rfl, rfl⟩)
        go_ret
        exact ⟨ret_bool (by unfold everyB; rw [HN.out]; rfl), rfl⟩
    · obtain rfl : k = s.size := by omega
      rw [List.take_of_length_le (by rw [Array.length_toList]; exact Nat.le_refl _)] at hall
      have HA := Lib.hid hall
      clear hall
      go_wp2
      go_ret
      exact ⟨ret_bool (by unfold everyB; rw [HA.out]; rfl), rfl⟩
end Go.Proofs.YtcfmaeonginefaaGreatDoor.Idents

/- paths.elems and its iterator: the elements of a text, in order. -/
import Derived.Test.YtcfmaeonginefaaGreatDoorSeq
import Derived.Test.YtcfmaeonginefaaGreatDoorCut
import Derived.Shelf.Abstract
import Derived.Shelf.RegionOpen
import Derived.WalkKit
import Derived.OwnWalkIn
import Derived.TacticsInMore
import Derived.LoopNIn
import Derived.LoopIn
namespace Go.Proofs.YtcfmaeonginefaaGreatDoor.Elems
open Go Go.RowKit Go.Shelf Go.Proofs.YtcfmaeonginefaaGreatDoor.Seq Go.Proofs.YtcfmaeonginefaaGreatDoor.Cut
attribute [local go_sem] Oper.semAt_some

/-- What is still to come: the parts of what is left, if any. -/
def rest (c : UInt8) (more : Bool) (s : ByteArray) : List ByteArray := if more = true then splB c s else []
/-- The elements of a text. -/
def elemsB (s : ByteArray) : List ByteArray := rest 47 (!s.toList.isEmpty) s

/-- How much is left, read off the box. -/
def left (B : Nat) (m : Value) (W : World) : Nat :=
  match m, W.cell? ⟨B, 0, none⟩ with
  | .bool true, some (.string s) => s.size + 1
  | _, _ => 0

set_option maxRecDepth 100000 in
set_option maxHeartbeats 1000000 in
theorem elems1 (l Bs : Nat) (s : ByteArray) (hs : s.size ≤ 9223372036854775807) (J Jx : List ByteArray → World → Prop)
    (hJ : ∀ s A B row, J s A → A.grownBy B row → (∀ r, row = some r → r = Bs) → J s B)
    (hY : ∀ pre x post W1, elemsB s = pre ++ x :: post → J pre W1 → YieldAt Fence.wide 7 Tryz.prog l #[.string x] W1 fun e W' =>
      (e = .returned (.bool true) ∧ J (pre ++ [x]) W' ∧ KeepsBox Bs W1 W') ∨ (e = .returned (.bool false) ∧ Jx (pre ++ [x]) W'))
    (W : World) (hB : Boxed W Bs 9 (.string s)) (h0 : J [] W) :
    CallsIn Fence.wide 8 Tryz.prog 95 #[.func (.yield l) #[] #[], .pointer (some ⟨Bs, 0, none⟩)] W fun e W' => (∃ v, e = .returned v) ∧ (J (elemsB s) W' ∨ ∃ pre x post, elemsB s = pre ++ x :: post ∧ Jx (pre ++ [x]) W') := by
  refine callsIn_of_wp Tryz.func95 rfl trivial ?_ rfl
  simp only [Tryz.ntmps95, List.size_toArray, List.length_cons, List.length_nil, Nat.reduceAdd, Nat.reduceSub, Array.replicate_succ, Array.replicate_zero, List.push_toArray, List.append_toArray, List.nil_append, List.cons_append]
  have hc := hB.cell
  gi_wp2
  gi_loopw [3] (fun m wr => ∃ (pre : List ByteArray) (cur : ByteArray) (more : Bool), m = .bool more ∧ elemsB s = pre ++ rest 47 more cur ∧ cur.size ≤ 9223372036854775807 ∧ Boxed wr Bs 9 (.string cur) ∧ J pre wr)
    (fun m wr => left Bs m wr)
  case atStart => exact ⟨[], s, !s.toList.isEmpty, rfl, rfl, hs, hB, h0⟩
  case round =>
    clear hB hc h0
    obtain ⟨pre, cur, more, rfl, hx, hcs, hb, hj⟩ := hrel
    have hc := hb.cell
    have hf := hb.frozen
    cases more with
    | false =>
      gi_wp2
      go_end0
      have hx' : elemsB s = pre := by rw [hx]; simp [rest]
      exact ⟨⟨_, rfl⟩, .inl (by rw [hx']; exact hj)⟩
    | true =>
      have hx2 : elemsB s = pre ++ (cutB cur 47).1 :: rest 47 (cutB cur 47).2.2 (cutB cur 47).2.1 := by
        rw [hx]; show pre ++ splB 47 cur = _; rw [splB_cut]; rfl
      have hx3 : elemsB s = (pre ++ [(cutB cur 47).1]) ++ rest 47 (cutB cur 47).2.2 (cutB cur 47).2.1 := by rw [hx2]; simp
      have hz := cutB_size cur 47
      have hl : left Bs (.bool true) wr = cur.size + 1 := by unfold left; rw [hc]
      generalize hcb : cutB cur 47 = cb at *
      obtain ⟨x, cur2, more2⟩ := cb
      dsimp only at hx2 hx3 hz
      have HC := Lib.hid hcb
      have HX := Lib.hid hx
      have HX2 := Lib.hid hx2
      have HX3 := Lib.hid hx3
      have HL := Lib.hid hl
      clear hcb hx hx2 hx3 hl
      gi_wp2_with (refine ⟨trivial, ?_⟩; gi_at_call 60; refine (callsIn_wide.2 (cut cur 47 _ hcs)).mono ?_; rw [HC.out]; rintro e w' ⟨rfl, q, rfl⟩; clear hc hf; have hbq : Boxed (wr.drewN q) Bs 9 (.string cur) := hb; have hc := hbq.cell; have hf := hbq.frozen; obtain ⟨fn, tmps, assign, body, hy, hR⟩ := hY pre x _ ((wr.drewN q).setCell ⟨Bs, 0, none⟩ (.string cur2)) HX2.out (hJ _ _ _ (some Bs) (hJ _ _ _ none hj (grownBy_drewN _ _ _) (fun r e => by cases e)) (grownBy_setCell' _ _ _) (fun r e => by cases e; rfl)))
      refine hR.mono ?_
      clear hR hy hc hf
      have hb2 : Boxed ((wr.drewN q).setCell ⟨Bs, 0, none⟩ (.string cur2)) Bs 9 (.string cur2) := hbq.set _
      rintro e W3 (⟨rfl, hJ3, hk3⟩ | ⟨rfl, hJx3⟩)
      · have hb3 : Boxed W3 Bs 9 (.string cur2) := Eq.trans hk3 hb2
        gi_wp2
        go_roundw
        case rel => exact ⟨pre ++ [x], cur2, more2, rfl, HX3.out, by omega, hb3, hJ3⟩
        case measure =>
          show left Bs (.bool more2) W3 < left Bs (.bool true) wr
          rw [HL.out]
          unfold left
          rw [hb3.cell]
          cases more2
          · simp
          · have := hz.2 rfl; simp; omega
      · gi_wp2
        refine bodyPost_ret (results_none rfl _ _ _) rfl ?_
        exact ⟨⟨_, rfl⟩, .inr ⟨pre, x, _, HX2.out, hJx3⟩⟩

/-- paths.elems hands back an iterator over its box. -/
theorem elems (s : ByteArray) (w : World) :
    CallsIn Fence.wide 8 Tryz.prog 62 #[.string s] w fun e w' => e = .returned (.func (.func 95) #[] #[.pointer (some ⟨w.heap.size, 0, none⟩)]) ∧ w' = w.alloc (.cells #[.string s] 9) := by
  refine callsIn_of_wp Tryz.func62 rfl trivial ?_ rfl
  simp only [Tryz.ntmps62, List.size_toArray, List.length_cons, List.length_nil, Nat.reduceAdd, Nat.reduceSub, Array.replicate_succ, Array.replicate_zero, List.push_toArray, List.append_toArray, List.nil_append, List.cons_append]
  gi_wp2
  go_ret
  exact ⟨rfl, rfl⟩

theorem elems_seq (s : ByteArray) (hs : s.size ≤ 9223372036854775807) (Bs : Nat) (w : World) (hB : Boxed w Bs 9 (.string s)) :
    SeqX Fence.wide 8 Tryz.prog 95 #[.pointer (some ⟨Bs, 0, none⟩)] (fun x : ByteArray => #[.string x]) (· = Bs) (KeepsBox Bs) (elemsB s) w :=
  fun l J Jx hJ _ hY W hW h0 => elems1 l Bs s hs J Jx hJ hY W (hB.kept hW (by simp)) h0
theorem elemsB_length (s : ByteArray) : (elemsB s).length ≤ s.size + 1 := by
  unfold elemsB rest splB
  split
  · have := spl_length 47 s.data.toList
    simp at this ⊢
    exact this
  · simp
theorem elemsB_size (s : ByteArray) {n : Nat} (hs : s.size ≤ n) (x : ByteArray) (h : x ∈ elemsB s) : x.size ≤ n := by
  unfold elemsB rest splB at h
  split at h
  · obtain ⟨l, hl, rfl⟩ := List.mem_map.1 h
    have := spl_size 47 _ l hl
    have e : s.data.toList.length = s.size := by rw [Array.length_toList]; rfl
    have e2 : (mk l).size = l.length := by simp [mk, ByteArray.size]
    omega
  · simp at h

end Go.Proofs.YtcfmaeonginefaaGreatDoor.Elems

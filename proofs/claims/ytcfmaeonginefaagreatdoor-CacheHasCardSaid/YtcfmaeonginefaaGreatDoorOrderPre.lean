/- semver.orderPre: what it answers. -/
import Derived.Test.YtcfmaeonginefaaGreatDoorOrder
namespace Go.Proofs.YtcfmaeonginefaaGreatDoor.OrderPre
open Go Go.RowKit Go.Shelf Go.Proofs.YtcfmaeonginefaaGreatDoor.Seq Go.Proofs.YtcfmaeonginefaaGreatDoor.Cut Go.Proofs.YtcfmaeonginefaaGreatDoor.Elems Go.Proofs.YtcfmaeonginefaaGreatDoor.Paths Go.Proofs.YtcfmaeonginefaaGreatDoor.Made Go.Proofs.YtcfmaeonginefaaGreatDoor.Idents Go.Proofs.YtcfmaeonginefaaGreatDoor.Sign Go.Proofs.YtcfmaeonginefaaGreatDoor.Order
attribute [local go_sem] Oper.semAt_some
set_option linter.unusedSimpArgs false
set_option linter.unusedVariables false

/-- Two lists of identifiers. -/
def ordL : List ByteArray → List ByteArray → Int
  | [], _ => -1
  | _ :: _, [] => 1
  | x :: xs, y :: ys => if orderB x y = 0 then ordL xs ys else orderB x y
def orderPreB (a b : ByteArray) : Int := if (a.toList == b.toList) = true then 0 else if a.toList.isEmpty = true then 1 else if b.toList.isEmpty = true then -1 else ordL (splB 46 a) (splB 46 b)

def pI (w : World) (a b : ByteArray) (pre : List ByteArray) (W : World) : Prop :=
  ∃ cur more, (∀ post, splB 46 a = pre ++ post → ordL (splB 46 a) (splB 46 b) = ordL post (rest 46 more cur)) ∧ cur.size ≤ b.size ∧
    Boxed W w.heap.size 9 (.string cur) ∧ Boxed W (w.heap.size + 1) 3 (.int .i64 0) ∧ Boxed W (w.heap.size + 1 + 1) 4 (.bool more) ∧ Below w.heap.size w W ∧ w.heap.size + 1 + 1 + 1 < W.heap.size
def pX (w : World) (a b : ByteArray) (c : Code) (pre : List ByteArray) (W : World) : Prop :=
  c = .ret ∧ Boxed W (w.heap.size + 1) 3 (.int .i64 (ordL (splB 46 a) (splB 46 b))) ∧ Below w.heap.size w W
theorem keptX {W W' : World} {row : Option Nat} {B Bs Bv : Nat} {t : TypeId} {v : Value} (h : Boxed W Bv t v) (hg : W.grownBy W' row) (hr : ∀ r, row = some r → r = Bs ∨ (B ≤ r ∧ ∃ o : Obj, W.heap[r]? = some o ∧ o.isCells = false)) (hne : Bv ≠ Bs) (hlt : Bv < B) : Boxed W' Bv t v :=
  h.kept hg (fun e => by rcases hr Bv e.symm with h | ⟨h, _⟩ <;> omega)
theorem belowX {n₀ B Bs : Nat} {w W W' : World} {row : Option Nat} (h0 : n₀ ≤ w.heap.size) (hB : n₀ ≤ B) (hs : n₀ ≤ Bs) (h : Below n₀ w W) (hg : W.grownBy W' row) (hr : ∀ r, row = some r → r = Bs ∨ (B ≤ r ∧ ∃ o : Obj, W.heap[r]? = some o ∧ o.isCells = false)) : Below n₀ w W' :=
  h.grown hg (by have := h.size; omega) (fun k e => by rcases hr k e with rfl | ⟨hk, _⟩ <;> omega)
theorem below_keeps {W W' : World} (h : Below W.heap.size W W') (B : Nat) : KeepsFrom B W W' := ⟨h.size, fun k o _ hk _ => (h.block k (Array.getElem?_eq_some_iff.1 hk).1).trans hk⟩
theorem drewN_keeps (W : World) (q B : Nat) : KeepsFrom B W (W.drewN q) := ⟨Nat.le_refl _, fun _ _ _ h _ => h⟩
theorem splB_size (c : UInt8) (s : ByteArray) {n : Nat} (hs : s.size ≤ n) (x : ByteArray) (h : x ∈ splB c s) : x.size ≤ n := by
  unfold splB at h
  obtain ⟨l, hl, rfl⟩ := List.mem_map.1 h
  have := spl_size c _ l hl
  have e : s.data.toList.length = s.size := by rw [Array.length_toList]; rfl
  have e2 : (mk l).size = l.length := by simp [mk, ByteArray.size]
  omega
theorem later {W W' : World} {b : Nat} {t : TypeId} {v : Value} (h : Boxed W b t v) (k : Below W.heap.size W W') : Boxed W' b t v := (k.block b h.lt).trans h
theorem pI_abides {w : World} {a b : ByteArray} {B Bs : Nat} (h1 : w.heap.size + 1 + 1 < Bs) (h2 : w.heap.size + 1 + 1 < B) : AbidesX B (· = Bs) (pI w a b) :=
  fun s W W' row ⟨cur, more, hp, hc, b1, b2, b3, hb, hsz⟩ hg hr => ⟨cur, more, hp, hc, keptX b1 hg hr (by omega) (by omega), keptX b2 hg hr (by omega) (by omega), keptX b3 hg hr (by omega) (by omega), belowX (Nat.le_refl _) (by omega) (by omega) hb hg hr, Nat.lt_of_lt_of_le hsz hg.size⟩
theorem pX_abides {w : World} {a b : ByteArray} {B Bs : Nat} (h1 : w.heap.size + 1 + 1 < Bs) (h2 : w.heap.size + 1 + 1 < B) (c : Code) : AbidesX B (· = Bs) (pX w a b c) :=
  fun s W W' row ⟨hc, b2, hb⟩ hg hr => ⟨hc, keptX b2 hg hr (by omega) (by omega), belowX (Nat.le_refl _) (by omega) (by omega) hb hg hr⟩

set_option maxRecDepth 100000 in
set_option maxHeartbeats 4000000 in
theorem orderPre_in (a b : ByteArray) (ha : a.size ≤ 1048576) (hb0 : b.size ≤ 1048576) (w : World) :
    CallsIn Fence.wide 9 Tryz.prog 56 #[.string a, .string b] w fun e W' => e = .returned (.int .i64 (orderPreB a b)) ∧ Below w.heap.size w W' := by
  refine callsIn_of_wp_marks Tryz.func56 rfl trivial ?_ rfl
  simp only [Tryz.ntmps56, List.size_toArray, List.length_cons, List.length_nil, Nat.reduceAdd, Nat.reduceSub, Array.replicate_succ, Array.replicate_zero, List.push_toArray, List.append_toArray, List.nil_append, List.cons_append]
  cases h1 : a.toList == b.toList with
  | true =>
    have e : orderPreB a b = 0 := by unfold orderPreB; rw [if_pos h1]
    rw [e]
    clear e
    gi_wp2_with fail
    exact ⟨.int .i64 0, by simp [results, Tryz.f56, go_sem], rfl, (((Below.refl _ w).alloc (Nat.le_refl _) _).alloc (by simp) _)⟩
  | false =>
  cases h2 : a.toList.isEmpty with
  | true =>
    have e : orderPreB a b = 1 := by unfold orderPreB; rw [if_neg (by rw [h1]; exact Bool.false_ne_true), if_pos h2]
    rw [e]
    clear e
    gi_wp2_with fail
    exact ⟨.int .i64 1, by simp [results, Tryz.f56, go_sem], rfl, (((Below.refl _ w).alloc (Nat.le_refl _) _).alloc (by simp) _)⟩
  | false =>
  cases h3 : b.toList.isEmpty with
  | true =>
    have e : orderPreB a b = -1 := by unfold orderPreB; rw [if_neg (by rw [h1]; exact Bool.false_ne_true), if_neg (by rw [h2]; exact Bool.false_ne_true), if_pos h3]
    rw [e]
    clear e
    gi_wp2_with fail
    exact ⟨.int .i64 (-1), by simp [results, Tryz.f56, go_sem], rfl, (((Below.refl _ w).alloc (Nat.le_refl _) _).alloc (by simp) _)⟩
  | false =>
  have e : orderPreB a b = ordL (splB 46 a) (splB 46 b) := by unfold orderPreB; rw [if_neg (by rw [h1]; exact Bool.false_ne_true), if_neg (by rw [h2]; exact Bool.false_ne_true), if_neg (by rw [h3]; exact Bool.false_ne_true)]
  rw [e]
  clear e
  gi_wp2_with (refine ⟨trivial, ?_⟩; gi_at_call 85; refine (idents a _).mono ?_; rintro e w' ⟨rfl, rfl⟩)
  have b0 := ((((Boxed.new w 9 (.string b)).alloc (.cells #[.int .i64 0] 3)).alloc (.cells #[.bool true] 4)).alloc (.cells #[.string a] 9))
  have b1 := (((Boxed.new (w.alloc (.cells #[.string b] 9)) 3 (.int .i64 0)).alloc (.cells #[.bool true] 4)).alloc (.cells #[.string a] 9))
  have b2 := ((Boxed.new ((w.alloc (.cells #[.string b] 9)).alloc (.cells #[.int .i64 0] 3)) 4 (.bool true)).alloc (.cells #[.string a] 9))
  have bE := Boxed.new (((w.alloc (.cells #[.string b] 9)).alloc (.cells #[.int .i64 0] 3)).alloc (.cells #[.bool true] 4)) 9 (.string a)
  simp only [World.size_alloc] at b1 b2 bE
  have hB0 : Below w.heap.size w ((((w.alloc (.cells #[.string b] 9)).alloc (.cells #[.int .i64 0] 3)).alloc (.cells #[.bool true] 4)).alloc (.cells #[.string a] 9)) := (((((Below.refl _ w).alloc (Nat.le_refl _) _).alloc (by simp) _).alloc (by simp only [World.size_alloc]; omega) _).alloc (by simp only [World.size_alloc]; omega) _)
  refine wpIn_rangeFunc_X (F := Fence.wide) rfl (by omega) (gf := 122) (lb := #[.pointer (some ⟨w.heap.size + 1 + 1 + 1, 0, none⟩)]) rfl trivial (enters_of Tryz.func122 (by kernel_rfl) rfl)
    (idents_seq a (by omega) (w.heap.size + 1 + 1 + 1) _ bE) (fun r e => by subst e; simp) keepsBox_t (keepsBox_b (by simp)) (fun _ => rfl)
    (pI w a b) (pX w a b)
    (pI_abides (by omega) (by simp only [World.size_alloc]; omega)) (pX_abides (by omega) (by simp only [World.size_alloc]; omega))
    ⟨b, true, (fun post hp => by rw [hp]; rfl), Nat.le_refl _, b0, b1, b2, hB0, by simp only [World.size_alloc]; omega⟩
    (fun x => { tmps := #[.string a, .string b, undef, .pointer (some ⟨w.heap.size, 0, none⟩), .pointer (some ⟨w.heap.size + 1, 0, none⟩), .pointer (some ⟨w.heap.size + 1 + 1, 0, none⟩), .string x, undef, undef, .bool false, .string a, .string b, .bool false, .bool false, .string a, .bool false, .bool false, .string b, .bool false, .string a, .func (.func 122) #[] #[.pointer (some ⟨w.heap.size + 1 + 1 + 1, 0, none⟩)], .string x, undef, undef, undef, undef, undef, undef, undef, undef, undef, undef, undef, undef, undef, undef], defers := [] }) ?assign ?body ?done ?stop
  case assign =>
    intro l x W K hK
    gi_wp2
    exact hK
  case body =>
    rintro l pre x post W hxs ⟨cur, more, hp, hcs, c0, c1, c2, hB, hsz⟩
    have hxsz : x.size ≤ 1048576 := splB_size 46 a ha x (by rw [hxs]; simp)
    have hne0 : ∀ k, k ≤ w.heap.size + 1 + 1 → w.heap.size + 1 + 1 + 1 ≠ k := by omega
    clear b0 b1 b2 bE hB0 h1 h2 h3
    have hc0 := c0.cell
    have hf0 := c0.frozen
    have hc1 := c1.cell
    have hf1 := c1.frozen
    have hc2 := c2.cell
    have hf2 := c2.frozen
    have hord := hp _ hxs
    cases more with
    | false =>
      have hr : ordL (splB 46 a) (splB 46 b) = 1 := by rw [hord]; rfl
      have HR := Lib.hid hr
      clear hr hord hp hxs
      gi_wp2
      have c1' := c1.set (.int .i64 1)
      refine ⟨(KeepsOthers.setCell _ _ _).from _, rfl, by rw [HR.out]; exact c1', hB.setCell (p := ⟨w.heap.size + 1, 0, none⟩) (by simp) _⟩
    | true =>
      have hz := cutB_size cur 46
      have hz1 := cutB_size1 cur 46
      have hord2 : ordL (splB 46 a) (splB 46 b) = ordL (x :: post) ((cutB cur 46).1 :: rest 46 (cutB cur 46).2.2 (cutB cur 46).2.1) := by
        rw [hord]; show ordL _ (splB 46 cur) = _; rw [splB_cut]; rfl
      have hps : ∀ post', splB 46 a = (pre ++ [x]) ++ post' → post' = post := fun post' h => by
        rw [hxs, List.append_assoc] at h
        simpa using (List.append_cancel_left h).symm
      generalize hcb : cutB cur 46 = cb at *
      obtain ⟨y, cur2, more2⟩ := cb
      dsimp only at hord2 hz hz1
      have HC := Lib.hid hcb
      have HP := Lib.hid hps
      clear hcb hord hp hxs hps
      by_cases ho : orderB x y = 0
      · have hr : ordL (splB 46 a) (splB 46 b) = ordL post (rest 46 more2 cur2) := by rw [hord2]; show (if orderB x y = 0 then _ else _) = _; rw [if_pos ho]
        have HO := Lib.hid ho
        have HR := Lib.hid hr
        clear ho hr hord2
        gi_wp2_with (first
          | (refine ⟨trivial, ?_⟩; gi_at_call 60; refine (CallsIn.inRound l (callsIn_wide.2 (cut cur 46 _ (by omega)))).mono ?_; rw [HC.out]; rintro e w3 ⟨rfl, q, rfl⟩; clear hc0 hf0 hc1 hf1 hc2 hf2; have d0 := Seq.Boxed.drewN c0 q; have d1 := Seq.Boxed.drewN c1 q; have d2 := Seq.Boxed.drewN c2 q; have hc0 := d0.cell; have hf0 := d0.frozen; have hc1 := d1.cell; have hf1 := d1.frozen; have hc2 := d2.cell; have hf2 := d2.frozen)
          | (refine ⟨trivial, ?_⟩; gi_at_call 91; refine (CallsIn.inRound l (callsIn_wide.2 (order x y hxsz (by omega) _))).mono ?_; rw [HO.out]; rintro e w3 ⟨rfl, hb3⟩))
        have e0 := (d0.set (.string cur2)).other (B' := w.heap.size + 1 + 1) (by omega) (.bool more2)
        have e1 := (d1.other (B' := w.heap.size) (by omega) (.string cur2)).other (B' := w.heap.size + 1 + 1) (by omega) (.bool more2)
        have e2 := (d2.other (B' := w.heap.size) (by omega) (.string cur2)).set (.bool more2)
        have g1 := ((pw_drewN hB q).setCell (p := ⟨w.heap.size, 0, none⟩) (Nat.le_refl _) (.string cur2)).setCell (p := ⟨w.heap.size + 1 + 1, 0, none⟩) (by simp only []; omega) (.bool more2)
        have k1 : KeepsBox (w.heap.size + 1 + 1 + 1) W w3 := (hb3.block _ (by simp; omega)).trans ((Below.heap_setCell _ _ _ _ (by simp)).trans (Below.heap_setCell _ _ _ _ (by simp; omega)))
        refine ⟨((drewN_keeps W q _).trans (((KeepsOthers.setCell _ _ _).trans (KeepsOthers.setCell _ _ _)).from _)).trans (below_keeps hb3 _), k1, cur2, more2, ?_, by omega, later e0 hb3, later e1 hb3, later e2 hb3, ?_, ?_⟩
        · intro post' h; rw [HP.out post' h]; exact HR.out
        · exact g1.trans (hb3.mono g1.size)
        · have := hb3.size; simp at this; omega
      · have hr : ordL (splB 46 a) (splB 46 b) = orderB x y := by rw [hord2]; show (if orderB x y = 0 then _ else _) = _; rw [if_neg ho]
        have ho' : (orderB x y != 0) = true := by simpa using ho
        have HR := Lib.hid hr
        clear hr hord2
        gi_wp2_with (first
          | (refine ⟨trivial, ?_⟩; gi_at_call 60; refine (CallsIn.inRound l (callsIn_wide.2 (cut cur 46 _ (by omega)))).mono ?_; rw [HC.out]; rintro e w3 ⟨rfl, q, rfl⟩; clear hc0 hf0 hc1 hf1 hc2 hf2; have d0 := Seq.Boxed.drewN c0 q; have d1 := Seq.Boxed.drewN c1 q; have d2 := Seq.Boxed.drewN c2 q; have hc0 := d0.cell; have hf0 := d0.frozen; have hc1 := d1.cell; have hf1 := d1.frozen; have hc2 := d2.cell; have hf2 := d2.frozen)
          | (refine ⟨trivial, ?_⟩; gi_at_call 91; refine (CallsIn.inRound l (callsIn_wide.2 (order x y hxsz (by omega) _))).mono ?_; rintro e w3 ⟨rfl, hb3⟩; have e1 := later ((d1.other (B' := w.heap.size) (by omega) (.string cur2)).other (B' := w.heap.size + 1 + 1) (by omega) (.bool more2)) hb3; have he1 := e1.cell; have hfe1 := e1.frozen))
        have g1 := ((pw_drewN hB q).setCell (p := ⟨w.heap.size, 0, none⟩) (Nat.le_refl _) (.string cur2)).setCell (p := ⟨w.heap.size + 1 + 1, 0, none⟩) (by simp only []; omega) (.bool more2)
        refine ⟨(((drewN_keeps W q _).trans (((KeepsOthers.setCell _ _ _).trans (KeepsOthers.setCell _ _ _)).from _)).trans (below_keeps hb3 _)).trans ((KeepsOthers.setCell _ _ _).from _), rfl, by rw [HR.out]; exact e1.set _, (g1.trans (hb3.mono g1.size)).setCell (p := ⟨w.heap.size + 1, 0, none⟩) (by simp) _⟩
  case done =>
    rintro D W hD ⟨cur, more, hp, hcs, c0, c1, c2, hB, hsz⟩ hK
    have hc := c1.cell
    have hf := c1.frozen
    have hr : ordL (splB 46 a) (splB 46 b) = -1 := by rw [hp [] (by simp)]; rfl
    have HR := Lib.hid hr
    clear hr hp h1 h2 h3 b0 b1 b2 bE hB0
    gi_wp2
    have hb2 := c1.set (.int .i64 (-1))
    have hK2 : (W.setCell ⟨w.heap.size + 1, 0, none⟩ (.int .i64 (-1))).heap[D]? = some (.deferred (some [])) := (Below.heap_setCell _ _ _ D (gone c1 hK).symm).trans hK
    have hc3 := (Seq.Boxed.putObj hb2 (.deferred none) (gone c1 hK)).cell
    refine leaveM hK2 (v := .int .i64 (-1)) (by simp [results, Tryz.f56, go_sem, hc3]) ⟨ret_num HR.out.symm, below_leave (hB.setCell (p := ⟨w.heap.size + 1, 0, none⟩) (by simp) _) (by simp only [World.size_alloc] at hD; omega) hK2 _⟩
  case stop =>
    rintro D c pre x post W hD hxs ⟨rfl, hb, hB⟩ hK
    gi_wp2
    have hc3 := (Seq.Boxed.putObj hb (.deferred none) (gone hb hK)).cell
    refine leaveM hK (v := .int .i64 (ordL (splB 46 a) (splB 46 b))) (by simp [results, Tryz.f56, go_sem, hc3]) ⟨rfl, below_leave hB (by simp only [World.size_alloc] at hD; omega) hK _⟩

theorem orderPre (a b : ByteArray) (ha : a.size ≤ 1048576) (hb : b.size ≤ 1048576) (w : World) : Calls Tryz.prog 56 #[.string a, .string b] w fun e W' => e = .returned (.int .i64 (orderPreB a b)) ∧ Below w.heap.size w W' := callsIn_wide.1 (orderPre_in a b ha hb w)
end Go.Proofs.YtcfmaeonginefaaGreatDoor.OrderPre

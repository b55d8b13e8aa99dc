/- semver.Parse: what it answers. -/
import Derived.Test.YtcfmaeonginefaaGreatDoorOrderPre
import Derived.Test.YtcfmaeonginefaaGreatDoorRegion
import Derived.Test.YtcfmaeonginefaaGreatDoorCollect
namespace Go.Proofs.YtcfmaeonginefaaGreatDoor.Parse
open Go Go.RowKit Go.Shelf Go.Proofs.YtcfmaeonginefaaGreatDoor.Seq Go.Proofs.YtcfmaeonginefaaGreatDoor.Cut Go.Proofs.YtcfmaeonginefaaGreatDoor.Elems Go.Proofs.YtcfmaeonginefaaGreatDoor.Paths Go.Proofs.YtcfmaeonginefaaGreatDoor.Made Go.Proofs.YtcfmaeonginefaaGreatDoor.Idents Go.Proofs.YtcfmaeonginefaaGreatDoor.Sign Go.Proofs.YtcfmaeonginefaaGreatDoor.Order Go.Proofs.YtcfmaeonginefaaGreatDoor.OrderPre
attribute [local go_sem] Oper.semAt_some
set_option linter.unusedSimpArgs false
set_option linter.unusedVariables false
set_option pp.maxSteps 200000
set_option pp.deepTerms true

def isV (s : ByteArray) : Bool := Lib.hasPrefix s.data.toList [118]
def trimV (s : ByteArray) : ByteArray := ⟨(Lib.trimPrefix s.data.toList [118]).toArray⟩
def metaC (s : ByteArray) : ByteArray × ByteArray × Bool := cutB (trimV s) 43
def preC (s : ByteArray) : ByteArray × ByteArray × Bool := cutB (metaC s).1 45
def numsC (s : ByteArray) : List ByteArray := splB 46 (preC s).1
def ok0 (s : ByteArray) : Bool := (Lib.countByte (preC s).1.data.toList 46 : Int) == 2
def gP (h : Bool) (e : ByteArray) : Bool := !h || (everyB signB e && !noughtB e)
def gM (h : Bool) (e : ByteArray) : Bool := !h || everyB signB e
def ok1 (s : ByteArray) : Bool := ok0 s && (numsC s).all numOk
def ok2 (s : ByteArray) : Bool := ok1 s && (splB 46 (preC s).2.1).all (gP (preC s).2.2)
def ok3 (s : ByteArray) : Bool := ok2 s && (splB 46 (metaC s).2.1).all (gM (metaC s).2.2)
/-- A version's parts and what is wrong with it. -/
def parseB (s : ByteArray) : Int × Int × Int × ByteArray × ByteArray × Int :=
  if (isV s && !decide ((60 : Int) < s.size) && ok3 s) = true then (((numsC s).map numV).getD 0 0, ((numsC s).map numV).getD 1 0, ((numsC s).map numV).getD 2 0, (preC s).2.1, (metaC s).2.1, 0) else (0, 0, 0, ⟨#[]⟩, ⟨#[]⟩, 30)

theorem parseB_eq {s r1 me r2 pr : ByteArray} {hm hp o0 : Bool} (h1 : metaC s = (r1, me, hm)) (h2 : preC s = (r2, pr, hp)) (h0 : ((Lib.countByte r2.data.toList 46 : Int) == 2) = o0) (h3 : isV s = true) (h4 : (s.size : Int) ≤ 60) :
    parseB s = if (((o0 && (splB 46 r2).all numOk) && (splB 46 pr).all (gP hp)) && (splB 46 me).all (gM hm)) = true then ((((splB 46 r2)).map numV).getD 0 0, ((splB 46 r2).map numV).getD 1 0, ((splB 46 r2).map numV).getD 2 0, pr, me, 0) else (0, 0, 0, ⟨#[]⟩, ⟨#[]⟩, 30) := by
  have h5 : decide ((60 : Int) < s.size) = false := decide_eq_false (by omega)
  unfold parseB ok3 ok2 ok1 ok0 numsC
  rw [h1, h2, h3, h5, h0]
  rfl
theorem trimV_size (s : ByteArray) : (trimV s).size ≤ s.size := by
  have e : s.data.toList.length = s.size := by rw [Array.length_toList]; rfl
  show (Lib.trimPrefix s.data.toList [118]).toArray.size ≤ s.size
  unfold Lib.trimPrefix
  split <;> simp <;> omega
theorem newAt (X : World) (o : Obj) (k : Nat) (h : X.heap.size = k) : (X.alloc o).heap[k]? = some o := by subst h; exact World.alloc_heap_new X o
theorem cutPrefix (s : ByteArray) (w : World) : Calls Tryz.prog 65 #[.string s, .string ⟨#[118]⟩] w fun e w' => e = .returned (.tuple #[.string (trimV s), .bool (isV s)]) ∧ w = w' := (Tryz.strings_CutPrefix s ⟨#[118]⟩ w).mono fun _ _ h => ⟨h.1, h.2.symm⟩
theorem countDot (s : ByteArray) (w : World) : Calls Tryz.prog 84 #[.string s, .string ⟨#[46]⟩] w fun e w' => e = .returned (.int .i64 (Lib.countByte s.data.toList 46)) ∧ w = w' := (Tryz.strings_Count_one s 46 w).mono fun _ _ h => ⟨h.1, h.2.symm⟩

/-- A version as a value, and its error. -/
def verV (r : Int × Int × Int × ByteArray × ByteArray × Int) : Value := .tuple #[.agg #[.int .i64 r.1, .int .i64 r.2.1, .int .i64 r.2.2.1, .string r.2.2.2.1, .string r.2.2.2.2.1], .int .i64 r.2.2.2.2.2]

/-- Blocks of W0, but for some, lie as they lay. -/
def Fr (p : Nat → Prop) (W0 W : World) : Prop := ∀ k, k < W0.heap.size → ¬ p k → W.heap[k]? = W0.heap[k]?
theorem Fr.refl (p : Nat → Prop) (W : World) : Fr p W W := fun _ _ _ => rfl
theorem Fr.step {p : Nat → Prop} {W0 W W' : World} (h : Fr p W0 W) (hs : W0.heap.size ≤ W.heap.size) (k : Below W.heap.size W W') : Fr p W0 W' := fun j hj hp => (k.block j (by omega)).trans (h j hj hp)
theorem Fr.set {p : Nat → Prop} {W0 W : World} (h : Fr p W0 W) {b : Nat} (hb : p b) (v : Value) : Fr p W0 (W.setCell ⟨b, 0, none⟩ v) := fun j hj hp => (Below.heap_setCell _ _ _ _ (by rintro rfl; exact hp hb)).trans (h j hj hp)
theorem frX {p : Nat → Prop} {W0 W W' : World} {row : Option Nat} {B Bs : Nat} (h : Fr p W0 W) (h1 : W0.heap.size ≤ Bs) (h2 : W0.heap.size ≤ B) (hW : W0.heap.size ≤ W.heap.size) (hg : W.grownBy W' row) (hr : ∀ r, row = some r → r = Bs ∨ (B ≤ r ∧ ∃ o : Obj, W.heap[r]? = some o ∧ o.isCells = false)) : Fr p W0 W' :=
  fun k hk hp => (hg.block k (by omega) (fun e => by rcases hr k e.symm with h | ⟨h, _⟩ <;> omega)).trans (h k hk hp)
theorem rowX {W W' : World} {row : Option Nat} {B Bs base e sz k : Nat} {v : Value} {xs : List Value} (h : W.ownsRow base e sz v k xs) (hb : Bs < base) (hg : W.grownBy W' row) (hr : ∀ r, row = some r → r = Bs ∨ (B ≤ r ∧ ∃ o : Obj, W.heap[r]? = some o ∧ o.isCells = false)) : W'.ownsRow base e sz v k xs := by
  refine h.kept hg ?_
  rcases h.2 with ⟨rfl, _⟩ | ⟨g, cap, cur, rfl, hgb0, hgb, _⟩
  · exact .inl rfl
  · refine .inr fun e' => ?_
    rcases hr g (by simpa [Value.ownBlock] using e'.symm) with h | ⟨_, o, ho, hc⟩
    · omega
    · rw [hgb] at ho; cases ho; cases hc
theorem rowBelow {W W' : World} {base e sz k : Nat} {v : Value} {xs : List Value} (h : W.ownsRow base e sz v k xs) (hb : Below W.heap.size W W') : W'.ownsRow base e sz v k xs := by
  rcases h with ⟨hl, h⟩
  refine ⟨hl, ?_⟩
  rcases h with h | ⟨g, cap, cur, rfl, hgb0, hgb, r⟩
  · exact .inl h
  · exact .inr ⟨g, cap, cur, rfl, hgb0, (hb.block g (Array.getElem?_eq_some_iff.1 hgb).1).trans hgb, r⟩

theorem infoI : (Tryz.prog.info? 3).map (fun i => (i.zero, i.size, i.bytes)) = some (some (.int .i64 0), 1, 8) := by kernel_rfl

theorem rowFr {p : Nat → Prop} {W W' : World} {base e sz k : Nat} {v : Value} {xs : List Value} (h : W.ownsRow base e sz v k xs) (hf : Fr p W W') (hp : ∀ g, base ≤ g → ¬ p g) : W'.ownsRow base e sz v k xs := by
  rcases h with ⟨hl, h⟩
  refine ⟨hl, ?_⟩
  rcases h with h | ⟨g, cap, cur, rfl, hgb0, hgb, r⟩
  · exact .inl h
  · exact .inr ⟨g, cap, cur, rfl, hgb0, (hf g (Array.getElem?_eq_some_iff.1 hgb).1 (hp g hgb0)).trans hgb, r⟩

def numI (x : ByteArray) : Value := .int .i64 (numV x)
/-- Between two rounds of the first loop. -/
def pI1 (w W0 : World) (o0 : Bool) (pre : List ByteArray) (W : World) : Prop :=
  Boxed W (w.heap.size + 1 + 1 + 1) 4 (.bool (o0 && pre.all numOk)) ∧
  (∃ v, Boxed W (w.heap.size + 1 + 1 + 1 + 1) 68 v ∧ W.ownsRow (w.heap.size + 1 + 1 + 1 + 1 + 1 + 1) 3 1 v pre.length (pre.map numI)) ∧
  Fr (fun k => k = w.heap.size + 1 + 1 + 1 ∨ k = w.heap.size + 1 + 1 + 1 + 1) W0 W ∧ Below w.heap.size w W ∧ w.heap.size + 1 + 1 + 1 + 1 + 1 < W.heap.size
theorem pI1_abides {w W0 : World} {o0 : Bool} {B Bs : Nat} (h0 : W0.heap.size = w.heap.size + 1 + 1 + 1 + 1 + 1) (h1 : Bs = w.heap.size + 1 + 1 + 1 + 1 + 1) (h2 : B = w.heap.size + 1 + 1 + 1 + 1 + 1 + 1) : AbidesX B (· = Bs) (pI1 w W0 o0) :=
  fun s W W' row ⟨b1, ⟨v, b2, hrow⟩, hf, hb, hsz⟩ hg hr => ⟨keptX b1 hg hr (by omega) (by omega), ⟨v, keptX b2 hg hr (by omega) (by omega), rowX hrow (by omega) hg hr⟩,
    frX hf (by omega) (by omega) (by omega) hg hr, belowX (Nat.le_refl _) (by omega) (by omega) hb hg hr, Nat.lt_of_lt_of_le hsz hg.size⟩

/-- Between two rounds of the second and the third loop. -/
def pI2 (w Wb : World) (okb : Bool) (g : ByteArray → Bool) (pre : List ByteArray) (W : World) : Prop :=
  Boxed W (w.heap.size + 1 + 1 + 1) 4 (.bool (okb && pre.all g)) ∧ Fr (fun k => k = w.heap.size + 1 + 1 + 1) Wb W ∧ Below w.heap.size w W ∧ Wb.heap.size < W.heap.size
theorem pI2_abides {w Wb : World} {okb : Bool} {g : ByteArray → Bool} {B Bs : Nat} (h0 : w.heap.size + 1 + 1 + 1 < Wb.heap.size) (h1 : Bs = Wb.heap.size) (h2 : B = Wb.heap.size + 1) : AbidesX B (· = Bs) (pI2 w Wb okb g) :=
  fun s W W' row ⟨b1, hf, hb, hsz⟩ hg hr => ⟨keptX b1 hg hr (by omega) (by omega), frX hf (by omega) (by omega) (by omega) hg hr, belowX (Nat.le_refl _) (by omega) (by omega) hb hg hr, Nat.lt_of_lt_of_le hsz hg.size⟩
theorem pI2_set {w Wb W : World} {okb : Bool} {g : ByteArray → Bool} {pre : List ByteArray} {x : ByteArray} {b : Bool} (h0 : w.heap.size + 1 + 1 + 1 < Wb.heap.size) (h : pI2 w Wb okb g pre W) (e : (okb && pre.all g && g x) = b) (n : Nat) :
    KeepsFrom n W (W.setCell ⟨w.heap.size + 1 + 1 + 1, 0, none⟩ (.bool b)) ∧ KeepsBox Wb.heap.size W (W.setCell ⟨w.heap.size + 1 + 1 + 1, 0, none⟩ (.bool b)) ∧ pI2 w Wb okb g (pre ++ [x]) (W.setCell ⟨w.heap.size + 1 + 1 + 1, 0, none⟩ (.bool b)) := by
  obtain ⟨b1, hf, hb, hsz⟩ := h
  refine ⟨(KeepsOthers.setCell _ _ _).from n, Below.heap_setCell _ _ _ _ (by simp only []; omega), ?_, hf.set rfl _, hb.setCell (p := ⟨w.heap.size + 1 + 1 + 1, 0, none⟩) (by simp only []; omega) _, by simpa using hsz⟩
  have e2 : (okb && (pre ++ [x]).all g) = b := by rw [List.all_append, ← Bool.and_assoc, ← e]; simp
  rw [e2]; exact b1.set _
theorem set5 {V : World} {b : Nat} {t : TypeId} {x0 x1 x2 x3 x4 : Value} (h : V.heap[b]? = some (.cells #[x0, x1, x2, x3, x4] t)) (a0 a1 a2 a3 a4 : Value) :
    (((((V.setCell ⟨b, 0, none⟩ a0).setCell ⟨b, 1, none⟩ a1).setCell ⟨b, 2, none⟩ a2).setCell ⟨b, 3, none⟩ a3).setCell ⟨b, 4, none⟩ a4).heap[b]? = some (.cells #[a0, a1, a2, a3, a4] t) := by
  simp [World.setCell, Array.getElem?_modify, h]
theorem set5_other {V : World} {b k : Nat} (hk : k ≠ b) (a0 a1 a2 a3 a4 : Value) :
    (((((V.setCell ⟨b, 0, none⟩ a0).setCell ⟨b, 1, none⟩ a1).setCell ⟨b, 2, none⟩ a2).setCell ⟨b, 3, none⟩ a3).setCell ⟨b, 4, none⟩ a4).heap[k]? = V.heap[k]? :=
  (Below.heap_setCell _ _ _ k hk).trans ((Below.heap_setCell _ _ _ k hk).trans ((Below.heap_setCell _ _ _ k hk).trans ((Below.heap_setCell _ _ _ k hk).trans (Below.heap_setCell _ _ _ k hk))))
theorem set5_below {n₀ : Nat} {w V : World} {b : Nat} (h : Below n₀ w V) (hb : n₀ ≤ b) (a0 a1 a2 a3 a4 : Value) :
    Below n₀ w (((((V.setCell ⟨b, 0, none⟩ a0).setCell ⟨b, 1, none⟩ a1).setCell ⟨b, 2, none⟩ a2).setCell ⟨b, 3, none⟩ a3).setCell ⟨b, 4, none⟩ a4) :=
  ((((h.setCell (p := ⟨b, 0, none⟩) hb a0).setCell (p := ⟨b, 1, none⟩) hb a1).setCell (p := ⟨b, 2, none⟩) hb a2).setCell (p := ⟨b, 3, none⟩) hb a3).setCell (p := ⟨b, 4, none⟩) hb a4
theorem spl_count (c : UInt8) : ∀ l, (spl c l).length = Lib.countByte l c + 1
  | [] => rfl
  | b :: t => by
    have ih := spl_count c t
    by_cases e : b = c
    · subst e; simp [spl, ih, Lib.countByte]
    · rw [spl_cons b t c e]
      cases hs : spl c t with
      | nil => exact absurd hs (spl_ne c t)
      | cons h r => rw [hs] at ih; simp [Lib.countByte, e] at ih ⊢; exact ih
/-- The function's end, where three ranges over functions have been left. -/
theorem leave3 {F : Fence} {n : Nat} {P : Program} {fn : Func} {tmps : Array Value} {R : Ending → World → Prop} {D1 D2 D3 : Nat} {W : World} {v : Value} (h12 : D1 ≠ D2) (h13 : D1 ≠ D3) (h23 : D2 ≠ D3) (hK1 : W.heap[D1]? = some (.deferred (some []))) (hK2 : W.heap[D2]? = some (.deferred (some []))) (hK3 : W.heap[D3]? = some (.deferred (some [])))
    (hr : (results fn tmps).run P (((W.putObj D3 (.deferred none)).putObj D2 (.deferred none)).putObj D1 (.deferred none)) = .ok v (((W.putObj D3 (.deferred none)).putObj D2 (.deferred none)).putObj D1 (.deferred none)))
    (hR : R (.returned v) (((W.putObj D3 (.deferred none)).putObj D2 (.deferred none)).putObj D1 (.deferred none))) :
    LeavesInM F n P fn tmps R [{ target := .collected D3, args := #[] }, { target := .collected D2, args := #[] }, { target := .collected D1, args := #[] }] .returning W :=
  ⟨by simp, .inl ⟨_, _, rfl, run_takeDeferred hK3, by simp, .inl ⟨_, _, rfl, run_takeDeferred ((World.putObj_heap_other h23).trans hK2), by simp, .inl ⟨_, _, rfl, run_takeDeferred ((World.putObj_heap_other h12).trans ((World.putObj_heap_other h13).trans hK1)), v, hr, hR⟩⟩⟩⟩

theorem leave_ver {F : Fence} {n n₀ b D1 D2 D3 : Nat} {w W : World} {tmps : Array Value} {s : ByteArray} {r : Int × Int × Int × ByteArray × ByteArray × Int} (h12 : D1 ≠ D2) (h13 : D1 ≠ D3) (h23 : D2 ≠ D3) (hb1 : b < D1) (hb2 : b < D2) (hb3 : b < D3) (hn : n₀ ≤ b)
    (hK1 : W.heap[D1]? = some (.deferred (some []))) (hK2 : W.heap[D2]? = some (.deferred (some []))) (hK3 : W.heap[D3]? = some (.deferred (some [])))
    (hG : W.heap[b]? = some (.cells #[.int .i64 r.1, .int .i64 r.2.1, .int .i64 r.2.2.1, .string r.2.2.2.1, .string r.2.2.2.2.1] 72)) (hbl : Below n₀ w W) (e : r = parseB s)
    (ht2 : tmps[2]?.getD undef = .pointer (some ⟨b, 0, none⟩)) (ht3 : tmps[3]?.getD undef = .int .i64 r.2.2.2.2.2) :
    LeavesInM F n Tryz.prog Tryz.f54 tmps (fun e W' => e = .returned (verV (parseB s)) ∧ Below n₀ w W') [{ target := .collected D3, args := #[] }, { target := .collected D2, args := #[] }, { target := .collected D1, args := #[] }] .returning W := by
  have hG' : (((W.putObj D3 (.deferred none)).putObj D2 (.deferred none)).putObj D1 (.deferred none)).heap[b]? = _ := (World.putObj_heap_other (by omega)).trans ((World.putObj_heap_other (by omega)).trans ((World.putObj_heap_other (by omega)).trans hG))
  have hl1 := (Array.getElem?_eq_some_iff.1 hK1).1
  have hl2 := (Array.getElem?_eq_some_iff.1 hK2).1
  have hl3 := (Array.getElem?_eq_some_iff.1 hK3).1
  have b3 := hbl.grown (grownBy_putObj' W D3 (.deferred none)) (by omega) (fun k e => by cases e; omega)
  have b2 := b3.grown (grownBy_putObj' _ D2 (.deferred none)) (by simp; omega) (fun k e => by cases e; omega)
  have b1 := b2.grown (grownBy_putObj' _ D1 (.deferred none)) (by simp; omega) (fun k e => by cases e; omega)
  refine leave3 h12 h13 h23 hK1 hK2 hK3 (v := verV r) ?_ ⟨by rw [e], b1⟩
  generalize ((W.putObj D3 (.deferred none)).putObj D2 (.deferred none)).putObj D1 (.deferred none) = V at *
  have s0 : V.cell? ⟨b, 0, none⟩ = some (.int .i64 r.1) := by simp [World.cell?, hG']
  have s1 : V.cell? ⟨b, 1, none⟩ = some (.int .i64 r.2.1) := by simp [World.cell?, hG']
  have s2 : V.cell? ⟨b, 2, none⟩ = some (.int .i64 r.2.2.1) := by simp [World.cell?, hG']
  have s3 : V.cell? ⟨b, 3, none⟩ = some (.string r.2.2.2.1) := by simp [World.cell?, hG']
  have s4 : V.cell? ⟨b, 4, none⟩ = some (.string r.2.2.2.2.1) := by simp [World.cell?, hG']
  simp [verV, results, Tryz.f54, go_sem, ht2, ht3, s0, s1, s2, s3, s4]

set_option maxRecDepth 100000 in
set_option maxHeartbeats 4000000 in
theorem parse_in (s : ByteArray) (hs : s.size ≤ 1048576) (w : World) :
    CallsIn Fence.wide 9 Tryz.prog 54 #[.string s] w fun e W' => e = .returned (verV (parseB s)) ∧ Below w.heap.size w W' := by
  refine callsIn_of_wp_marks Tryz.func54 rfl trivial ?_ rfl
  simp only [Tryz.ntmps54, List.size_toArray, List.length_cons, List.length_nil, Nat.reduceAdd, Nat.reduceSub, Array.replicate_succ, Array.replicate_zero, List.push_toArray, List.append_toArray, List.nil_append, List.cons_append]
  cases h1 : isV s with
  | false =>
    have e : parseB s = (0, 0, 0, ⟨#[]⟩, ⟨#[]⟩, 30) := by unfold parseB; rw [h1]; rfl
    have H1 := Lib.hid h1
    rw [e]
    clear e h1
    gi_wp2_with (refine ⟨trivial, ?_⟩; gi_at_call 65; refine (callsIn_wide.2 (cutPrefix s _)).mono ?_; rw [H1.out]; rintro e w' ⟨rfl, rfl⟩)
    exact ⟨verV (0, 0, 0, ⟨#[]⟩, ⟨#[]⟩, 30), by simp [verV, results, Tryz.f54, go_sem], rfl, (Below.refl _ w).alloc (Nat.le_refl _) _⟩
  | true =>
  have H1 := Lib.hid h1
  by_cases h2 : (60 : Int) < s.size
  · have e : parseB s = (0, 0, 0, ⟨#[]⟩, ⟨#[]⟩, 30) := by unfold parseB; rw [decide_eq_true h2]; simp
    rw [e]
    clear e h1
    gi_wp2_with (refine ⟨trivial, ?_⟩; gi_at_call 65; refine (callsIn_wide.2 (cutPrefix s _)).mono ?_; rw [H1.out]; rintro e w' ⟨rfl, rfl⟩)
    exact ⟨verV (0, 0, 0, ⟨#[]⟩, ⟨#[]⟩, 30), by simp [verV, results, Tryz.f54, go_sem], rfl, (Below.refl _ w).alloc (Nat.le_refl _) _⟩
  have h2' : (s.size : Int) ≤ 60 := by omega
  have hts : (trimV s).size ≤ 60 := by have := trimV_size s; omega
  obtain ⟨mt, hmt⟩ : ∃ mt, metaC s = mt := ⟨_, rfl⟩
  obtain ⟨pt, hpt⟩ : ∃ pt, preC s = pt := ⟨_, rfl⟩
  have hmt1 := hmt
  have hpt1 := hpt
  unfold metaC at hmt1
  unfold preC at hpt1
  rw [hmt] at hpt1
  obtain ⟨r1, me, hm⟩ := mt
  obtain ⟨r2, pr, hp⟩ := pt
  have HM := Lib.hid hmt1
  have HP := Lib.hid hpt1
  have hsz1 := cutB_size1 (trimV s) 43
  have hsz2 := cutB_size (trimV s) 43
  rw [hmt1] at hsz1 hsz2
  have hsz3 := cutB_size1 r1 45
  have hsz4 := cutB_size r1 45
  dsimp only at hpt1 hsz1 hsz2 hsz3 hsz4
  rw [hpt1] at hsz3 hsz4
  dsimp only at hsz3 hsz4
  obtain ⟨o0, ho0⟩ : ∃ o0 : Bool, ((Lib.countByte r2.data.toList 46 : Int) == 2) = o0 := ⟨_, rfl⟩
  have HMT := Lib.hid hmt
  have HPT := Lib.hid hpt
  clear h1 hmt hmt1 hpt hpt1
  gi_wp2_with (refine ⟨trivial, ?_⟩; (first
    | (gi_at_call 65; refine (callsIn_wide.2 (cutPrefix s _)).mono ?_; rw [H1.out]; rintro e w' ⟨rfl, rfl⟩)
    | (gi_at_call 60; refine (callsIn_wide.2 (cut _ _ _ (by omega))).mono ?_; (first | rw [HM.out] | rw [HP.out]); rintro e w' ⟨rfl, q, rfl⟩)
    | (gi_at_call 84; refine (callsIn_wide.2 (countDot r2 _)).mono ?_; rintro e w' ⟨rfl, rfl⟩)
    | (gi_at_call 85; refine (idents r2 _).mono ?_; rintro e w' ⟨rfl, rfl⟩)))
  generalize hW0 : (((((((w.alloc _).drewN _).alloc _).drewN _).alloc _).alloc _).alloc _) = W0
  have hS0 : W0.heap.size = w.heap.size + 1 + 1 + 1 + 1 + 1 := by rw [← hW0]; simp
  have hB0 : Below w.heap.size w W0 := by
    rw [← hW0]
    exact ((((pw_drewN ((pw_drewN ((Below.refl _ w).alloc (Nat.le_refl _) _) _).alloc (by simp) _) _).alloc (by simp; omega) _).alloc (by simp; omega) _).alloc (by simp; omega) _)
  have z0 : W0.heap[w.heap.size]? = some (.cells #[.int .i64 0, .int .i64 0, .int .i64 0, .string ⟨#[]⟩, .string ⟨#[]⟩] 72) := by rw [← hW0]; exact (Below.heap_alloc _ _ _ (by simp <;> omega)).trans ((Below.heap_alloc _ _ _ (by simp <;> omega)).trans ((Below.heap_alloc _ _ _ (by simp <;> omega)).trans ((Below.heap_alloc _ _ _ (by simp <;> omega)).trans (newAt _ _ _ rfl))))
  have z1 : Boxed W0 (w.heap.size + 1) 4 (.bool hm) := by rw [← hW0]; exact (Below.heap_alloc _ _ _ (by simp <;> omega)).trans ((Below.heap_alloc _ _ _ (by simp <;> omega)).trans ((Below.heap_alloc _ _ _ (by simp <;> omega)).trans (newAt _ _ _ (by simp <;> omega))))
  have z2 : Boxed W0 (w.heap.size + 1 + 1) 4 (.bool hp) := by rw [← hW0]; exact (Below.heap_alloc _ _ _ (by simp <;> omega)).trans ((Below.heap_alloc _ _ _ (by simp <;> omega)).trans (newAt _ _ _ (by simp <;> omega)))
  have z3 : Boxed W0 (w.heap.size + 1 + 1 + 1) 4 (.bool o0) := by rw [← hW0]; exact (Below.heap_alloc _ _ _ (by simp <;> omega)).trans (newAt _ _ _ (by simp <;> omega))
  have z4 : Boxed W0 (w.heap.size + 1 + 1 + 1 + 1) 68 (.slice none 0 0) := by rw [← hW0]; exact newAt _ _ _ (by simp <;> omega)
  have bE := Boxed.new W0 9 (.string r2)
  rw [hS0] at bE
  have hsA : (W0.alloc (.cells #[.string r2] 9)).heap.size = w.heap.size + 1 + 1 + 1 + 1 + 1 + 1 := by simp [hS0]
  refine wpIn_rangeFunc_X (F := Fence.wide) rfl (by omega) (gf := 122) (lb := #[.pointer (some ⟨w.heap.size + 1 + 1 + 1 + 1 + 1, 0, none⟩)]) rfl trivial (enters_of Tryz.func122 (by kernel_rfl) rfl)
    (idents_seq r2 (by omega) (w.heap.size + 1 + 1 + 1 + 1 + 1) _ bE) (fun r e => by subst e; omega) keepsBox_t (keepsBox_b (by omega)) (fun _ => rfl)
    (pI1 w W0 o0) (fun _ _ _ => False)
    (pI1_abides hS0 rfl hsA) (fun _ _ _ _ _ hs _ _ => hs)
    ⟨by simpa using z3.alloc _, ⟨_, z4.alloc _, World.ownsRow_nil _ _ _ _⟩, (fun k hk _ => Below.heap_alloc _ _ _ hk), hB0.alloc (by omega) _, by omega⟩
    (fun x => { tmps := #[.string s, undef, .pointer (some ⟨w.heap.size, 0, none⟩), .int .i64 0, .string r2, .bool true, .string me, .pointer (some ⟨w.heap.size + 1, 0, none⟩), .string pr, .pointer (some ⟨w.heap.size + 1 + 1, 0, none⟩), .pointer (some ⟨w.heap.size + 1 + 1 + 1, 0, none⟩), .pointer (some ⟨w.heap.size + 1 + 1 + 1 + 1, 0, none⟩), .string x, undef, undef, undef, undef,
          .tuple #[.string (trimV s), .bool true], .string s, .tuple #[.string (trimV s), .bool true], .string (trimV s), .bool true, .bool true, .bool false, .bool false, .string s, .int .i64 s.size, .bool (decide ((60 : Int) < s.size)), .bool (decide ((60 : Int) < s.size)), undef,
          .tuple #[.string r1, .string me, .bool hm], .string (trimV s), .tuple #[.string r1, .string me, .bool hm], .string r1, .string me, .bool hm, .tuple #[.string r2, .string pr, .bool hp], .string r1, .tuple #[.string r2, .string pr, .bool hp], .string r2, .string pr, .bool hp, .string r2, .int .i64 (Lib.countByte r2.data.toList 46), .bool o0, .string r2, .func (.func 122) #[] #[.pointer (some ⟨w.heap.size + 1 + 1 + 1 + 1 + 1, 0, none⟩)],
          .string x, undef, undef, undef, undef, undef, undef, undef, undef, undef, undef, undef, undef, undef, undef, undef, undef, undef, undef, undef, undef, undef, undef, undef, undef, undef, undef, undef, undef, undef, undef, undef, undef, undef, undef, undef, undef, undef, undef, undef, undef, undef, undef, undef, undef, undef, undef, undef, undef, undef, undef, undef, undef, undef, undef, undef, undef, undef], defers := [] }) ?assign ?body ?done ?stop
  case assign =>
    intro l x W K hK
    gi_wp2
    exact hK
  case stop => intro D c pre x post W _ _ h; exact h.elim
  case body =>
    rintro l pre x post W hxs ⟨c3, ⟨v, c4, hrow⟩, hf, hB, hsz⟩
    have hxsz : x.size ≤ 1048576 := splB_size 46 r2 (by omega) x (by rw [hxs]; simp)
    clear z0 z1 z2 z3 z4 bE hB0
    gi_wp2_with (refine ⟨trivial, ?_⟩; gi_at_call 86; refine (CallsIn.inRound l (callsIn_wide.2 (number x hxsz _))).mono ?_; rintro e w3 ⟨rfl, hb3⟩)
    have e3 := later c3 hb3
    have e4 := later c4 hb3
    have erow := rowBelow hrow hb3
    have hplen : pre.length + 1 ≤ 62 := by
      have h1 : (splB 46 r2).length ≤ r2.size + 1 := by
        unfold splB
        have := spl_length 46 r2.data.toList
        have e : r2.data.toList.length = r2.size := by rw [Array.length_toList]; rfl
        rw [List.length_map]; omega
      have h2 : pre.length + 1 ≤ (splB 46 r2).length := by rw [hxs]; simp
      omega
    have hsz3 := hb3.size
    generalize hokv : (o0 && pre.all numOk) = okv at *
    clear c3 c4 hrow hxs
    obtain ⟨i0, hi, hz0, hz1, hz2⟩ := info_parts infoI
    obtain ⟨W1, hW1⟩ : ∃ W1, w3.drew.alloc (.cells #[numI x] 3) = W1 := ⟨_, rfl⟩
    have rowD : w3.drew.ownsRow (w.heap.size + 1 + 1 + 1 + 1 + 1 + 1) 3 1 v pre.length (pre.map numI) := erow
    have row1 := rowD.alloc (.cells #[numI x] 3)
    rw [hW1] at row1
    have hS1 : W1.heap.size = w3.heap.size + 1 := by rw [← hW1]; simp
    obtain ⟨v', W2, hrun, hown2, hgrow2, _, _⟩ := run_append_own_at (P := Tryz.prog) (w := W1) (w.heap.size + 1 + 1 + 1 + 1 + 1 + 1) 68 68 3 i0 (.int .i64 0) 1 8 Tryz.underlying68 hi hz0 hz1 hz2 rfl (by decide) v pre.length (pre.map numI) row1
      ⟨w3.heap.size, 0, none⟩ 1 1 [numI x] rfl (by rw [← hW1]; exact cell_one_new _ _ _) (by simp [numI, Value.oneCell']) (by unfold maxLen; omega) (by omega) (by omega)
    obtain ⟨g', cap', hv'⟩ := ownsRow_succ hown2
    subst hv'
    have t4 : Boxed w3.drew (w.heap.size + 1 + 1 + 1 + 1) 68 v := e4
    have t3 : Boxed w3.drew (w.heap.size + 1 + 1 + 1) 4 (.bool okv) := e3
    have u4 : Boxed W1 (w.heap.size + 1 + 1 + 1 + 1) 68 v := by rw [← hW1]; exact t4.alloc _
    have u3 : Boxed W1 (w.heap.size + 1 + 1 + 1) 4 (.bool okv) := by rw [← hW1]; exact t3.alloc _
    have x4 : Boxed W2 (w.heap.size + 1 + 1 + 1 + 1) 68 v := u4.kept hgrow2 (u4.not_row (by decide) row1)
    have x3 : Boxed W2 (w.heap.size + 1 + 1 + 1) 4 (.bool okv) := u3.kept hgrow2 (u3.not_row (by decide) row1)
    have y4 := x4.set (.slice (some ⟨g', 0, none⟩) (pre.length + 1) cap')
    have y3 := x3.other (B' := w.heap.size + 1 + 1 + 1 + 1) (by omega) (.slice (some ⟨g', 0, none⟩) (pre.length + 1) cap')
    have hrl : ∀ k, v.ownBlock = some k → w.heap.size + 1 + 1 + 1 + 1 + 1 + 1 ≤ k := fun k hk => (row1.lt k hk).1
    have hko : KeepsOthers W1 W2 := KeepsOthers.of_grownBy hgrow2 fun j o ej hj => by
      rcases row1.2 with ⟨rfl, _⟩ | ⟨g, cap, cur, rfl, _, hgb, _⟩
      · simp [Value.ownBlock] at ej
      · obtain rfl : g = j := by simpa [Value.ownBlock] using ej
        rw [hgb] at hj; cases hj; rfl
    have hS2 := hgrow2.size
    have FIN := Lib.hid (show ∀ n, KeepsFrom n W ((W2.setCell ⟨w.heap.size + 1 + 1 + 1 + 1, 0, none⟩ (.slice (some ⟨g', 0, none⟩) (pre.length + 1) cap')).setCell ⟨w.heap.size + 1 + 1 + 1, 0, none⟩ (.bool (okv && numOk x))) ∧
        KeepsBox (w.heap.size + 1 + 1 + 1 + 1 + 1) W ((W2.setCell ⟨w.heap.size + 1 + 1 + 1 + 1, 0, none⟩ (.slice (some ⟨g', 0, none⟩) (pre.length + 1) cap')).setCell ⟨w.heap.size + 1 + 1 + 1, 0, none⟩ (.bool (okv && numOk x))) ∧
        pI1 w W0 o0 (pre ++ [x]) ((W2.setCell ⟨w.heap.size + 1 + 1 + 1 + 1, 0, none⟩ (.slice (some ⟨g', 0, none⟩) (pre.length + 1) cap')).setCell ⟨w.heap.size + 1 + 1 + 1, 0, none⟩ (.bool (okv && numOk x))) from by
      have hblk : ∀ k, k < w.heap.size + 1 + 1 + 1 + 1 + 1 + 1 → k ≠ w.heap.size + 1 + 1 + 1 → k ≠ w.heap.size + 1 + 1 + 1 + 1 → ((W2.setCell ⟨w.heap.size + 1 + 1 + 1 + 1, 0, none⟩ (.slice (some ⟨g', 0, none⟩) (pre.length + 1) cap')).setCell ⟨w.heap.size + 1 + 1 + 1, 0, none⟩ (.bool (okv && numOk x))).heap[k]? = W.heap[k]? := fun k hk h3 h4 =>
        (Below.heap_setCell _ _ _ _ h3).trans ((Below.heap_setCell _ _ _ _ h4).trans ((hgrow2.block k (by omega) (fun e => by have := hrl k e.symm; omega)).trans ((show W1.heap[k]? = w3.heap[k]? by rw [← hW1]; exact Below.heap_alloc _ _ _ (show k < w3.heap.size by omega)).trans (hb3.block k (by omega)))))
      refine fun n => ⟨?_, hblk _ (by omega) (by omega) (by omega), ?_, ⟨_, y4.other (by omega) _, ?_⟩, ?_, ?_, ?_⟩
      · refine (below_keeps hb3 n).trans ((drewN_keeps w3 1 n).trans (((?_ : KeepsOthers w3.drew W1).trans (hko.trans ((KeepsOthers.setCell _ _ _).trans (KeepsOthers.setCell _ _ _)))).from n))
        rw [← hW1]; exact KeepsOthers.alloc _ _
      · have e : (o0 && (pre ++ [x]).all numOk) = (okv && numOk x) := by rw [List.all_append, ← Bool.and_assoc, hokv]; simp
        rw [e]; exact y3.set _
      · have h1 := hown2.kept (grownBy_setCell' W2 (w.heap.size + 1 + 1 + 1 + 1) (.slice (some ⟨g', 0, none⟩) (pre.length + 1) cap')) (.inr (x4.not_row (by decide) hown2).symm)
        have h2 := h1.kept (grownBy_setCell' _ (w.heap.size + 1 + 1 + 1) (.bool (okv && numOk x))) (.inr (y3.not_row (by decide) h1).symm)
        simpa using h2
      · intro k hk hp
        exact (hblk k (by omega) (fun e => hp (.inl e)) (fun e => hp (.inr e))).trans (hf k hk hp)
      · have b1 : Below w.heap.size w W1 := by rw [← hW1]; exact ((hB.trans (hb3.mono (by omega))).drew).alloc (by simp; omega) _
        exact ((b1.grown hgrow2 (by omega) (fun k e => by have := hrl k e; omega)).setCell (p := ⟨w.heap.size + 1 + 1 + 1 + 1, 0, none⟩) (by simp only []; omega) _).setCell (p := ⟨w.heap.size + 1 + 1 + 1, 0, none⟩) (by simp only []; omega) _
      · simp only [World.size_setCell]; omega)
    clear hf hB hko hS2 hrl
    have ct4 := t4.cell
    have ct3 := t3.cell
    have cu4 := u4.cell
    have cu3 := u3.cell
    have cx3 := x3.cell
    have cx4 := x4.cell
    have fx4 := x4.frozen
    have cy3 := y3.cell
    have fy3 := y3.frozen
    refine Region.region_inv rfl (by kernel_rfl)
      (fun L a wc => a = { tmps := #[.string s, undef, .pointer (some ⟨w.heap.size, 0, none⟩), .int .i64 0, .string r2, .bool true, .string me, .pointer (some ⟨w.heap.size + 1, 0, none⟩), .string pr, .pointer (some ⟨w.heap.size + 1 + 1, 0, none⟩), .pointer (some ⟨w.heap.size + 1 + 1 + 1, 0, none⟩), .pointer (some ⟨w.heap.size + 1 + 1 + 1 + 1, 0, none⟩), .string x, .int .i64 (numV x), .bool (numOk x), undef, undef,
          .tuple #[.string (trimV s), .bool true], .string s, .tuple #[.string (trimV s), .bool true], .string (trimV s), .bool true, .bool true, .bool false, .bool false, .string s, .int .i64 s.size, .bool (decide ((60 : Int) < s.size)), .bool (decide ((60 : Int) < s.size)), undef,
          .tuple #[.string r1, .string me, .bool hm], .string (trimV s), .tuple #[.string r1, .string me, .bool hm], .string r1, .string me, .bool hm, .tuple #[.string r2, .string pr, .bool hp], .string r1, .tuple #[.string r2, .string pr, .bool hp], .string r2, .string pr, .bool hp, .string r2, .int .i64 (Lib.countByte r2.data.toList 46), .bool o0, .string r2, .func (.func 122) #[] #[.pointer (some ⟨w.heap.size + 1 + 1 + 1 + 1 + 1, 0, none⟩)],
          .string x, .tuple #[.int .i64 (numV x), .bool (numOk x)], .string x, .tuple #[.int .i64 (numV x), .bool (numOk x)], .int .i64 (numV x), .bool (numOk x),
          if L 0 = true then v else undef, if L 1 = true then .int .i64 (numV x) else undef, if L 2 = true then .slice (some ⟨w3.heap.size, 0, none⟩) 1 1 else undef, if L 3 = true then .slice (some ⟨g', 0, none⟩) (pre.length + 1) cap' else undef, if L 4 = true then .bool okv else undef, if L 5 = true then .bool okv else undef, if L 6 = true then (if okv = true then .bool (numOk x) else undef) else undef, if L 7 = true then .bool (okv && numOk x) else undef,
          undef, undef, undef, undef, undef, undef, undef, undef, undef, undef, undef, undef, undef, undef, undef, undef, undef, undef, undef, undef, undef, undef, undef, undef, undef, undef, undef, undef, undef, undef, undef, undef, undef, undef, undef, undef, undef, undef, undef, undef, undef, undef, undef, undef], defers := [] } ∧ wc = (if L 9 = true then (W2.setCell ⟨w.heap.size + 1 + 1 + 1 + 1, 0, none⟩ (.slice (some ⟨g', 0, none⟩) (pre.length + 1) cap')).setCell ⟨w.heap.size + 1 + 1 + 1, 0, none⟩ (.bool (okv && numOk x)) else if L 8 = true then W2.setCell ⟨w.heap.size + 1 + 1 + 1 + 1, 0, none⟩ (.slice (some ⟨g', 0, none⟩) (pre.length + 1) cap') else if L 3 = true then W2 else if L 2 = true then W1 else w3.drew)) ⟨by simp, by simp⟩ ?hs ?hd
    case hd =>
      rintro L a wc ⟨ha, hwc⟩ hall
      dsimp only at ha hwc
      simp only [hall 0 (by decide), hall 1 (by decide), hall 2 (by decide), hall 3 (by decide), hall 4 (by decide), hall 5 (by decide), hall 6 (by decide), hall 7 (by decide), hall 9 (by decide), if_true] at ha hwc
      subst ha hwc
      exact FIN.out _
    case hs =>
      rintro L a wc i o K ho ⟨ha, hwc⟩ hi0 hpre hcl hK
      dsimp only at ha hwc hK
      have k30 : L 3 = true → L 0 = true := fun h => hcl 3 _ rfl h ⟨0, .data⟩ (by simp) rfl
      have k32 : L 3 = true → L 2 = true := fun h => hcl 3 _ rfl h ⟨2, .data⟩ (by simp) rfl
      have k54 : L 5 = true → L 4 = true := fun h => hcl 5 _ rfl h ⟨4, .data⟩ (by simp) rfl
      have k83 : L 8 = true → L 3 = true := fun h => hcl 8 _ rfl h ⟨3, .data⟩ (by simp) rfl
      have k85 : L 8 = true → L 5 = true := fun h => hcl 8 _ rfl h ⟨5, .chain⟩ (by simp) rfl
      have k98 : L 9 = true → L 8 = true := fun h => hcl 9 _ rfl h ⟨8, .chain⟩ (by simp) rfl
      have nt : ∀ {a b : Bool}, (a = true → b = true) → b = false → a = false := fun {a b} h hb => by cases a; rfl; rw [hb] at h; exact absurd (h rfl) Bool.false_ne_true
      rcases i with _ | _ | _ | _ | _ | _ | _ | _ | _ | _ | i
      · injection ho with ho; subst ho
        have l3 := nt k30 hi0
        have l8 := nt k83 l3
        have l9 := nt k98 l8
        subst ha
        simp only [hi0, l3, l8, l9, Bool.false_eq_true, if_false] at hwc
        cases l2 : L 2 with
        | false =>
          simp only [l2, Bool.false_eq_true, if_false] at hwc
          subst hwc
          rw [if_pos (by rfl)]
          go_simp
          refine hK _ _ ⟨?_, ?_⟩
          · simp [hi0, l2, l3]
          · simp [l2, l3, l8, l9]
        | true =>
          simp only [l2, if_true] at hwc
          subst hwc
          rw [if_pos (by rfl)]
          go_simp
          refine hK _ _ ⟨?_, ?_⟩
          · simp [hi0, l2, l3]
          · simp [l2, l3, l8, l9]
      · -- 1: move
        injection ho with ho; subst ho
        subst ha
        subst hwc
        rw [if_pos (by rfl)]
        go_simp
        refine hK _ _ ⟨?_, ?_⟩
        · simp [hi0]
        · simp
      · -- 2: buildSlice
        injection ho with ho; subst ho
        have l1 : L 1 = true := hpre ⟨1, .data⟩ (by simp) rfl
        have l3 := nt k32 hi0
        have l8 := nt k83 l3
        have l9 := nt k98 l8
        subst ha
        simp only [hi0, l3, l8, l9, Bool.false_eq_true, if_false] at hwc
        subst hwc
        rw [if_pos (by rfl)]
        simp only [l1, if_true]
        go_simp
        refine hK _ _ ⟨?_, ?_⟩
        · simp [hi0, l1, l3]
        · simp [l3, l8, l9, ← hW1, numI]; rfl
      · -- 3: append
        injection ho with ho; subst ho
        have l0 : L 0 = true := hpre ⟨0, .data⟩ (by simp) rfl
        have l2 : L 2 = true := hpre ⟨2, .data⟩ (by simp) rfl
        have l8 := nt k83 hi0
        have l9 := nt k98 l8
        subst ha
        simp only [hi0, l2, l8, l9, Bool.false_eq_true, if_false, if_true] at hwc
        subst hwc
        rw [if_pos (by rfl)]
        simp only [l0, l2, if_true]
        refine Region.wpIn_append (s := .tmp 53) (x := .tmp 55) (t := 68) (v' := .slice (some ⟨g', 0, none⟩) (pre.length + 1) cap') (w' := W2) rfl (by first | exact hrun | (rw [show _ = v from rfl]; exact hrun)) (hK _ _ ⟨?_, ?_⟩)
        · simp [hi0, l0, l2, Act.put]
        · simp [l8, l9]
      · -- 4: load
        injection ho with ho; subst ho
        have l5 := nt k54 hi0
        have l8 := nt k85 l5
        have l9 := nt k98 l8
        subst ha
        simp only [l8, l9, Bool.false_eq_true, if_false] at hwc
        cases l3 : L 3 with
        | true =>
          simp only [l3, if_true] at hwc
          subst hwc
          rw [if_pos (by rfl)]
          go_simp
          refine hK _ _ ⟨?_, ?_⟩
          · simp [hi0, l3, l5, k30 l3, k32 l3]
          · simp [l3, l8, l9]
        | false =>
          simp only [l3, Bool.false_eq_true, if_false] at hwc
          cases l2 : L 2 with
          | false =>
            simp only [l2, Bool.false_eq_true, if_false] at hwc
            subst hwc
            rw [if_pos (by rfl)]
            go_simp
            refine hK _ _ ⟨?_, ?_⟩
            · simp [hi0, l2, l3, l5]
            · simp [l2, l3, l8, l9]
          | true =>
            simp only [l2, if_true] at hwc
            subst hwc
            rw [if_pos (by rfl)]
            go_simp
            refine hK _ _ ⟨?_, ?_⟩
            · simp [hi0, l2, l3, l5]
            · simp [l2, l3, l8, l9]
      · -- 5: move
        injection ho with ho; subst ho
        have l4 : L 4 = true := hpre ⟨4, .data⟩ (by simp) rfl
        subst ha
        subst hwc
        rw [if_pos (by rfl)]
        simp only [l4, if_true]
        go_simp
        refine hK _ _ ⟨?_, ?_⟩
        · simp [hi0, l4]
        · simp
      · -- 6: the guarded move
        injection ho with ho; subst ho
        have l5 : L 5 = true := hpre ⟨5, .guard⟩ (by simp) rfl
        subst ha
        subst hwc
        simp only [l5, if_true]
        cases okv with
        | true =>
          rw [if_pos (by rfl)]
          go_simp
          refine hK _ _ ⟨?_, ?_⟩
          · simp [hi0, l5, k54 l5]
          · simp
        | false =>
          rw [if_neg (by exact Bool.false_ne_true)]
          refine ⟨fun f hf => (by cases hf), ?_⟩
          refine hK _ _ ⟨?_, ?_⟩
          · simp [hi0, l5, k54 l5, Act.put]
          · simp
      · -- 7: pick
        injection ho with ho; subst ho
        have l5 : L 5 = true := hpre ⟨5, .data⟩ (by simp) rfl
        have l6 : L 6 = true := hpre ⟨6, .data⟩ (by simp) rfl
        subst ha
        subst hwc
        rw [if_pos (by rfl)]
        simp only [l5, l6, if_true]
        cases okv with
        | true =>
          simp only [if_true]
          go_simp
          refine hK _ _ ⟨?_, ?_⟩
          · simp [hi0, l5, l6, k54 l5]
          · simp
        | false =>
          simp only [Bool.false_eq_true, if_false]
          go_simp
          refine hK _ _ ⟨?_, ?_⟩
          · simp [hi0, l5, l6, k54 l5]
          · simp
      · -- 8: store
        injection ho with ho; subst ho
        have l3 : L 3 = true := hpre ⟨3, .data⟩ (by simp) rfl
        have l9 := nt k98 hi0
        subst ha
        simp only [hi0, l3, l9, Bool.false_eq_true, if_false, if_true] at hwc
        subst hwc
        rw [if_pos (by rfl)]
        simp only [l3, if_true]
        go_simp
        refine hK _ _ ⟨?_, ?_⟩
        · simp [hi0, l3, k30 l3, k32 l3]
        · simp [l3, l9]
      · -- 9: store
        injection ho with ho; subst ho
        have l7 : L 7 = true := hpre ⟨7, .data⟩ (by simp) rfl
        have l8 : L 8 = true := hpre ⟨8, .chain⟩ (by simp) rfl
        subst ha
        simp only [hi0, l8, Bool.false_eq_true, if_false, if_true] at hwc
        subst hwc
        rw [if_pos (by rfl)]
        simp only [l7, if_true]
        go_simp
        refine hK _ _ ⟨?_, ?_⟩
        · simp [hi0, l7, k83 l8, k85 l8, k54 (k85 l8), k30 (k83 l8), k32 (k83 l8)]
        · simp [l8]
      · exact absurd ho (by simp)
  case done =>
    rintro D1 W hD1 ⟨c3, ⟨v, c4, hrow⟩, hf, hB, hsz⟩ hK1
    have d0 := (hf w.heap.size (by omega) (by omega)).trans z0
    have d1 : Boxed W _ _ _ := (hf (w.heap.size + 1) (by omega) (by omega)).trans z1
    have d2 : Boxed W _ _ _ := (hf (w.heap.size + 1 + 1) (by omega) (by omega)).trans z2
    clear z0 z1 z2 z3 z4 bE hB0 hf hW0 hS0
    generalize hok1 : (o0 && (splB 46 r2).all numOk) = k1 at *
    rw [hsA] at hD1
    gi_wp2_with (refine ⟨trivial, ?_⟩; gi_at_call 85; refine (idents pr _).mono ?_; rintro e w' ⟨rfl, rfl⟩)
    have bE2 := Boxed.new W 9 (.string pr)
    refine wpIn_rangeFunc_X (F := Fence.wide) rfl (by omega) (gf := 122) (lb := #[.pointer (some ⟨W.heap.size, 0, none⟩)]) rfl trivial (enters_of Tryz.func122 (by kernel_rfl) rfl)
      (idents_seq pr (by omega) W.heap.size _ bE2) (fun r e => by subst e; simp) keepsBox_t (keepsBox_b (by simp)) (fun _ => rfl)
      (pI2 w W k1 (gP hp)) (fun _ _ _ => False)
      (pI2_abides (by omega) rfl (by simp)) (fun _ _ _ _ _ hs _ _ => hs)
      ⟨by simpa using c3.alloc _, (fun k hk _ => Below.heap_alloc _ _ _ hk), hB.alloc (by omega) _, by simp⟩
      (fun x => { tmps := #[.string s, undef, .pointer (some ⟨w.heap.size, 0, none⟩), .int .i64 0, .string r2, .bool true, .string me, .pointer (some ⟨w.heap.size + 1, 0, none⟩), .string pr, .pointer (some ⟨w.heap.size + 1 + 1, 0, none⟩), .pointer (some ⟨w.heap.size + 1 + 1 + 1, 0, none⟩), .pointer (some ⟨w.heap.size + 1 + 1 + 1 + 1, 0, none⟩), undef, undef, undef, .string x, undef, .tuple #[.string (trimV s), .bool true], .string s, .tuple #[.string (trimV s), .bool true], .string (trimV s), .bool true, .bool true, .bool false, .bool false, .string s, .int .i64 s.size, .bool (decide ((60 : Int) < s.size)), .bool (decide ((60 : Int) < s.size)), undef, .tuple #[.string r1, .string me, .bool hm], .string (trimV s), .tuple #[.string r1, .string me, .bool hm], .string r1, .string me, .bool hm, .tuple #[.string r2, .string pr, .bool hp], .string r1, .tuple #[.string r2, .string pr, .bool hp], .string r2, .string pr, .bool hp, .string r2, .int .i64 (Lib.countByte r2.data.toList 46), .bool o0, .string r2, .func (.func 122) #[] #[.pointer (some ⟨w.heap.size + 1 + 1 + 1 + 1 + 1, 0, none⟩)], undef, undef, undef, undef, undef, undef, undef, undef, undef, undef, undef, undef, undef, undef, .string pr, .func (.func 122) #[] #[.pointer (some ⟨W.heap.size, 0, none⟩)], .string x, undef, undef, undef, undef, undef, undef, undef, undef, undef, undef, undef, undef, undef, undef, undef, undef, undef, undef, undef, undef, undef, undef, undef, undef, undef, undef, undef, undef, undef, undef, undef, undef, undef, undef, undef, undef, undef, undef, undef, undef, undef], defers := [] }) ?assign2 ?body2 ?done2 ?stop2
    case assign2 =>
      intro l x W' K hK
      gi_wp2
      exact hK
    case stop2 => intro D c pre x post W' _ _ h; exact h.elim
    case body2 =>
      rintro l pre x post W' hxs hI
      have hxsz : x.size ≤ 1048576 := splB_size 46 pr (by omega) x (by rw [hxs]; simp)
      have e3 := hI.1
      have e2 : Boxed W' (w.heap.size + 1 + 1) 4 (.bool hp) := (hI.2.1 (w.heap.size + 1 + 1) (by omega) (by omega)).trans d2
      have FIN := Lib.hid (fun b e => pI2_set (x := x) (b := b) (by omega) hI e)
      clear c3 c4 hrow hB hK1 d0 d1 bE2 hxs hI
      have hc3 := e3.cell
      have hf3 := e3.frozen
      have hc2 := e2.cell
      generalize hokb : (k1 && pre.all (gP hp)) = okb at *
      cases okb with
      | false =>
        gi_wp2_with (first | (exfalso; rename_i hu _; simp [undef] at hu; done) | (refine ⟨trivial, ?_⟩; gi_wp2))
        exact FIN.out false (by simp) _
      | true =>
        cases hp with
        | false =>
          gi_wp2_with (first | (exfalso; rename_i hu _; simp [undef] at hu; done) | (refine ⟨trivial, ?_⟩; gi_wp2))
          exact FIN.out true (by simp [gP]) _
        | true =>
          cases h1 : everyB signB x with
          | false =>
            have H1 := Lib.hid h1
            clear h1
            gi_wp2_with (first
              | (refine ⟨trivial, ?_⟩; gi_at_call 87; refine (CallsIn.inRound l (callsIn_wide.2 (everyS x hxsz _))).mono ?_; rw [H1.out]; rintro e w' ⟨rfl, rfl⟩)
              | (refine ⟨trivial, ?_⟩; gi_wp2))
            exact FIN.out false (by simp [gP, H1.out]) _
          | true =>
            have H1 := Lib.hid h1
            clear h1
            gi_wp2_with (refine ⟨trivial, ?_⟩; (first
              | (gi_at_call 87; refine (CallsIn.inRound l (callsIn_wide.2 (everyS x hxsz _))).mono ?_; rw [H1.out]; rintro e w' ⟨rfl, rfl⟩)
              | (gi_at_call 89; refine (CallsIn.inRound l (callsIn_wide.2 (nought x hxsz _))).mono ?_; rintro e w' ⟨rfl, rfl⟩)))
            exact FIN.out (!noughtB x) (by simp [gP, H1.out]) _
    case done2 =>
      rintro D2 W' hD2 hI hK2
      obtain ⟨e3, hf2, hB2, hsz2⟩ := hI
      have e0 := (hf2 w.heap.size (by omega) (by omega)).trans d0
      have e1 : Boxed W' _ _ _ := (hf2 (w.heap.size + 1) (by omega) (by omega)).trans d1
      have e4 : Boxed W' _ _ _ := (hf2 (w.heap.size + 1 + 1 + 1 + 1) (by omega) (by omega)).trans c4
      have erow := rowFr hrow hf2 (fun g hg => by omega)
      have eK1 := (hf2 D1 (Array.getElem?_eq_some_iff.1 hK1).1 (by omega)).trans hK1
      have hlt1 := (Array.getElem?_eq_some_iff.1 hK1).1
      have hlt2 := (Array.getElem?_eq_some_iff.1 hK2).1
      rw [World.size_alloc] at hD2
      clear d0 d1 d2 c3 c4 hrow hf2 hB hK1 bE2
      generalize hok2 : (k1 && (splB 46 pr).all (gP hp)) = k2 at *
      gi_wp2_with (refine ⟨trivial, ?_⟩; gi_at_call 85; refine (idents me _).mono ?_; rintro e w' ⟨rfl, rfl⟩)
      have bE3 := Boxed.new W' 9 (.string me)
      refine wpIn_rangeFunc_X (F := Fence.wide) rfl (by omega) (gf := 122) (lb := #[.pointer (some ⟨W'.heap.size, 0, none⟩)]) rfl trivial (enters_of Tryz.func122 (by kernel_rfl) rfl)
        (idents_seq me (by omega) W'.heap.size _ bE3) (fun r e => by subst e; simp) keepsBox_t (keepsBox_b (by simp)) (fun _ => rfl)
        (pI2 w W' k2 (gM hm)) (fun _ _ _ => False)
        (pI2_abides (by omega) rfl (by simp)) (fun _ _ _ _ _ hs _ _ => hs)
        ⟨by simpa using e3.alloc _, (fun k hk _ => Below.heap_alloc _ _ _ hk), hB2.alloc (by omega) _, by simp⟩
        (fun x => { tmps := #[.string s, undef, .pointer (some ⟨w.heap.size, 0, none⟩), .int .i64 0, .string r2, .bool true, .string me, .pointer (some ⟨w.heap.size + 1, 0, none⟩), .string pr, .pointer (some ⟨w.heap.size + 1 + 1, 0, none⟩), .pointer (some ⟨w.heap.size + 1 + 1 + 1, 0, none⟩), .pointer (some ⟨w.heap.size + 1 + 1 + 1 + 1, 0, none⟩), undef, undef, undef, undef, .string x, .tuple #[.string (trimV s), .bool true], .string s, .tuple #[.string (trimV s), .bool true], .string (trimV s), .bool true, .bool true, .bool false, .bool false, .string s, .int .i64 s.size, .bool (decide ((60 : Int) < s.size)), .bool (decide ((60 : Int) < s.size)), undef, .tuple #[.string r1, .string me, .bool hm], .string (trimV s), .tuple #[.string r1, .string me, .bool hm], .string r1, .string me, .bool hm, .tuple #[.string r2, .string pr, .bool hp], .string r1, .tuple #[.string r2, .string pr, .bool hp], .string r2, .string pr, .bool hp, .string r2, .int .i64 (Lib.countByte r2.data.toList 46), .bool o0, .string r2, .func (.func 122) #[] #[.pointer (some ⟨w.heap.size + 1 + 1 + 1 + 1 + 1, 0, none⟩)], undef, undef, undef, undef, undef, undef, undef, undef, undef, undef, undef, undef, undef, undef, .string pr, .func (.func 122) #[] #[.pointer (some ⟨W.heap.size, 0, none⟩)], undef, undef, undef, undef, undef, undef, undef, undef, undef, undef, undef, undef, undef, undef, undef, .string me, .func (.func 122) #[] #[.pointer (some ⟨W'.heap.size, 0, none⟩)], .string x, undef, undef, undef, undef, undef, undef, undef, undef, undef, undef, undef, undef, undef, undef, undef, undef, undef, undef, undef, undef, undef, undef, undef, undef], defers := [] }) ?assign3 ?body3 ?done3 ?stop3
      case assign3 =>
        intro l x V K hK
        gi_wp2
        exact hK
      case stop3 => intro D c pre x post V _ _ h; exact h.elim
      case body3 =>
        rintro l pre x post V hxs hI
        have hxsz : x.size ≤ 1048576 := splB_size 46 me (by omega) x (by rw [hxs]; simp)
        have g3 := hI.1
        have g1 : Boxed V (w.heap.size + 1) 4 (.bool hm) := (hI.2.1 (w.heap.size + 1) (by omega) (by omega)).trans e1
        have FIN := Lib.hid (fun b e => pI2_set (x := x) (b := b) (by omega) hI e)
        clear e0 e1 e3 e4 erow hB2 hK2 eK1 bE3 hxs hI
        have hc3 := g3.cell
        have hf3 := g3.frozen
        have hc1 := g1.cell
        generalize hokb : (k2 && pre.all (gM hm)) = okb at *
        cases okb with
        | false =>
          gi_wp2_with (first | (exfalso; rename_i hu _; simp [undef] at hu; done) | (refine ⟨trivial, ?_⟩; gi_wp2))
          exact FIN.out false (by simp) _
        | true =>
          cases hm with
          | false =>
            gi_wp2_with (first | (exfalso; rename_i hu _; simp [undef] at hu; done) | (refine ⟨trivial, ?_⟩; gi_wp2))
            exact FIN.out true (by simp [gM]) _
          | true =>
            gi_wp2_with (refine ⟨trivial, ?_⟩; gi_at_call 87; refine (CallsIn.inRound l (callsIn_wide.2 (everyS x hxsz _))).mono ?_; rintro e w' ⟨rfl, rfl⟩)
            exact FIN.out (everyB signB x) (by simp [gM]) _
      case done3 =>
        rintro D3 V hD3 hI hK3
        obtain ⟨g3, hf3, hB3, hsz3⟩ := hI
        have g0 := (hf3 w.heap.size (by omega) (by omega)).trans e0
        have g4 : Boxed V _ _ _ := (hf3 (w.heap.size + 1 + 1 + 1 + 1) (by omega) (by omega)).trans e4
        have grow := rowFr erow hf3 (fun g hg => by omega)
        have gK1 := (hf3 D1 (by omega) (by omega)).trans eK1
        have gK2 := (hf3 D2 (by omega) (by omega)).trans hK2
        rw [World.size_alloc] at hD3
        have PE := Lib.hid (parseB_eq HMT.out HPT.out ho0 H1.out h2')
        rw [hok1, hok2] at PE
        clear e0 e1 e3 e4 erow hf3 hB2 hK2 eK1 bE3
        generalize hok3 : (k2 && (splB 46 me).all (gM hm)) = k3 at *
        have hc3 := g3.cell
        have s0 : V.cell? ⟨w.heap.size, 0, none⟩ = some (.int .i64 0) := by simp [World.cell?, g0]
        have s1 : V.cell? ⟨w.heap.size, 1, none⟩ = some (.int .i64 0) := by simp [World.cell?, g0]
        have s2 : V.cell? ⟨w.heap.size, 2, none⟩ = some (.int .i64 0) := by simp [World.cell?, g0]
        have s3 : V.cell? ⟨w.heap.size, 3, none⟩ = some (.string ⟨#[]⟩) := by simp [World.cell?, g0]
        have s4 : V.cell? ⟨w.heap.size, 4, none⟩ = some (.string ⟨#[]⟩) := by simp [World.cell?, g0]
        have t0 : V.frozen? ⟨w.heap.size, 0, none⟩ = false := by simp [World.frozen?, g0]
        have t1 : V.frozen? ⟨w.heap.size, 1, none⟩ = false := by simp [World.frozen?, g0]
        have t2 : V.frozen? ⟨w.heap.size, 2, none⟩ = false := by simp [World.frozen?, g0]
        have t3 : V.frozen? ⟨w.heap.size, 3, none⟩ = false := by simp [World.frozen?, g0]
        have t4 : V.frozen? ⟨w.heap.size, 4, none⟩ = false := by simp [World.frozen?, g0]
        cases k3 with
        | false =>
          have PE2 := PE.out
          rw [if_neg Bool.false_ne_true] at PE2
          have hG := set5 g0 (.int .i64 0) (.int .i64 0) (.int .i64 0) (.string ⟨#[]⟩) (.string ⟨#[]⟩)
          have hk1 := (set5_other (V := V) (b := w.heap.size) (k := D1) (by omega) (.int .i64 0) (.int .i64 0) (.int .i64 0) (.string ⟨#[]⟩) (.string ⟨#[]⟩)).trans gK1
          have hk2 := (set5_other (V := V) (b := w.heap.size) (k := D2) (by omega) (.int .i64 0) (.int .i64 0) (.int .i64 0) (.string ⟨#[]⟩) (.string ⟨#[]⟩)).trans gK2
          have hk3 := (set5_other (V := V) (b := w.heap.size) (k := D3) (by omega) (.int .i64 0) (.int .i64 0) (.int .i64 0) (.string ⟨#[]⟩) (.string ⟨#[]⟩)).trans hK3
          have hbl := set5_below hB3 (Nat.le_refl _) (.int .i64 0) (.int .i64 0) (.int .i64 0) (.string ⟨#[]⟩) (.string ⟨#[]⟩)
          gi_wp2
          exact leave_ver (r := (0, 0, 0, ⟨#[]⟩, ⟨#[]⟩, 30)) (by omega) (by omega) (by omega) (by omega) (by omega) (by omega) (Nat.le_refl _) hk1 hk2 hk3 hG hbl PE2.symm rfl rfl
        | true =>
          have PE2 := PE.out
          rw [if_pos rfl] at PE2
          have hk2t : k2 = true := by cases k2 with
            | true => rfl
            | false => simp at hok3
          have hk1t : k1 = true := by cases k1 with
            | true => rfl
            | false => rw [hk2t] at hok2; simp at hok2
          have ho0t : o0 = true := by cases o0 with
            | true => rfl
            | false => rw [hk1t] at hok1; simp at hok1
          have hlen : (splB 46 r2).length = 3 := by
            unfold splB
            rw [List.length_map, spl_count]
            rw [ho0t] at ho0
            have := of_decide_eq_true (p := (Lib.countByte r2.data.toList 46 : Int) = 2) (by simpa using ho0)
            omega
          obtain ⟨x0, x1, x2, hx⟩ : ∃ x0 x1 x2, splB 46 r2 = [x0, x1, x2] := by
            match h : splB 46 r2, hlen with
            | [a, b, c], _ => exact ⟨a, b, c, rfl⟩
          rw [hx] at grow PE2
          obtain ⟨g, cap, hv⟩ := ownsRow_succ (k := 2) grow
          subst hv
          have n0 := grow.cellAt 0 (by decide)
          have n1 := grow.cellAt 1 (by decide)
          have n2 := grow.cellAt 2 (by decide)
          simp only [List.map_cons, List.map_nil, List.getElem?_cons_zero, List.getElem?_cons_succ, numI] at n0 n1 n2
          have hc4 := g4.cell
          have gd : V.drew.heap[w.heap.size]? = _ := g0
          have hG := set5 gd (.int .i64 (numV x0)) (.int .i64 (numV x1)) (.int .i64 (numV x2)) (.string pr) (.string me)
          have hk1 := (set5_other (V := V.drew) (b := w.heap.size) (k := D1) (by omega) (.int .i64 (numV x0)) (.int .i64 (numV x1)) (.int .i64 (numV x2)) (.string pr) (.string me)).trans gK1
          have hk2 := (set5_other (V := V.drew) (b := w.heap.size) (k := D2) (by omega) (.int .i64 (numV x0)) (.int .i64 (numV x1)) (.int .i64 (numV x2)) (.string pr) (.string me)).trans gK2
          have hk3 := (set5_other (V := V.drew) (b := w.heap.size) (k := D3) (by omega) (.int .i64 (numV x0)) (.int .i64 (numV x1)) (.int .i64 (numV x2)) (.string pr) (.string me)).trans hK3
          have hbl := set5_below hB3.drew (Nat.le_refl _) (.int .i64 (numV x0)) (.int .i64 (numV x1)) (.int .i64 (numV x2)) (.string pr) (.string me)
          clear hok1 hok2 hok3 ho0
          gi_wp2
          refine Region.region_inv rfl (by kernel_rfl)
            (fun L a wc => a = { tmps := #[.string s, undef, .pointer (some ⟨w.heap.size, 0, none⟩), .int .i64 0, .string r2, .bool true, .string me, .pointer (some ⟨w.heap.size + 1, 0, none⟩), .string pr, .pointer (some ⟨w.heap.size + 1 + 1, 0, none⟩), .pointer (some ⟨w.heap.size + 1 + 1 + 1, 0, none⟩), .pointer (some ⟨w.heap.size + 1 + 1 + 1 + 1, 0, none⟩), undef, undef, undef, undef, undef, .tuple #[.string (trimV s), .bool true], .string s, .tuple #[.string (trimV s), .bool true], .string (trimV s), .bool true, .bool true, .bool false, .bool false, .string s, .int .i64 s.size, .bool (decide ((60 : Int) < s.size)), .bool (decide ((60 : Int) < s.size)), undef, .tuple #[.string r1, .string me, .bool hm], .string (trimV s), .tuple #[.string r1, .string me, .bool hm], .string r1, .string me, .bool hm, .tuple #[.string r2, .string pr, .bool hp], .string r1, .tuple #[.string r2, .string pr, .bool hp], .string r2, .string pr, .bool hp, .string r2, .int .i64 (Lib.countByte r2.data.toList 46), .bool true, .string r2, .func (.func 122) #[] #[.pointer (some ⟨w.heap.size + 1 + 1 + 1 + 1 + 1, 0, none⟩)], undef, undef, undef, undef, undef, undef, undef, undef, undef, undef, undef, undef, undef, undef, .string pr, .func (.func 122) #[] #[.pointer (some ⟨W.heap.size, 0, none⟩)], undef, undef, undef, undef, undef, undef, undef, undef, undef, undef, undef, undef, undef, undef, undef, .string me, .func (.func 122) #[] #[.pointer (some ⟨W'.heap.size, 0, none⟩)], undef, undef, undef, undef, undef, undef, undef, undef, undef, undef, .bool true, .bool false, undef, if L 0 = true then .slice (some ⟨g, 0, none⟩) (2 + 1) cap else undef, if L 1 = true then .pointer (some ⟨g, 0, none⟩) else undef, if L 2 = true then .int .i64 (numV x0) else undef, if L 3 = true then .slice (some ⟨g, 0, none⟩) (2 + 1) cap else undef, if L 4 = true then .pointer (some ⟨g, 1, none⟩) else undef, if L 5 = true then .int .i64 (numV x1) else undef, if L 6 = true then .slice (some ⟨g, 0, none⟩) (2 + 1) cap else undef, if L 7 = true then .pointer (some ⟨g, 2, none⟩) else undef, if L 8 = true then .int .i64 (numV x2) else undef, if L 9 = true then .string pr else undef, if L 10 = true then .string me else undef, if L 11 = true then .agg #[.int .i64 (numV x0), .int .i64 (numV x1), .int .i64 (numV x2), .string pr, .string me] else undef], defers := [{ target := .collected D3, args := #[] }, { target := .collected D2, args := #[] }, { target := .collected D1, args := #[] }] } ∧ wc = (if L 12 = true then ((((V.drew.setCell ⟨w.heap.size, 0, none⟩ (.int .i64 (numV x0))).setCell ⟨w.heap.size, 1, none⟩ (.int .i64 (numV x1))).setCell ⟨w.heap.size, 2, none⟩ (.int .i64 (numV x2))).setCell ⟨w.heap.size, 3, none⟩ (.string pr)).setCell ⟨w.heap.size, 4, none⟩ (.string me) else V.drew)) ⟨by simp, by simp⟩ ?hs4 ?hd4
          case hd4 =>
            rintro L a wc ⟨ha, hwc⟩ hall
            dsimp only at ha hwc
            simp only [hall 0 (by decide), hall 1 (by decide), hall 2 (by decide), hall 3 (by decide), hall 4 (by decide), hall 5 (by decide), hall 6 (by decide), hall 7 (by decide), hall 8 (by decide), hall 9 (by decide), hall 10 (by decide), hall 11 (by decide), hall 12 (by decide), if_true] at ha hwc
            subst ha hwc
            gi_wp2
            exact leave_ver (r := (numV x0, numV x1, numV x2, pr, me, 0)) (by omega) (by omega) (by omega) (by omega) (by omega) (by omega) (Nat.le_refl _) hk1 hk2 hk3 hG hbl PE2.symm rfl rfl
          case hs4 =>
            rintro L a wc i o K ho ⟨ha, hwc⟩ hi0 hpre hcl hK
            dsimp only at ha hwc hK
            clear hG hk1 hk2 hk3 hbl PE2 gK1 gK2 hK3 hB3
            have nt : ∀ {a b : Bool}, (a = true → b = true) → b = false → a = false := fun {a b} h hb => by cases a; rfl; rw [hb] at h; exact absurd (h rfl) Bool.false_ne_true
            rcases i with _ | _ | _ | _ | _ | _ | _ | _ | _ | _ | _ | _ | _ | _ | i
            · injection ho with ho; subst ho
              have l12 : L 12 = false := nt (fun h => hcl 12 _ rfl h ⟨0, .phase⟩ (by simp) rfl) hi0
              subst ha
              simp only [l12, Bool.false_eq_true, if_false] at hwc
              subst hwc
              rw [if_pos (by rfl)]
              go_simp
              refine hK _ _ ⟨?_, ?_⟩
              · simp [hi0]
              · simp [l12]
            · injection ho with ho; subst ho
              have l12 : L 12 = false := nt (fun h => hcl 12 _ rfl h ⟨1, .phase⟩ (by simp) rfl) hi0
              have l0 : L 0 = true := hpre ⟨0, .data⟩ (by simp) rfl
              subst ha
              simp only [l12, Bool.false_eq_true, if_false] at hwc
              subst hwc
              rw [if_pos (by rfl)]
              simp only [l0, if_true]
              go_simp
              refine hK _ _ ⟨?_, ?_⟩
              · simp [hi0, l0]
              · simp [l12]
            · injection ho with ho; subst ho
              have l12 : L 12 = false := nt (fun h => hcl 12 _ rfl h ⟨2, .phase⟩ (by simp) rfl) hi0
              have l1 : L 1 = true := hpre ⟨1, .data⟩ (by simp) rfl
              subst ha
              simp only [l12, Bool.false_eq_true, if_false] at hwc
              subst hwc
              rw [if_pos (by rfl)]
              simp only [l1, if_true]
              go_simp
              refine hK _ _ ⟨?_, ?_⟩
              · simp [hi0, l1]
              · simp [l12]
            · injection ho with ho; subst ho
              have l12 : L 12 = false := nt (fun h => hcl 12 _ rfl h ⟨3, .phase⟩ (by simp) rfl) hi0
              subst ha
              simp only [l12, Bool.false_eq_true, if_false] at hwc
              subst hwc
              rw [if_pos (by rfl)]
              go_simp
              refine hK _ _ ⟨?_, ?_⟩
              · simp [hi0]
              · simp [l12]
            · injection ho with ho; subst ho
              have l12 : L 12 = false := nt (fun h => hcl 12 _ rfl h ⟨4, .phase⟩ (by simp) rfl) hi0
              have l3 : L 3 = true := hpre ⟨3, .data⟩ (by simp) rfl
              subst ha
              simp only [l12, Bool.false_eq_true, if_false] at hwc
              subst hwc
              rw [if_pos (by rfl)]
              simp only [l3, if_true]
              go_simp
              refine hK _ _ ⟨?_, ?_⟩
              · simp [hi0, l3]
              · simp [l12]
            · injection ho with ho; subst ho
              have l12 : L 12 = false := nt (fun h => hcl 12 _ rfl h ⟨5, .phase⟩ (by simp) rfl) hi0
              have l4 : L 4 = true := hpre ⟨4, .data⟩ (by simp) rfl
              subst ha
              simp only [l12, Bool.false_eq_true, if_false] at hwc
              subst hwc
              rw [if_pos (by rfl)]
              simp only [l4, if_true]
              go_simp
              refine hK _ _ ⟨?_, ?_⟩
              · simp [hi0, l4]
              · simp [l12]
            · injection ho with ho; subst ho
              have l12 : L 12 = false := nt (fun h => hcl 12 _ rfl h ⟨6, .phase⟩ (by simp) rfl) hi0
              subst ha
              simp only [l12, Bool.false_eq_true, if_false] at hwc
              subst hwc
              rw [if_pos (by rfl)]
              go_simp
              refine hK _ _ ⟨?_, ?_⟩
              · simp [hi0]
              · simp [l12]
            · injection ho with ho; subst ho
              have l12 : L 12 = false := nt (fun h => hcl 12 _ rfl h ⟨7, .phase⟩ (by simp) rfl) hi0
              have l6 : L 6 = true := hpre ⟨6, .data⟩ (by simp) rfl
              subst ha
              simp only [l12, Bool.false_eq_true, if_false] at hwc
              subst hwc
              rw [if_pos (by rfl)]
              simp only [l6, if_true]
              go_simp
              refine hK _ _ ⟨?_, ?_⟩
              · simp [hi0, l6]
              · simp [l12]
            · injection ho with ho; subst ho
              have l12 : L 12 = false := nt (fun h => hcl 12 _ rfl h ⟨8, .phase⟩ (by simp) rfl) hi0
              have l7 : L 7 = true := hpre ⟨7, .data⟩ (by simp) rfl
              subst ha
              simp only [l12, Bool.false_eq_true, if_false] at hwc
              subst hwc
              rw [if_pos (by rfl)]
              simp only [l7, if_true]
              go_simp
              refine hK _ _ ⟨?_, ?_⟩
              · simp [hi0, l7]
              · simp [l12]
            · injection ho with ho; subst ho
              have l12 : L 12 = false := nt (fun h => hcl 12 _ rfl h ⟨9, .phase⟩ (by simp) rfl) hi0
              subst ha
              simp only [l12, Bool.false_eq_true, if_false] at hwc
              subst hwc
              rw [if_pos (by rfl)]
              go_simp
              refine hK _ _ ⟨?_, ?_⟩
              · simp [hi0]
              · simp [l12]
            · injection ho with ho; subst ho
              have l12 : L 12 = false := nt (fun h => hcl 12 _ rfl h ⟨10, .phase⟩ (by simp) rfl) hi0
              subst ha
              simp only [l12, Bool.false_eq_true, if_false] at hwc
              subst hwc
              rw [if_pos (by rfl)]
              go_simp
              refine hK _ _ ⟨?_, ?_⟩
              · simp [hi0]
              · simp [l12]
            · injection ho with ho; subst ho
              have l12 : L 12 = false := nt (fun h => hcl 12 _ rfl h ⟨11, .phase⟩ (by simp) rfl) hi0
              have l2 : L 2 = true := hpre ⟨2, .data⟩ (by simp) rfl
              have l5 : L 5 = true := hpre ⟨5, .data⟩ (by simp) rfl
              have l8 : L 8 = true := hpre ⟨8, .data⟩ (by simp) rfl
              have l9 : L 9 = true := hpre ⟨9, .data⟩ (by simp) rfl
              have l10 : L 10 = true := hpre ⟨10, .data⟩ (by simp) rfl
              subst ha
              simp only [l12, Bool.false_eq_true, if_false] at hwc
              subst hwc
              rw [if_pos (by rfl)]
              simp only [l2, l5, l8, l9, l10, if_true]
              go_simp
              refine hK _ _ ⟨?_, ?_⟩
              · simp [hi0, l2, l5, l8, l9, l10]
              · simp [l12]
            · injection ho with ho; subst ho
              have l11 : L 11 = true := hpre ⟨11, .data⟩ (by simp) rfl
              subst ha
              simp only [hi0, Bool.false_eq_true, if_false] at hwc
              subst hwc
              rw [if_pos (by rfl)]
              simp only [l11, if_true]
              go_simp
              refine hK _ _ ⟨?_, ?_⟩
              · simp [hi0, l11]
              · simp; rfl
            · injection ho with ho; subst ho
              have l12 : L 12 = true := hpre ⟨12, .chain⟩ (by simp) rfl
              subst ha
              simp only [l12, if_true] at hwc
              subst hwc
              rw [if_pos (by rfl)]
              go_simp
              refine hK _ _ ⟨?_, ?_⟩
              · simp
              · simp [l12]; rfl
            · exact absurd ho (by simp)

theorem Parse (s : ByteArray) (hs : s.size ≤ 1048576) (w : World) : Calls Tryz.prog 54 #[.string s] w fun e W' => e = .returned (verV (parseB s)) ∧ Below w.heap.size w W' := callsIn_wide.1 (parse_in s hs w)
end Go.Proofs.YtcfmaeonginefaaGreatDoor.Parse

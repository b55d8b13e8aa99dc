/- TagsTables: whether any tables may be, what any name tells by them, and which tags a platform has, is the document's. The card of graftbedlaw14.TagsTables. For every input; the listed package-level variables of the library start as the program's text lays them (the card ties them). -/
import Derived.Test.YtcfmaeonginefaaDoorTags
import Derived.Test.YtcfmaeonginefaaDoorCards
import Derived.Test.YtcfmaeonginefaaDoorTie
import Derived.WalkKit
import Derived.ProofKit
import Derived.OpenShut
import Derived.Carry
import Derived.Deep.Strs
import Derived.Deep.DeepHandedRow
import Derived.Deep.DeepLaidRun
import Derived.Lib.LaidTab
import Derived.Lib.SmallJoins
import Derived.Shelf.Vars
namespace Go.Proofs.YtcfmaeonginefaaDoor.tagsTables
open Go.ChangeShapes Go.WideShapes Go.ChangeAt Go.RowKit Go.Joins Go.Deep Go.Proofs.YtcfmaeonginefaaDoor.Sets
set_option linter.unusedVariables false

theorem own : ownKnob Tryd.prog.godebug = none := by kernel_rfl
theorem laidOut : laidOutB Tryd.prog = true := by kernel_rfl
/-- A slice of texts that came in reads. -/
theorem rq_open {H : Type} {enc : TypeId × Value → H} {w : World} {base : Nat} {spare : Nat → Bool} {held : Bool} {fuel : Nat} {v : Value} {x : DataW H × List MemPlace} (h : DataW.trod enc Tryd.prog w base spare held fuel 22 [v] = some x) :
    ∃ xs : List ByteArray, Rq w v xs ∧ xs.length ≤ 9223372036854775807 := by
  rcases open_strs Tryd.underlying22 Tryd.underlying9 (by kernel_rfl) h with ⟨h0, _⟩ | ⟨a, len, cap, m, Sx, h0, _, hl, hm, hmm, _, hc⟩
  · obtain rfl : v = .slice none 0 0 := by simpa using h0
    exact ⟨[], ⟨none, 0, rfl, fun _ => rfl, Nat.le_refl _, fun i hi => absurd hi (Nat.not_lt_zero _)⟩, by decide⟩
  · obtain rfl : v = .slice (some a) len cap := by simpa using h0
    have hlm : len ≤ m := by rw [hmm]; split <;> omega
    refine ⟨(List.range len).map Sx, ⟨some a, cap, by simp, (fun h => by cases h), by simpa using hl, fun i hi => ?_⟩, by unfold maxLen at hm; simp; omega⟩
    have hi' : i < len := by simpa using hi
    obtain ⟨hcell, _⟩ := hc i (by omega)
    obtain ⟨g, o, sp⟩ := a
    cases sp with
    | none =>
      refine ⟨g, o, rfl, ?_⟩
      rw [add_plain] at hcell
      rw [hcell]
      simp
    | some s =>
      exfalso
      have := (hc 0 (by omega)).1
      simp [World.cell?, Addr.add] at this
      split at this <;> simp at this
set_option maxRecDepth 100000 in
/-- The tables that came in read. -/
theorem open_tables {H : Type} {enc : TypeId × Value → H} {w : World} {base : Nat} {spare : Nat → Bool} {held : Bool} {r : Reach} {b0 : Nat} {v : Value} {d : DataW H} {p : List MemPlace}
    (hv : Value.okWide Tryd.prog w r b0 24 v) (h : DataW.Trod enc Tryd.prog w base spare held 24 v d p) :
    ∃ (v0 v1 v2 v3 v4 v5 : Value) (OS Un Ar St Re Li : List ByteArray), v = .agg #[v0, v1, v2, v3, v4, v5] ∧ (Rq w v0 OS ∧ OS.length ≤ 9223372036854775807) ∧ (Rq w v1 Un ∧ Un.length ≤ 9223372036854775807) ∧ (Rq w v2 Ar ∧ Ar.length ≤ 9223372036854775807) ∧ (Rq w v3 St ∧ St.length ≤ 9223372036854775807) ∧ (Rq w v4 Re ∧ Re.length ≤ 9223372036854775807) ∧ (Rq w v5 Li ∧ Li.length ≤ 9223372036854775807) := by
  obtain ⟨cs, rfl, hsz⟩ := okWide_struct Tryd.underlying24 hv
  have h6 : cs.size = 6 := hsz.trans (by kernel_rfl)
  obtain ⟨l⟩ := cs
  match l, h6 with
  | [c0, c1, c2, c3, c4, c5], _ =>
    obtain ⟨fuel, hf⟩ := h
    obtain ⟨xs, n, _, hx, _, hlen, hg⟩ := DataW.trod_struct Tryd.underlying24 hf
    match xs, hlen with
    | [y0, y1, y2, y3, y4, y5], _ =>
      have e0 : DataW.trod enc Tryd.prog w base spare held n 22 [c0] = some y0 := hg 0 _ rfl
      have e1 : DataW.trod enc Tryd.prog w base spare held n 22 [c1] = some y1 := hg 1 _ rfl
      have e2 : DataW.trod enc Tryd.prog w base spare held n 22 [c2] = some y2 := hg 2 _ rfl
      have e3 : DataW.trod enc Tryd.prog w base spare held n 22 [c3] = some y3 := hg 3 _ rfl
      have e4 : DataW.trod enc Tryd.prog w base spare held n 22 [c4] = some y4 := hg 4 _ rfl
      have e5 : DataW.trod enc Tryd.prog w base spare held n 22 [c5] = some y5 := hg 5 _ rfl
      obtain ⟨x0, q0⟩ := rq_open e0
      obtain ⟨x1, q1⟩ := rq_open e1
      obtain ⟨x2, q2⟩ := rq_open e2
      obtain ⟨x3, q3⟩ := rq_open e3
      obtain ⟨x4, q4⟩ := rq_open e4
      obtain ⟨x5, q5⟩ := rq_open e5
      exact ⟨c0, c1, c2, c3, c4, c5, x0, x1, x2, x3, x4, x5, rfl, q0, q1, q2, q3, q4, q5⟩

set_option maxRecDepth 100000 in
theorem contract (H : Type) (enc : TypeId × Value → H) (W : World) (base : Nat) (args : Array Value) (ds gs : List (DataW H)) (before : List MemPlace)
    (hval : ∀ (j : Nat) t v, Tryd.f3.params[j]? = some t → args[j]? = some v → Value.okWide Tryd.prog W .any base t v)
    (hW : DataW.Whole enc Tryd.prog Tryd.f3.params.toList Rows.tagsTablesSpec.vars false W args.toList ds gs before) (hsh : W.ShapedOpen Tryd.prog) :
    Calls Tryd.prog 3 args W fun e W' => ∃ v, e = .returned v ∧ Rows.tagsTablesSpec.post enc Tryd.prog Tryd.f3 false true false false W args v W' := by
  have hW' := hW
  obtain ⟨p, q, hA0, hV, rfl, hfz, hnd⟩ := hW
  have hA : DataW.TrodAll enc Tryd.prog W 0 (fun _ => true) true Tryd.f3.params.toList args.toList ds p := hA0
  rw [Tryd.params3] at hA hval
  obtain ⟨v0, vs0, d0, ds0, p0, q0, hargs, rfl, rfl, h0, r0⟩ := trodAll_cons hA
  obtain ⟨v1, vs1, d1, ds1, p1, q1, hargs1, rfl, rfl, h1, r1⟩ := trodAll_cons r0
  obtain ⟨v2, vs2, d2, ds2, p2, q2, hargs2, rfl, rfl, h2, r2⟩ := trodAll_cons r1
  obtain ⟨v3, vs3, d3, ds3, p3, q3, hargs3, rfl, rfl, h3, r3⟩ := trodAll_cons r2
  obtain ⟨v4, vs4, d4, ds4, p4, q4, hargs4, rfl, rfl, h4, r4⟩ := trodAll_cons r3
  obtain ⟨v5, vs5, d5, ds5, p5, q5, hargs5, rfl, rfl, h5, r5⟩ := trodAll_cons r4
  obtain ⟨rfl, rfl, rfl⟩ := trodAll_nil r5
  subst hargs1 hargs2 hargs3 hargs4 hargs5
  obtain rfl : args = #[v0, v1, v2, v3, v4, v5] := by cases args; simp_all
  obtain ⟨rfl, rfl⟩ := trodVars_none hV
  have k0 := h0
  have k1 := h1
  have k2 := h2
  have k3 := h3
  have k4 := h4
  have k5 := h5
  have hlt : ∀ x ∈ p0 ++ (p1 ++ (p2 ++ (p3 ++ (p4 ++ (p5 ++ []))))), x.block < W.heap.size := fun x hx => hW'.lt x (by simpa using hx)
  obtain ⟨a0, a1, a2, a3, a4, a5, OS, Un, Ar, St, Re, Li, rfl, ⟨b0, n0⟩, ⟨b1, n1⟩, ⟨b2, n2⟩, ⟨b3, n3⟩, ⟨b4, n4⟩, ⟨b5, n5⟩⟩ := open_tables (hval 0 24 v0 rfl rfl) h0
  obtain ⟨name, rfl, _, _⟩ := ChangeMaps.open_string Tryd.underlying9 (hval 1 9 v1 rfl rfl) h1
  obtain ⟨os, rfl, _, _⟩ := ChangeMaps.open_string Tryd.underlying9 (hval 2 9 v2 rfl rfl) h2
  obtain ⟨arch, rfl, _, _⟩ := ChangeMaps.open_string Tryd.underlying9 (hval 3 9 v3 rfl rfl) h3
  obtain ⟨rel, rfl, _, _, hwf⟩ := open_int Tryd.underlying3 (hval 4 3 v4 rfl rfl) h4
  obtain ⟨A5, l5, c5, rfl⟩ := okWide_slice Tryd.underlying22 (hval 5 22 v5 rfl rfl)
  obtain ⟨fuel5, f5⟩ := h5
  obtain ⟨more, bm, nm⟩ := rq_open (show DataW.trod enc Tryd.prog W 0 (fun _ => true) true fuel5 22 [.slice A5 l5 c5] = some (d5, p5) from f5)
  obtain ⟨m, hm⟩ := cell_of_shapedOpen_int (g := 0) (zero := #[.int .i64 0]) (k := .i64) hsh (of_decide_eq_true (by kernel_rfl)) (by kernel_rfl) rfl (by kernel_rfl) (by kernel_rfl) Tryd.underlying3
  have hrel : -9223372036854775808 ≤ rel ∧ rel < 9223372036854775808 := by
    simp [Lit.wf, IntKind.min, IntKind.max, IntKind.signed, IntKind.bits] at hwf
    omega
  clear hA0 hA r0 r1 r2 r3 r4 r5 h0 h1 h2 h3 h4 f5
  refine (Tags.tagsTables a0 a1 a2 a3 a4 a5 _ OS Un Ar St Re Li more name os arch rel m W b0 b1 b2 b3 b4 b5 bm hm hrel.1 hrel.2 n0 n1 n2 n3 n4 n5 nm).mono fun e' W' ⟨he, bel⟩ => ?_
  subst he
  have t0 := Below.trod laidOut (by kernel_rfl) (of_decide_eq_true (by kernel_rfl)) k0 bel (fun x hx => hlt x (by simp [hx]))
  have t1 := Below.trod laidOut (by kernel_rfl) (of_decide_eq_true (by kernel_rfl)) k1 bel (fun x hx => hlt x (by simp [hx]))
  have t2 := Below.trod laidOut (by kernel_rfl) (of_decide_eq_true (by kernel_rfl)) k2 bel (fun x hx => hlt x (by simp [hx]))
  have t3 := Below.trod laidOut (by kernel_rfl) (of_decide_eq_true (by kernel_rfl)) k3 bel (fun x hx => hlt x (by simp [hx]))
  have t4 := Below.trod laidOut (by kernel_rfl) (of_decide_eq_true (by kernel_rfl)) k4 bel (fun x hx => hlt x (by simp [hx]))
  have t5 := Below.trod laidOut (by kernel_rfl) (of_decide_eq_true (by kernel_rfl)) k5 bel (fun x hx => hlt x (by simp [hx]))
  exact ⟨_, rfl, _, _, _, [], _, [], hW', trodAll_mk1 (shut_bool Tryd.underlying4 _), trodAll_cons_mk t0 (trodAll_cons_mk t1 (trodAll_cons_mk t2 (trodAll_cons_mk t3 (trodAll_cons_mk t4 (trodAll_cons_mk t5 trodAll_mk0))))), rfl, bel.frame _, fun h => by cases h⟩

/-- A world for the witness: the settled one, the listed variables holding what their initialisers lay. -/
noncomputable def laidWorld (os : Os) : World :=
  let w0 := World.holding Tryd.prog os ⟨#[], #[], []⟩
  { w0 with heap := (w0.heap.modify 1 fun
      | .cells _ t frozen => .cells (Go.Pinned.utf8FirstZ.map fun (n : Nat) => Value.int .u8 (n : Int)).toArray t frozen
      | o => o).modify 2 fun
      | .cells _ t frozen => .cells (([128, 191, 160, 191, 128, 159, 144, 191, 128, 143, 0, 0, 0, 0, 0, 0, 0, 0, 0, 0, 0, 0, 0, 0, 0, 0, 0, 0, 0, 0, 0, 0] : List Int).map (Value.int .u8)).toArray t frozen
      | o => o }
def zeros : Array Value := #[.agg #[.slice none 0 0, .slice none 0 0, .slice none 0 0, .slice none 0 0, .slice none 0 0, .slice none 0 0], .string ⟨#[]⟩, .string ⟨#[]⟩, .string ⟨#[]⟩, .int .i64 0, .slice none 0 0]
set_option maxRecDepth 100000 in
theorem laid_met (os : Os) : laidMet Tryd.prog Rows.tagsTablesRow.laid ((laidWorld os).forCall (fun _ _ => 0) ⟨#[], zeros, []⟩).memory :=
  laidMet_of_run3 8 (by kernel_rfl) (by kernel_rfl) (by kernel_rfl)
set_option maxRecDepth 100000 in
theorem reads (os : Os) {H : Type} (enc : TypeId × Value → H) : ∃ places, DataW.whole enc Tryd.prog ((laidWorld os).forCall (fun _ _ => 0) ⟨#[], zeros, []⟩).memory Tryd.f3.params.toList Rows.tagsTablesSpec.vars false zeros.toList 8 = some ([.agg [.nil, .nil, .nil, .nil, .nil, .nil], .lit (.string []), .lit (.string []), .lit (.string []), .lit (.int .i64 0), .nil], [], places) :=
  ⟨[], by kernel_rfl⟩
set_option maxRecDepth 100000 in
theorem lifted (os : Os) (started : os.Started) (H : Type) (enc : TypeId × Value → H) (F : Stop.Interp) :
    ReturnsInHanded {} Tryd.checked os 3 .any ((OpenSpec.ofChange Rows.tagsTablesSpec).preRow enc Tryd.prog Tryd.f3 Rows.tagsTablesRow.domain false Rows.tagsTablesRow.laid) (((OpenSpec.ofChange Rows.tagsTablesSpec).at F).post enc Tryd.prog Tryd.f3 false true false false) := by
  obtain ⟨places, hx⟩ := reads os enc
  refine returnsInHanded_of_row (C := Tryd.checked) (s := OpenSpec.ofChange Rows.tagsTablesSpec) own started (by kernel_rfl) Tryd.func3
    (witness_row_at (enc := enc) (C := Tryd.checked) false (laidWorld os) zeros rfl (by kernel_rfl) (by kernel_rfl) (by kernel_rfl)
      (OpenSpec.preRow_of_cond 8 hx (by kernel_rfl) (fun k hk => by cases hk) (by kernel_rfl) (laid_met os))) ?_
  intro W base args ds gs before hval hW _ _ _ _ hsh _
  exact contract H enc W base args ds gs before hval hW hsh
theorem said : Rows.TagsTablesSaid :=
  OpenClaim.holds_of_cond 3 Tryd.f3 rfl rfl rfl rfl rfl rfl rfl ⟨rfl, rfl, rfl, rfl, rfl⟩ rfl rfl rfl rfl rfl (by kernel_rfl) Tryd.func3 (by kernel_rfl)
    (of_decide_eq_true (by kernel_rfl)) (by unfold Func.isWrapper; first | (rw [if_pos (by decide +kernel)]; kernel_rfl) | (rw [if_neg (by decide +kernel)]; exact ⟨rfl, rfl⟩))
    (fun os started H enc _ F => by rw [OpenClaim.pre_eq_preRow]; exact lifted os started H enc F)
/-- No parameter wants a stand-in; the program's own looks are off. -/
theorem plain (f : FuncId) (fn : Func) (hf : Tryd.pinned.checked.prog.funcNamed "graftbed/graftbedlaw14.TagsTables" = some f) (hfn : Tryd.pinned.checked.prog.funcs[f]? = some fn) :
    true = Tryd.pinned.checked.prog.looks [] ∧ ∀ (j : Nat) t, fn.params[j]? = some t → Tryd.pinned.checked.prog.wantsStandIn t = false := by
  obtain rfl : f = 3 := Option.some.inj ((show Tryd.prog.funcNamed "graftbed/graftbedlaw14.TagsTables" = some 3 by kernel_rfl).symm.trans hf) |>.symm
  obtain rfl : fn = Tryd.f3 := (Option.some.inj (Tryd.func3.symm.trans hfn)).symm
  refine ⟨by kernel_rfl, fun j t ht => ?_⟩
  rw [Tryd.params3] at ht
  have h := Array.mem_of_getElem? ht
  simp at h
  have w0 : Tryd.prog.wantsStandIn 24 = false := by kernel_rfl
  have w1 : Tryd.prog.wantsStandIn 9 = false := by kernel_rfl
  have w2 : Tryd.prog.wantsStandIn 3 = false := by kernel_rfl
  have w3 : Tryd.prog.wantsStandIn 22 = false := by kernel_rfl
  rcases h with rfl | rfl | rfl | rfl
  · exact w0
  · exact w1
  · exact w2
  · exact w3
theorem card : Rows.TagsTablesCardSaid :=
  Claim7.holds_tied_plain_at .later [] _ _ _ _ said (fun _ h => by cases h) (by kernel_rfl) (fun _ h => by cases h) tagsTables_row_tie rfl ⟨rfl, rfl⟩ (by kernel_rfl) rfl plain (by kernel_rfl)
#print axioms card
end Go.Proofs.YtcfmaeonginefaaDoor.tagsTables
namespace Go.Proofs.YtcfmaeonginefaaDoor
/-- The card, under a short name, for the claim. -/
theorem tagsTablesCard_holds : Rows.TagsTablesCardSaid := tagsTables.card
end Go.Proofs.YtcfmaeonginefaaDoor

/- CacheMods: of any two modules the names, the order, and whether they may be, is the document's; of three the order goes on. The card of graftbedlaw07.CacheMods. For every input; the listed package-level variables of the library start as the program's text lays them (the card ties them). -/
import Derived.Test.YtcfmaeonginefaaGreatDoorMods
import Derived.Test.YtcfmaeonginefaaGreatDoorCards
import Derived.Test.YtcfmaeonginefaaGreatDoorTie
import Derived.WalkKit
import Derived.ProofKit
import Derived.OpenShut
import Derived.Deep.DeepHandedRow
import Derived.Deep.DeepLaidRun
import Derived.Lib.LaidTab
import Derived.Lib.SmallJoins
namespace Go.Proofs.YtcfmaeonginefaaGreatDoor.cacheMods
open Go.ChangeShapes Go.WideShapes Go.ChangeAt Go.RowKit Go.Joins Go.Deep
open Go.ChangeMaps (shut_string)
set_option linter.unusedVariables false

theorem own : ownKnob Tryz.prog.godebug = none := by kernel_rfl
set_option maxRecDepth 100000 in
/-- A module as an argument. -/
theorem open_mod {H : Type} {enc : TypeId × Value → H} {w : World} {base : Nat} {spare : Nat → Bool} {held : Bool} {r : Reach} {b0 : Nat} {v : Value} {d : DataW H} {p : List MemPlace}
    (hv : Value.okWide Tryz.prog w r b0 23 v) (h : DataW.Trod enc Tryz.prog w base spare held 23 v d p) :
    ∃ a b : ByteArray, v = .agg #[.string a, .string b] ∧ d = .agg [.lit (.string a.data.toList), .lit (.string b.data.toList)] ∧ p = [] ∧ a.size ≤ maxLen ∧ b.size ≤ maxLen := by
  obtain ⟨v0, v1, y0, y1, n, rfl, rfl, rfl, h0, h1⟩ := open_agg2 Tryz.underlying23 (by kernel_rfl) (by kernel_rfl) hv h
  obtain ⟨a, ha, rfl, za⟩ := DataW.trod_string Tryz.underlying9 h0
  obtain ⟨b, hb, rfl, zb⟩ := DataW.trod_string Tryz.underlying9 h1
  obtain rfl : v0 = .string a := by simpa using ha
  obtain rfl : v1 = .string b := by simpa using hb
  exact ⟨a, b, rfl, rfl, rfl, za, zb⟩
set_option maxRecDepth 100000 in
theorem shut_mod {H : Type} {enc : TypeId × Value → H} {w : World} {base : Nat} {spare : Nat → Bool} {held : Bool} {a b : ByteArray} (za : a.size ≤ maxLen) (zb : b.size ≤ maxLen) :
    DataW.Trod enc Tryz.prog w base spare held 23 (.agg #[.string a, .string b]) (.agg [.lit (.string a.data.toList), .lit (.string b.data.toList)]) [] := by
  obtain ⟨n0, h0⟩ : DataW.Trod enc Tryz.prog w base spare held 9 (.string a) (.lit (.string a.data.toList)) [] := shut_string Tryz.underlying9 za
  obtain ⟨n1, h1⟩ : DataW.Trod enc Tryz.prog w base spare held 9 (.string b) (.lit (.string b.data.toList)) [] := shut_string Tryz.underlying9 zb
  have := shut_agg2 (enc := enc) (w := w) (base := base) (spare := spare) (held := held) (v0 := .string a) (v1 := .string b) (y0 := (.lit (.string a.data.toList), [])) (y1 := (.lit (.string b.data.toList), [])) Tryz.underlying23 (by kernel_rfl) (by kernel_rfl) ⟨_, h0⟩ ⟨_, h1⟩
  exact this

set_option maxRecDepth 100000 in
theorem contract (H : Type) (enc : TypeId × Value → H) (W : World) (base : Nat) (args : Array Value) (ds gs : List (DataW H)) (before : List MemPlace)
    (hval : ∀ (j : Nat) t v, Tryz.f3.params[j]? = some t → args[j]? = some v → Value.okWide Tryz.prog W .any base t v)
    (hW : DataW.Whole enc Tryz.prog Tryz.f3.params.toList Rows.cacheModsSpec.vars false W args.toList ds gs before) :
    Calls Tryz.prog 3 args W fun e W' => ∃ v, e = .returned v ∧ Rows.cacheModsSpec.post enc Tryz.prog Tryz.f3 false true false false W args v W' := by
  have hW' := hW
  obtain ⟨p, q, hA0, hV, rfl, hfz, hnd⟩ := hW
  have hA : DataW.TrodAll enc Tryz.prog W 0 (fun _ => true) true Tryz.f3.params.toList args.toList ds p := hA0
  rw [Tryz.params3] at hA hval
  obtain ⟨v0, vs0, d0, ds0, p0, q0, hargs, rfl, rfl, h0, r0⟩ := trodAll_cons hA
  obtain ⟨v1, vs1, d1, ds1, p1, q1, hargs1, rfl, rfl, h1, r1⟩ := trodAll_cons r0
  obtain ⟨v2, vs2, d2, ds2, p2, q2, hargs2, rfl, rfl, h2, r2⟩ := trodAll_cons r1
  obtain ⟨rfl, rfl, rfl⟩ := trodAll_nil r2
  subst hargs1 hargs2
  obtain rfl : args = #[v0, v1, v2] := by cases args; simp_all
  obtain ⟨rfl, rfl⟩ := trodVars_none hV
  obtain ⟨a, b, rfl, rfl, rfl, za, zb⟩ := open_mod (hval 0 23 v0 rfl rfl) h0
  obtain ⟨c, d, rfl, rfl, rfl, zc, zd⟩ := open_mod (hval 1 23 v1 rfl rfl) h1
  obtain ⟨e, f, rfl, rfl, rfl, ze, zf⟩ := open_mod (hval 2 23 v2 rfl rfl) h2
  clear hA0 hA r0 r1 r2 h0 h1 h2
  refine (Mods.mods a b c d e f W).mono fun e' W' ⟨he, bel⟩ => ?_
  subst he
  exact ⟨_, rfl, _, _, _, [], _, [], hW', trodAll_mk1 (shut_bool Tryz.underlying4 _), trodAll_cons_mk (shut_mod za zb) (trodAll_cons_mk (shut_mod zc zd) (trodAll_cons_mk (shut_mod ze zf) trodAll_mk0)), rfl, bel.frame _, fun h => by cases h⟩

/-- A world for the witness: the settled one, the listed variables holding what their initialisers lay. -/
noncomputable def low : Nat := (World.holding Tryz.prog default ⟨#[], #[], []⟩).heap.size
def u8s (l : List Int) : Array Value := (l.map (Value.int .u8)).toArray
def u64s (l : List Int) : Array Value := (l.map (Value.int .u64)).toArray
noncomputable def laidWorld (os : Os) : World :=
  let w0 := World.holding Tryz.prog os ⟨#[.cells #[.string ⟨#[118, 97, 108, 117, 101, 32, 111, 117, 116, 32, 111, 102, 32, 114, 97, 110, 103, 101]⟩] 154, .cells #[.string ⟨#[105, 110, 118, 97, 108, 105, 100, 32, 115, 121, 110, 116, 97, 120]⟩] 154], #[], []⟩
  { w0 with heap := ((((w0.heap.modify 2 fun
      | .cells _ t frozen => .cells #[.iface 152 (.pointer (some ⟨low, 0, none⟩))] t frozen
      | o => o).modify 1 fun
      | .cells _ t frozen => .cells #[.iface 152 (.pointer (some ⟨low + 1, 0, none⟩))] t frozen
      | o => o).modify 3 fun
      | .cells _ t frozen => .cells (u64s [1, 10, 100, 1000, 10000, 100000, 1000000, 10000000, 100000000, 1000000000, 10000000000, 100000000000, 1000000000000, 10000000000000, 100000000000000, 1000000000000000, 10000000000000000, 100000000000000000, 1000000000000000000, 10000000000000000000]) t frozen
      | o => o).modify 4 fun
      | .cells _ t frozen => .cells (u8s [0, 1, 28, 2, 29, 14, 24, 3, 30, 22, 20, 15, 25, 17, 4, 8, 31, 27, 13, 23, 21, 19, 16, 7, 26, 12, 18, 6, 11, 5, 10, 9]) t frozen
      | o => o).modify 5 fun
      | .cells _ t frozen => .cells (u8s [0, 1, 56, 2, 57, 49, 28, 3, 61, 58, 42, 50, 38, 29, 17, 4, 62, 47, 59, 36, 45, 43, 51, 22, 53, 39, 33, 30, 24, 18, 12, 5, 63, 55, 48, 27, 60, 41, 37, 16, 46, 35, 44, 21, 52, 32, 23, 11, 54, 26, 40, 15, 34, 20, 31, 10, 25, 14, 19, 9, 13, 8, 7, 6]) t frozen
      | o => o }
def zeroMod : Value := .agg #[.string ⟨#[]⟩, .string ⟨#[]⟩]
set_option maxRecDepth 100000 in
theorem laid_met (os : Os) : laidMet Tryz.prog Rows.cacheModsRow.laid ((laidWorld os).forCall (fun _ _ => 0) ⟨#[], #[zeroMod, zeroMod, zeroMod], []⟩).memory :=
  laidMet_of_run3 8 (by kernel_rfl) (by kernel_rfl) (by kernel_rfl)
set_option maxRecDepth 100000 in
theorem reads (os : Os) {H : Type} (enc : TypeId × Value → H) : ∃ places, DataW.whole enc Tryz.prog ((laidWorld os).forCall (fun _ _ => 0) ⟨#[], #[zeroMod, zeroMod, zeroMod], []⟩).memory Tryz.f3.params.toList Rows.cacheModsSpec.vars false #[zeroMod, zeroMod, zeroMod].toList 8 = some ([.agg [.lit (.string []), .lit (.string [])], .agg [.lit (.string []), .lit (.string [])], .agg [.lit (.string []), .lit (.string [])]], [], places) :=
  ⟨[], by kernel_rfl⟩
set_option maxRecDepth 100000 in
theorem lifted (os : Os) (started : os.Started) (H : Type) (enc : TypeId × Value → H) (F : Stop.Interp) :
    ReturnsInHanded {} Tryz.checked os 3 .any ((OpenSpec.ofChange Rows.cacheModsSpec).preRow enc Tryz.prog Tryz.f3 Rows.cacheModsRow.domain false Rows.cacheModsRow.laid) (((OpenSpec.ofChange Rows.cacheModsSpec).at F).post enc Tryz.prog Tryz.f3 false true false false) := by
  obtain ⟨places, hx⟩ := reads os enc
  refine returnsInHanded_of_row (C := Tryz.checked) (s := OpenSpec.ofChange Rows.cacheModsSpec) own started (by kernel_rfl) Tryz.func3
    (witness_row_at (enc := enc) (C := Tryz.checked) false (laidWorld os) #[zeroMod, zeroMod, zeroMod] rfl (by kernel_rfl) (by kernel_rfl) (by kernel_rfl)
      (OpenSpec.preRow_of_cond 8 hx (by kernel_rfl) (fun k hk => by cases hk) (by kernel_rfl) (laid_met os))) ?_
  intro W base args ds gs before hval hW _ _ _ hL _ _
  exact contract H enc W base args ds gs before hval hW
theorem said : Rows.CacheModsSaid :=
  OpenClaim.holds_of_cond 3 Tryz.f3 rfl rfl rfl rfl rfl rfl rfl ⟨rfl, rfl, rfl, rfl, rfl⟩ rfl rfl rfl rfl rfl (by kernel_rfl) Tryz.func3 (by kernel_rfl)
    (of_decide_eq_true (by kernel_rfl)) (by unfold Func.isWrapper; first | (rw [if_pos (by decide +kernel)]; kernel_rfl) | (rw [if_neg (by decide +kernel)]; exact ⟨rfl, rfl⟩))
    (fun os started H enc _ F => by rw [OpenClaim.pre_eq_preRow]; exact lifted os started H enc F)
/-- No parameter wants a stand-in; the program's own looks are off. -/
theorem plain (f : FuncId) (fn : Func) (hf : Tryz.pinned.checked.prog.funcNamed "graftbed/graftbedlaw07.CacheMods" = some f) (hfn : Tryz.pinned.checked.prog.funcs[f]? = some fn) :
    true = Tryz.pinned.checked.prog.looks [] ∧ ∀ (j : Nat) t, fn.params[j]? = some t → Tryz.pinned.checked.prog.wantsStandIn t = false := by
  obtain rfl : f = 3 := Option.some.inj ((show Tryz.prog.funcNamed "graftbed/graftbedlaw07.CacheMods" = some 3 by kernel_rfl).symm.trans hf) |>.symm
  obtain rfl : fn = Tryz.f3 := (Option.some.inj (Tryz.func3.symm.trans hfn)).symm
  refine ⟨by kernel_rfl, fun j t ht => ?_⟩
  rw [Tryz.params3] at ht
  obtain rfl : t = 23 := by simpa using Array.mem_of_getElem? ht
  exact (show Tryz.prog.wantsStandIn 23 = false by kernel_rfl)
theorem card : Rows.CacheModsCardSaid :=
  Claim7.holds_tied_plain_at .later [] _ _ _ _ said (fun _ h => by cases h) (by kernel_rfl) (fun _ h => by cases h) cacheMods_row_tie rfl ⟨rfl, rfl⟩ (by kernel_rfl) rfl plain (by kernel_rfl)
#print axioms card
end Go.Proofs.YtcfmaeonginefaaGreatDoor.cacheMods
namespace Go.Proofs.YtcfmaeonginefaaGreatDoor
/-- The card, under a short name, for the claim. -/
theorem cacheModsCard_holds : Rows.CacheModsCardSaid := cacheMods.card
end Go.Proofs.YtcfmaeonginefaaGreatDoor

/- Entries of a cache in memory: how a slice of them reads. -/
import Derived.Test.YtcfmaeonginefaaGreatDoorMade
namespace Go.Proofs.YtcfmaeonginefaaGreatDoor.Row7
open Go Go.RowKit Go.Shelf Go.Proofs.YtcfmaeonginefaaGreatDoor.Seq Go.Proofs.YtcfmaeonginefaaGreatDoor.Made
set_option linter.unusedSimpArgs false
set_option linter.unusedVariables false

/-- An entry: its module, its go.mod file, the value of its files, and what these are. -/
structure En where
  p : ByteArray
  v : ByteArray
  g : ByteArray
  fv : Value
  fl : List (ByteArray × ByteArray)
def En.mod (e : En) : ByteArray × ByteArray := (e.p, e.v)
/-- A slice of files reads, wherever in its block it begins. -/
def RF (w : World) (x : Value) (fl : List (ByteArray × ByteArray)) : Prop :=
  ∃ (A : Option Addr) (c : Nat), x = .slice A fl.length c ∧ (A = none → c = 0) ∧ fl.length ≤ c ∧ fl.length ≤ 9223372036854775807 ∧ ∀ (i : Nat) (h : i < fl.length), ∃ g o : Nat, A = some ⟨g, o, none⟩ ∧ w.cell? ⟨g, o + i * 2, none⟩ = some (.string fl[i].1) ∧ w.cell? ⟨g, o + i * 2 + 1, none⟩ = some (.string fl[i].2)
/-- A slice of entries reads, wherever in its block it begins; nothing is said of their files. -/
def RE0 (w : World) (x : Value) (es : List En) : Prop :=
  ∃ (A : Option Addr) (c : Nat), x = .slice A es.length c ∧ (A = none → c = 0) ∧ es.length ≤ c ∧ es.length ≤ 9223372036854775807 ∧ ∀ (i : Nat) (h : i < es.length), ∃ g o : Nat, A = some ⟨g, o, none⟩ ∧ w.cell? ⟨g, o + i * 4, none⟩ = some (.string es[i].p) ∧ w.cell? ⟨g, o + i * 4 + 1, none⟩ = some (.string es[i].v) ∧
    w.cell? ⟨g, o + i * 4 + 2, none⟩ = some (.string es[i].g) ∧ w.cell? ⟨g, o + i * 4 + 3, none⟩ = some es[i].fv
/-- .. and so do their files. -/
def RE (w : World) (x : Value) (es : List En) : Prop := RE0 w x es ∧ ∀ e ∈ es, RF w e.fv e.fl
theorem cell_lt {w : World} {g o : Nat} {v : Value} (h : w.cell? ⟨g, o, none⟩ = some v) : g < w.heap.size := by
  rcases Nat.lt_or_ge g w.heap.size with h' | h'
  · exact h'
  · exfalso
    simp [World.cell?, Array.getElem?_eq_none h'] at h
theorem cellK {W W' : World} {b i : Nat} {v : Value} (h : W.cell? ⟨b, i, none⟩ = some v) (hb : Below W.heap.size W W') : W'.cell? ⟨b, i, none⟩ = some v := (hb.cell (p := ⟨b, i, none⟩) (cell_lt h)).trans h
theorem rf_keep {w w' : World} {x : Value} {fl : List (ByteArray × ByteArray)} (h : RF w x fl) (hk : ∀ b i v, w.cell? ⟨b, i, none⟩ = some v → w'.cell? ⟨b, i, none⟩ = some v) : RF w' x fl := by
  obtain ⟨A, c, rfl, hA, hc, hm, hr⟩ := h
  refine ⟨A, c, rfl, hA, hc, hm, fun i hi => ?_⟩
  obtain ⟨g, o, hg, h0, h1⟩ := hr i hi
  exact ⟨g, o, hg, hk _ _ _ h0, hk _ _ _ h1⟩
theorem re0_keep {w w' : World} {x : Value} {es : List En} (h : RE0 w x es) (hk : ∀ b i v, w.cell? ⟨b, i, none⟩ = some v → w'.cell? ⟨b, i, none⟩ = some v) : RE0 w' x es := by
  obtain ⟨A, c, rfl, hA, hc, hm, hr⟩ := h
  refine ⟨A, c, rfl, hA, hc, hm, fun i hi => ?_⟩
  obtain ⟨g, o, hg, h0, h1, h2, h3⟩ := hr i hi
  exact ⟨g, o, hg, hk _ _ _ h0, hk _ _ _ h1, hk _ _ _ h2, hk _ _ _ h3⟩
theorem re_keep {w w' : World} {x : Value} {es : List En} (h : RE w x es) (hk : ∀ b i v, w.cell? ⟨b, i, none⟩ = some v → w'.cell? ⟨b, i, none⟩ = some v) : RE w' x es :=
  ⟨re0_keep h.1 hk, fun e he => rf_keep (h.2 e he) hk⟩
theorem re0_below {w w' : World} {x : Value} {es : List En} (h : RE0 w x es) (hb : Below w.heap.size w w') : RE0 w' x es := re0_keep h fun _ _ _ k => cellK k hb
theorem rf_below {w w' : World} {x : Value} {fl : List (ByteArray × ByteArray)} (h : RF w x fl) (hb : Below w.heap.size w w') : RF w' x fl := rf_keep h fun _ _ _ k => cellK k hb
theorem re_below {w w' : World} {x : Value} {es : List En} (h : RE w x es) (hb : Below w.heap.size w w') : RE w' x es := re_keep h fun _ _ _ k => cellK k hb
theorem re_drewN {w : World} {x : Value} {es : List En} (h : RE w x es) (q : Nat) : RE (w.drewN q) x es := re_keep h fun _ _ _ k => k
end Go.Proofs.YtcfmaeonginefaaGreatDoor.Row7

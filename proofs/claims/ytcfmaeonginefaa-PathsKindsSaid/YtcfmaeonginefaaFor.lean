/- What the printed functions take from outside: package paths, strings.IndexByte. -/
import Derived.Test.YtcfmaeonginefaaImport
import Derived.Test.YtcfmaeonginefaaWMore
import Derived.Test.YtcfmaeonginefaaWNEv
namespace Go.Proofs.Ytcfmaeonginefaa.For
open Go Go.RowKit Go.Proofs.Ytcfmaeonginefaa.Seq Go.Proofs.Ytcfmaeonginefaa.Cut Go.Proofs.Ytcfmaeonginefaa.Elems Go.Proofs.Ytcfmaeonginefaa.Collect Go.Proofs.Ytcfmaeonginefaa.Paths Go.Proofs.Ytcfmaeonginefaa.Module Go.Proofs.Ytcfmaeonginefaa.Import Go.Proofs.YtcfmaeonginefaaW.PrintWords

/-- Texts in a row of the call's own. -/
theorem strings_R {w : World} {base e : Nat} {v : Value} {xs : List ByteArray} (h : w.ownsRow base e 1 v xs.length (xs.map Value.string)) : Kd.R Kd.string e w base (fun _ => True) v xs :=
  ⟨fun _ _ => trivial, xs.map Value.string, h, by simp [Kd.string, Kd.scalar], fun j p hj => by
    obtain ⟨hlt, rfl⟩ := List.getElem?_eq_some_iff.1 hj
    simp [Kd.string, Kd.scalar, List.take_one, List.head?_drop, hj]⟩

def strings_IndexByte.f (a0 : ByteArray) (a1 : Int) : Option Int := some (ix a0 a1.toNat.toUInt8)
theorem strings_IndexByte.calls (a0 : ByteArray) (a1 : Int) (r : Int) (w : World) (h : strings_IndexByte.f a0 a1 = some r) :
    Calls Try.prog 20 #[.string a0, .int .u8 a1] w fun e w' => e = .returned (.int .i64 r) ∧ Drawn0 w w' := by
  obtain rfl := Option.some.inj h
  exact (idxB a0 a1 w).mono fun e w' ⟨he, hw⟩ => ⟨he, hw ▸ Drawn0.refl _⟩

def paths_Elems.f (a0 : ByteArray) : Option (List ByteArray) := if a0.size ≤ 1048576 then some (elemsB a0) else none
theorem paths_Elems.calls (a0 : ByteArray) (r : List ByteArray) (w : World) (h : paths_Elems.f a0 = some r) :
    Calls Try.prog 6 #[.string a0] w fun e w' => ∃ v0_ : Value, e = .returned (v0_) ∧ Kd.R Kd.string 9 w' w.heap.size (fun _ => True) v0_ r ∧ Below w.heap.size w w' := by
  unfold paths_Elems.f at h
  split at h
  · obtain rfl := Option.some.inj h
    rename_i hs
    exact (Collect.Elems a0 hs w).mono fun e w' ⟨v, he, h1, h2⟩ => ⟨v, he, strings_R h1, h2⟩
  · cases h

def paths_Valid.f (a0 : ByteArray) : Option Bool := if a0.size ≤ 1048576 then some (validB a0) else none
theorem paths_Valid.calls (a0 : ByteArray) (r : Bool) (w : World) (h : paths_Valid.f a0 = some r) :
    Calls Try.prog 8 #[.string a0] w fun e w' => e = .returned (.bool r) ∧ Below w.heap.size w w' := by
  unfold paths_Valid.f at h
  split at h
  · obtain rfl := Option.some.inj h
    rename_i hs
    exact Module.Valid a0 hs w
  · cases h

def paths_Module.f (a0 : ByteArray) : Option Int := if a0.size ≤ 1048576 then some (errB (moduleB a0)) else none
theorem paths_Module.calls (a0 : ByteArray) (r : Int) (w : World) (h : paths_Module.f a0 = some r) :
    Calls Try.prog 10 #[.string a0] w fun e w' => e = .returned (.int .i64 r) ∧ Below w.heap.size w w' := by
  unfold paths_Module.f at h
  split at h
  · obtain rfl := Option.some.inj h
    rename_i hs
    exact Import.Module a0 hs w
  · cases h

def paths_Import.f (a0 : ByteArray) : Option Int := if a0.size ≤ 1048576 then some (errB (importB a0)) else none
theorem paths_Import.calls (a0 : ByteArray) (r : Int) (w : World) (h : paths_Import.f a0 = some r) :
    Calls Try.prog 12 #[.string a0] w fun e w' => e = .returned (.int .i64 r) ∧ Below w.heap.size w w' := by
  unfold paths_Import.f at h
  split at h
  · obtain rfl := Option.some.inj h
    rename_i hs
    exact Import.Import a0 hs w
  · cases h
end Go.Proofs.Ytcfmaeonginefaa.For

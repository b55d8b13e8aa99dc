/- graftbedlaw14.tables, graftbedlaw14.shown: what they answer. -/
import Derived.Test.YtcfmaeonginefaaDoorSuffix
import Derived.Test.YtcfmaeonginefaaDoorSource
namespace Go.Proofs.YtcfmaeonginefaaDoor.Shown
open Go Go.RowKit Go.Proofs.YtcfmaeonginefaaDoor.Made Go.Proofs.YtcfmaeonginefaaDoor.Base Go.Proofs.YtcfmaeonginefaaDoor.Sets Go.Proofs.YtcfmaeonginefaaDoor.Of Go.Proofs.YtcfmaeonginefaaDoor.Check Go.Proofs.YtcfmaeonginefaaDoor.Source Go.Proofs.YtcfmaeonginefaaDoor.Suffix
set_option linter.unusedSimpArgs false
set_option linter.unusedVariables false

theorem rq_two (w : World) (x y : ByteArray) (N : Nat) (hN : w.heap.size = N) : Rq (w.alloc (.cells #[.string x, .string y] 9)) (.slice (some ⟨N, 0, none⟩) 2 2) [x, y] := by
  subst hN
  exact rq_row (World.ownsRow_lit (base := w.heap.size) w #[.string x, .string y] 2 (Nat.le_refl _) (by decide) rfl)
theorem rq_one (w : World) (x : ByteArray) (N : Nat) (hN : w.heap.size = N) : Rq (w.alloc (.cells #[.string x] 9)) (.slice (some ⟨N, 0, none⟩) 1 1) [x] := by
  subst hN
  exact rq_row (World.ownsRow_lit (base := w.heap.size) w #[.string x] 1 (Nat.le_refl _) (by decide) rfl)
theorem rq_nil (w : World) : Rq w (.slice none 0 0) [] := ⟨none, 0, rfl, fun _ => rfl, Nat.le_refl _, fun i hi => absurd hi (by simp)⟩
abbrev go1 : ByteArray := ⟨#[103, 111, 49, 46, 49]⟩
abbrev go2 : ByteArray := ⟨#[103, 111, 49, 46, 50]⟩
abbrev linux : ByteArray := ⟨#[108, 105, 110, 117, 120]⟩
abbrev windows : ByteArray := ⟨#[119, 105, 110, 100, 111, 119, 115]⟩
abbrev amd64 : ByteArray := ⟨#[97, 109, 100, 54, 52]⟩
abbrev arm : ByteArray := ⟨#[97, 114, 109]⟩
set_option maxRecDepth 100000 in
set_option maxHeartbeats 2000000 in
theorem tables (w : World) : Calls Tryd.prog 23 #[] w fun e w' => ∃ v0 v1 v2 v4, e = .returned (.agg #[v0, v1, v2, .slice none 0 0, v4, .slice none 0 0]) ∧ Rq w' v0 [linux, windows] ∧ Rq w' v1 [linux] ∧ Rq w' v2 [amd64, arm] ∧ Rq w' v4 [go1, go2] ∧ Below w.heap.size w w' := by
  go_enter Tryd.func23, Tryd.ntmps23
  go_wp2
  have hB : Below w.heap.size w w := Below.refl _ _
  have hN : ∀ (X : World) (o : Obj), (X.alloc o).heap.size = X.heap.size + 1 := alloc_size
  refine bodyPost_ret (v := .agg #[.slice (some ⟨w.heap.size + 1, 0, none⟩) 2 2, .slice (some ⟨w.heap.size + 1 + 1, 0, none⟩) 1 1, .slice (some ⟨w.heap.size + 1 + 1 + 1, 0, none⟩) 2 2, .slice none 0 0, .slice (some ⟨w.heap.size + 1 + 1 + 1 + 1, 0, none⟩) 2 2, .slice none 0 0]) (by simp [results, Tryd.results23, go_sem]) rfl ⟨_, _, _, _, rfl, ?_, ?_, ?_, ?_, ?_⟩
  · refine rq_below (rq_two _ _ _ _ (by simp)) (((((Below.refl _ _).alloc (Nat.le_refl _) _).alloc (by simp) _).alloc (by simp <;> omega) _).alloc (by simp <;> omega) _)
  · refine rq_below (rq_one _ _ _ (by simp)) ((((Below.refl _ _).alloc (Nat.le_refl _) _).alloc (by simp) _).alloc (by simp <;> omega) _)
  · refine rq_below (rq_two _ _ _ _ (by simp)) (((Below.refl _ _).alloc (Nat.le_refl _) _).alloc (by simp) _)
  · refine rq_below (rq_two _ _ _ _ (by simp)) ((Below.refl _ _).alloc (Nat.le_refl _) _)
  · exact ((((((Below.refl _ _).alloc (Nat.le_refl _) _).alloc (by simp) _).alloc (by simp <;> omega) _).alloc (by simp; omega) _).alloc (by simp <;> omega) _).alloc (by simp; omega) _
abbrev nameS : ByteArray := ⟨#[97, 95, 108, 105, 110, 117, 120, 95, 97, 114, 109, 95, 116, 101, 115, 116, 46, 103, 111]⟩
theorem suf_shown : sufR [linux, windows] [amd64, arm] nameS = (linux, arm, true) := by decide +kernel
theorem src_shown : srcB ⟨#[97, 46, 103, 111]⟩ = true := by decide +kernel
set_option maxRecDepth 100000 in
set_option maxHeartbeats 2000000 in
theorem shown (m : Int) (w : World) (hm : w.cell? ⟨0, 0, none⟩ = some (.int .i64 m)) : Calls Tryd.prog 9 #[] w fun e w' => e = .returned (.bool true) ∧ Below w.heap.size w w' := by
  have f1 : Fit [linux, windows] := by unfold Fit; decide
  have f2 : Fit [amd64, arm] := by unfold Fit; decide
  go_enter Tryd.func9, Tryd.ntmps9
  go_wp2_with (first
    | (exfalso; rename_i hu _; simp [undef] at hu; done)
    | (go_at_call 16; refine (source ⟨#[97, 46, 103, 111]⟩ (by decide) _).mono ?_; rw [src_shown]; rintro e w' ⟨rfl, rfl⟩)
    | (go_at_call 10; refine (suffix _ _ _ _ _ _ [linux, windows] [linux] [amd64, arm] [] [go1, go2] [] nameS m _ h0 h1 h2 (rq_nil _) h4 (rq_nil _) f1 f2 (by decide) ((hb1.cell (p := ⟨0, 0, none⟩) (cell_lt hm)).trans hm)).mono ?_; rw [suf_shown]; rintro e w2 ⟨rfl, hb2⟩)
    | (go_at_call 23; refine (tables _).mono ?_; rintro e w1 ⟨v0, v1, v2, v4, rfl, h0, h1, h2, h4, hb1⟩))
  go_ret
  exact ⟨rfl, hb1.trans (hb2.mono hb1.size)⟩
end Go.Proofs.YtcfmaeonginefaaDoor.Shown

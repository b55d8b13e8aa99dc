/- graftbedref07.Find: what it answers. -/
import Derived.Test.YtcfmaeonginefaaGreatDoorFind7
import Derived.Deep.QuietTactic
import Derived.BigQuiet
namespace Go.Proofs.YtcfmaeonginefaaGreatDoor.FindR
open Go Go.RowKit Go.Shelf Go.Proofs.YtcfmaeonginefaaGreatDoor.Seq Go.Proofs.YtcfmaeonginefaaGreatDoor.Made Go.Proofs.YtcfmaeonginefaaGreatDoor.Row7 Go.Proofs.YtcfmaeonginefaaGreatDoor.VersC Go.Proofs.YtcfmaeonginefaaGreatDoor.Find7
set_option linter.unusedSimpArgs false
set_option linter.unusedVariables false

theorem isM_false {p v : ByteArray} {e : En} (h : isM p v e = false) : ¬ e.p.toList = p.toList ∨ (e.p.toList = p.toList ∧ ¬ e.v.toList = v.toList) := by
  by_cases h0 : e.p.toList = p.toList
  · by_cases h1 : e.v.toList = v.toList
    · simp [isM, h0, h1] at h
    · exact .inr ⟨h0, h1⟩
  · exact .inl h0
theorem isM_true {p v : ByteArray} {e : En} (h : isM p v e = true) : e.p.toList = p.toList ∧ e.v.toList = v.toList := by
  simpa [isM] using h
/-- The two boxes. -/
theorem two {w W' : World} {t t' : TypeId} {m0 m1 a0 a1 a2 a3 : Value} (h : Below ((w.alloc (.cells #[m0, m1] t)).alloc (.cells #[a0, a1, a2, a3] t')).heap.size ((w.alloc (.cells #[m0, m1] t)).alloc (.cells #[a0, a1, a2, a3] t')) W') :
    W'.cell? ⟨w.heap.size, 0, none⟩ = some m0 ∧ W'.cell? ⟨w.heap.size, 1, none⟩ = some m1 ∧ Below w.heap.size w W' := by
  refine ⟨?_, ?_, ?_⟩
  · exact (h.cell (p := ⟨w.heap.size, 0, none⟩) (by simp; omega)).trans (by simp)
  · exact (h.cell (p := ⟨w.heap.size, 1, none⟩) (by simp; omega)).trans (by simp)
  · have hb := (Below.refl w.heap.size w).alloc (Nat.le_refl _) (.cells #[m0, m1] t)
    exact (hb.alloc hb.size _).trans (h.mono (by simp; omega))

set_option maxRecDepth 100000 in
set_option maxHeartbeats 4000000 in
theorem find7_no (p v : ByteArray) (x : Value) (es : List En) (w : World) (hE : RE0 w x es) (h : ∀ j, (hj : j < es.length) → isM p v es[j] = false) :
    Calls Tryz.prog 20 #[x, .agg #[.string p, .string v]] w fun e w' => (∃ a, e = .returned (.tuple #[a, .bool false])) ∧ Below w.heap.size w w' := by
  obtain ⟨A, c, rfl, hA, hc, hm, hr⟩ := hE
  have HR := Lib.hid hr
  have HM := Lib.hid h
  obtain ⟨n, hnn⟩ : ∃ n, es.length = n := ⟨_, rfl⟩
  rw [hnn] at hc hm ⊢
  have HN := Lib.hid hnn
  clear hr hA h hnn
  go_enter Tryz.func20, Tryz.ntmps20
  go_wp2
  have H0 := Lib.hid (Below.refl (((w.alloc (.cells #[.string p, .string v] 23)).alloc (.cells #[.string ⟨#[]⟩, .string ⟨#[]⟩, .string ⟨#[]⟩, .slice none 0 0] 38)).heap.size) ((w.alloc (.cells #[.string p, .string v] 23)).alloc (.cells #[.string ⟨#[]⟩, .string ⟨#[]⟩, .string ⟨#[]⟩, .slice none 0 0] 38)))
  go_loopw [6] (fun i wr => ∃ k : Nat, i = .int .i64 k ∧ k ≤ n ∧ Below (((w.alloc (.cells #[.string p, .string v] 23)).alloc (.cells #[.string ⟨#[]⟩, .string ⟨#[]⟩, .string ⟨#[]⟩, .slice none 0 0] 38)).heap.size) ((w.alloc (.cells #[.string p, .string v] 23)).alloc (.cells #[.string ⟨#[]⟩, .string ⟨#[]⟩, .string ⟨#[]⟩, .slice none 0 0] 38)) wr) (fun i wr => n - (intOf i).toNat)
  case atStart => exact ⟨0, rfl, Nat.zero_le _, H0.out⟩
  case round =>
    obtain ⟨k, rfl, hk, hb⟩ := hrel
    have hb0 := Lib.hid hb
    obtain ⟨m0, m1, hbw⟩ := two hb
    obtain ⟨z0, z1, z2, z3, zf, zz⟩ := four hb
    clear hb H0
    by_cases hlt : k < n
    · have hki : (k : Int) < n := by omega
      have hl' : k < es.length := by rw [HN.out]; exact hlt
      obtain ⟨g, o, hg, q0, q1, -, -⟩ := HR.out k hl'
      subst hg
      have q0 := cellK q0 hbw
      have q1 := cellK q1 hbw
      have hf := isM_false (HM.out k hl')
      generalize es[k].p = xp at *
      generalize es[k].v = xv at *
      rcases hf with e0 | ⟨e0, e1⟩
      all_goals (
        go_wp2_with (first | (exfalso; rename_i hu _; simp [undef] at hu; done))
        go_quiet (fail)
        go_wp2
        exact ⟨⟨k + 1, by go_num, by omega, pw_drewN hb0.out _⟩, by simp [intOf] <;> omega⟩)
    · go_wp2_with (first | (exfalso; rename_i hu _; simp [undef] at hu; done))
      have hs := hbw.size
      refine bodyPost_ret (v := .tuple #[.agg #[.string ⟨#[]⟩, .string ⟨#[]⟩, .string ⟨#[]⟩, .slice none 0 0], .bool false]) (by simp [results, Tryz.results20, go_sem, z0, z1, z2, z3, zz]) rfl ⟨⟨_, rfl⟩, ?_⟩
      exact (((hbw.setCell (by simp) _).setCell (by simp) _).setCell (by simp) _).setCell (by simp) _

set_option maxRecDepth 100000 in
set_option maxHeartbeats 8000000 in
theorem find7_yes (p v : ByteArray) (x : Value) (es : List En) (w : World) (hE : RE w x es) (k : Nat) (hk : k < es.length) (hm1 : isM p v es[k] = true) (h : ∀ j, (hj : j < es.length) → j < k → isM p v es[j] = false) :
    Calls Tryz.prog 20 #[x, .agg #[.string p, .string v]] w fun e w' => (∃ v', e = .returned (.tuple #[.agg #[.string es[k].p, .string es[k].v, .string es[k].g, v'], .bool true]) ∧ RF w' v' es[k].fl) ∧ Below w.heap.size w w' := by
  have hF := hE.2 es[k] (List.getElem_mem hk)
  obtain ⟨A, c, rfl, hA, hc, hm, hr⟩ := hE.1
  have HR := Lib.hid hr
  have HM := Lib.hid h
  have hmt := isM_true hm1
  obtain ⟨n, hnn⟩ : ∃ n, es.length = n := ⟨_, rfl⟩
  obtain ⟨g0, o0, hg0, q0, q1, q2, q3⟩ := hr k hk
  obtain ⟨t0, t1⟩ := hmt
  have hgl := cell_lt q0
  obtain ⟨ep, hep⟩ : ∃ y, es[k].p = y := ⟨_, rfl⟩
  obtain ⟨ev, hev⟩ : ∃ y, es[k].v = y := ⟨_, rfl⟩
  obtain ⟨eg, heg⟩ : ∃ y, es[k].g = y := ⟨_, rfl⟩
  obtain ⟨ef, hef⟩ : ∃ y, es[k].fv = y := ⟨_, rfl⟩
  obtain ⟨fl, hfl⟩ : ∃ y, es[k].fl = y := ⟨_, rfl⟩
  rw [hep, hev, heg, hfl]
  rw [hep] at q0 t0
  rw [hev] at q1 t1
  rw [heg] at q2
  rw [hef] at q3 hF
  rw [hfl] at hF
  have hFF := Lib.hid hF
  obtain ⟨fA, fc, rfl, -⟩ := hF
  rw [hnn] at hc hm hk ⊢
  have HN := Lib.hid hnn
  clear hr hA h hnn hE hm1 hep hev heg hef hfl
  subst hg0
  go_enter Tryz.func20, Tryz.ntmps20
  go_wp2
  have H0 := Lib.hid (Below.refl (((w.alloc (.cells #[.string p, .string v] 23)).alloc (.cells #[.string ⟨#[]⟩, .string ⟨#[]⟩, .string ⟨#[]⟩, .slice none 0 0] 38)).heap.size) ((w.alloc (.cells #[.string p, .string v] 23)).alloc (.cells #[.string ⟨#[]⟩, .string ⟨#[]⟩, .string ⟨#[]⟩, .slice none 0 0] 38)))
  go_loopw [6] (fun i wr => ∃ j : Nat, i = .int .i64 j ∧ j ≤ k ∧ Below (((w.alloc (.cells #[.string p, .string v] 23)).alloc (.cells #[.string ⟨#[]⟩, .string ⟨#[]⟩, .string ⟨#[]⟩, .slice none 0 0] 38)).heap.size) ((w.alloc (.cells #[.string p, .string v] 23)).alloc (.cells #[.string ⟨#[]⟩, .string ⟨#[]⟩, .string ⟨#[]⟩, .slice none 0 0] 38)) wr) (fun i wr => n - (intOf i).toNat)
  case atStart => exact ⟨0, rfl, Nat.zero_le _, H0.out⟩
  case round =>
    obtain ⟨j, rfl, hj, hb⟩ := hrel
    have hb0 := Lib.hid hb
    obtain ⟨m0, m1, hbw⟩ := two hb
    obtain ⟨z0, z1, z2, z3, zf, zz⟩ := four hb
    clear hb H0
    by_cases hlt : j < k
    · have hki : (j : Int) < n := by omega
      have hl' : j < es.length := by rw [HN.out]; omega
      obtain ⟨g, o, hg, q0, q1, -, -⟩ := HR.out j hl'
      cases hg
      have q0 := cellK q0 hbw
      have q1 := cellK q1 hbw
      have hf := isM_false (HM.out j hl' hlt)
      generalize es[j].p = xp at *
      generalize es[j].v = xv at *
      rcases hf with e0 | ⟨e0, e1⟩
      all_goals (
        go_wp2_with (first | (exfalso; rename_i hu _; simp [undef] at hu; done))
        go_quiet (fail)
        go_wp2
        exact ⟨⟨j + 1, by go_num, by omega, pw_drewN hb0.out _⟩, by simp [intOf] <;> omega⟩)
    · have ejk : j = k := by omega
      subst ejk
      have hki : (j : Int) < n := by omega
      have q0 := cellK q0 hbw
      have q1 := cellK q1 hbw
      have q2 := cellK q2 hbw
      have q3 := cellK q3 hbw
      have hne : g0 ≠ w.heap.size + 1 := by omega
      go_wp2_with (first | (exfalso; rename_i hu _; simp [undef] at hu; done))
      go_quiet (fail)
      go_wp2
      have hs := hbw.size
      have hbw := fun q => pw_drewN hbw q
      refine bodyPost_ret (v := .tuple #[.agg #[.string ep, .string ev, .string eg, .slice fA fl.length fc], .bool true]) (by simp [results, Tryz.results20, go_sem, z0, z1, z2, z3, zz]) rfl ?_
      have hfin := fun q => ((((hbw q).setCell (p := ⟨w.heap.size + 1, 0, none⟩) (by simp) (.string ep)).setCell (p := ⟨w.heap.size + 1, 1, none⟩) (by simp) (.string ev)).setCell (p := ⟨w.heap.size + 1, 2, none⟩) (by simp) (.string eg)).setCell (p := ⟨w.heap.size + 1, 3, none⟩) (by simp) (.slice fA fl.length fc)
      exact ⟨⟨_, rfl, rf_below hFF.out (hfin _)⟩, hfin _⟩
end Go.Proofs.YtcfmaeonginefaaGreatDoor.FindR

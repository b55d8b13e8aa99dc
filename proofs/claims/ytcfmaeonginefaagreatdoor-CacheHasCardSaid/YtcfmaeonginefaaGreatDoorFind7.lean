/- slices.Clone at files, cache.Find, graftbedref07.Find: what they answer. -/
import Derived.Test.YtcfmaeonginefaaGreatDoorShelf7
import Derived.Test.YtcfmaeonginefaaGreatDoorVersC
import Derived.Lib.SliceRun
namespace Go.Proofs.YtcfmaeonginefaaGreatDoor.Find7
open Go Go.RowKit Go.Shelf Go.Proofs.YtcfmaeonginefaaGreatDoor.Seq Go.Proofs.YtcfmaeonginefaaGreatDoor.Made Go.Proofs.YtcfmaeonginefaaGreatDoor.Order3 Go.Proofs.YtcfmaeonginefaaGreatDoor.Cmp Go.Proofs.YtcfmaeonginefaaGreatDoor.Row7 Go.Proofs.YtcfmaeonginefaaGreatDoor.Own7 Go.Proofs.YtcfmaeonginefaaGreatDoor.Vers Go.Proofs.YtcfmaeonginefaaGreatDoor.Heavy Go.Proofs.YtcfmaeonginefaaGreatDoor.VersC
set_option linter.unusedSimpArgs false
set_option linter.unusedVariables false

theorem infoF : (Tryz.prog.info? 56).map (fun i => (i.zero, i.size, i.bytes)) = some (some (.agg #[.string ⟨#[]⟩, .string ⟨#[]⟩]), 2, 32) := by kernel_rfl
theorem flat_len {α : Type} {enc : α → List Value} {k : Nat} (hk : ∀ x, (enc x).length = k) : ∀ xs : List α, (xs.flatMap enc).length = xs.length * k
  | [] => by simp
  | x :: r => by rw [List.flatMap_cons, List.length_append, flat_len hk r, hk, List.length_cons, Nat.add_mul]; omega
theorem flat_cells {α : Type} {enc : α → List Value} {k : Nat} (hk0 : 0 < k) (hk : ∀ x, (enc x).length = k) (xs : List α) (f : Nat → Option Value) (h : ∀ (i : Nat) (hi : i < xs.length) (j : Nat) (u : Value), j < k → (enc xs[i])[j]? = some u → f (i * k + j) = some u) :
    ∀ t u, (xs.flatMap enc)[t]? = some u → f t = some u := by
  intro t u ht
  have hl : t < xs.length * k := by
    rcases Nat.lt_or_ge t (xs.length * k) with h1 | h1
    · exact h1
    · rw [List.getElem?_eq_none (by rw [flat_len hk]; exact h1)] at ht; cases ht
  have h1 : t / k < xs.length := Nat.div_lt_of_lt_mul (by rw [Nat.mul_comm]; exact hl)
  have h2 : t % k < k := Nat.mod_lt _ hk0
  have h4 : t / k * k + t % k = t := by rw [Nat.mul_comm]; exact Nat.div_add_mod t k
  have h3 := flat_at hk xs (t / k) h1 (t % k) h2
  rw [h4, ht] at h3
  have := h (t / k) h1 (t % k) u h2 h3.symm
  rwa [h4] at this

section
variable {ops : Array Oper} {rest : List Oper} {o : Oper} {a : Act} {Q : Exit → Act → World → Prop}
/-- Elements out of a slice that reads are appended to an own row. -/
theorem appKs {α : Type} {enc : α → List Value} {k : Nat} {e t : TypeId} {z : Value} {bytes : Nat} (hk0 : 0 < k) (hk : ∀ x, (enc x).length = k)
    (hinfo : (Tryz.prog.info? e).map (fun i => (i.zero, i.size, i.bytes)) = some (some z, k, bytes)) (hz : z.cells.size = k) (hby : bytes ≤ 100) (ht : Tryz.prog.underlying t = some (.slice e))
    (w0 w : World) (hg : o.guard = none) (s x : Operand) (hop : o.op = .call { callee := .builtin .append, args := #[s, x], argTypes := #[t, t] })
    (B : Nat) (v : Value) (xs ys : List α) (h1 : ∀ y ∈ ys, ∀ u ∈ enc y, u.oneCell' = true) (hs : a.eval s = v) (hown : OwnK enc k e w B v xs) (ad : Addr) (c n : Nat) (hx : a.eval x = .slice (some ad) n c) (hnl : ys.length = n)
    (hcell : ∀ (i : Nat) (hi : i < ys.length) (j : Nat) (u : Value), j < k → (enc ys[i])[j]? = some u → w.cell? (ad.add (i * k + j)) = some u) (hB : B ≤ w.heap.size) (hn : xs.length + ys.length ≤ 900000) (hb : Below B w0 w)
    (hK : ∀ A c w', OwnK enc k e w' B (.slice A (xs ++ ys).length c) (xs ++ ys) → Below B w0 w' → B ≤ w'.heap.size → wpList Tryz.prog ops Q rest (a.put o.dst (.slice A (xs ++ ys).length c)) w') : wpList Tryz.prog ops Q (o :: rest) a w := by
  obtain ⟨i0, hi, hz0, hz1, hz2⟩ := info_parts hinfo
  refine wpList_append_own _ hg s x t hop B e i0 z k bytes ht hi hz0 hz1 hz2 hz hk0 v xs.length _ hs hown ad n c (ys.flatMap enc) hx (by rw [flat_len hk, hnl]) (flat_cells hk0 hk ys _ hcell) (fun u hu => ?_) (by unfold maxLen; omega) ?_ hB ?_
  · obtain ⟨y, hy, hu⟩ := List.mem_flatMap.1 hu
    exact h1 y hy u hu
  · have : (xs.length + n) * bytes ≤ 900001 * 100 := Nat.mul_le_mul (by omega) hby
    omega
  · intro v' w' hown' hgr _
    rw [← List.flatMap_append] at hown'
    have hl : (xs ++ ys).length = xs.length + n := by rw [List.length_append, hnl]
    have hown2 : OwnK enc k e w' B v' (xs ++ ys) := by unfold OwnK; rw [hl]; exact hown'
    obtain ⟨A', c', rfl, _⟩ := own_shape hown2
    have hz := hgr.size
    exact hK A' c' w' hown2 (hb.grown hgr hB fun j ej => (hown.lt j ej).1) (by omega)
end
theorem own_rf {e : TypeId} {w : World} {B : Nat} {v : Value} {ms : List (ByteArray × ByteArray)} (h : OwnK encM 2 e w B v ms) (hn : ms.length ≤ 9223372036854775807) : RF w v ms := by
  obtain ⟨A, c, rfl, hA, hc, hg⟩ := own_shape h
  refine ⟨A, c, rfl, hA, hc, hn, fun i hi => ?_⟩
  obtain ⟨g, rfl, _⟩ := hg i hi
  refine ⟨g, 0, rfl, ?_, ?_⟩
  · rw [Nat.zero_add]; exact own_cell encM_len h hi (j := 0) (by omega) rfl
  · rw [Nat.zero_add]; exact own_cell encM_len h hi (j := 1) (by omega) rfl

theorem own_rfW {e : TypeId} {w W : World} {B : Nat} {v : Value} {ms : List (ByteArray × ByteArray)} (h : OwnK encM 2 e w B v ms) (hn : ms.length ≤ 9223372036854775807) (hW : ∀ b i u, B ≤ b → w.cell? ⟨b, i, none⟩ = some u → W.cell? ⟨b, i, none⟩ = some u) : RF W v ms := by
  obtain ⟨A, c, rfl, hA, hc, hg⟩ := own_shape h
  refine ⟨A, c, rfl, hA, hc, hn, fun i hi => ?_⟩
  obtain ⟨g, rfl, hB⟩ := hg i hi
  refine ⟨g, 0, rfl, ?_, ?_⟩
  · rw [Nat.zero_add]; exact hW _ _ _ hB (own_cell encM_len h hi (j := 0) (by omega) rfl)
  · rw [Nat.zero_add]; exact hW _ _ _ hB (own_cell encM_len h hi (j := 1) (by omega) rfl)

set_option maxRecDepth 100000 in
set_option maxHeartbeats 4000000 in
theorem cloneF {v : Value} {fl : List (ByteArray × ByteArray)} (w : World) (h : RF w v fl) (hn : fl.length ≤ 100000) :
    Calls Tryz.prog 45 #[v] w fun e w' => ∃ v', e = .returned v' ∧ (∀ W, (∀ b i u, w.heap.size ≤ b → w'.cell? ⟨b, i, none⟩ = some u → W.cell? ⟨b, i, none⟩ = some u) → RF W v' fl) ∧ Below w.heap.size w w' := by
  have HR := Lib.hid h
  obtain ⟨A, c, rfl, hA, hc, hm, hr⟩ := h
  cases A with
  | none =>
    have h0 := hA rfl
    subst h0
    have hl := Lib.hid (show fl.length = 0 by omega)
    have hn0 := fun W => Lib.run_eql_slice_nil (P := Tryz.prog) W 36 56 none fl.length 0 0 0 Tryz.underlying36
    go_enter Tryz.func45, Tryz.ntmps45
    go_wp2
    go_ret
    have e : fl = [] := List.length_eq_zero_iff.1 hl.out
    exact ⟨_, rfl, fun W _ => by have := HR.out; rw [e] at this ⊢; obtain ⟨A, c, hv, hA, hc, hm, _⟩ := this; exact ⟨A, c, hv, hA, hc, hm, fun i hi => absurd hi (Nat.not_lt_zero _)⟩, Below.refl _ _⟩
  | some ad =>
    have HC := Lib.hid hr
    obtain ⟨n, hnn⟩ : ∃ n, fl.length = n := ⟨_, rfl⟩
    rw [hnn] at hc hm hn ⊢
    have HN := Lib.hid hnn
    have hn0 := fun W => Lib.run_eql_slice_nil (P := Tryz.prog) W 36 56 (some ad) n c 0 0 Tryz.underlying36
    have hE := own_empty encM 2 56 w w.heap.size (Nat.le_refl _)
    have hb := (Below.refl w.heap.size w).alloc (Nat.le_refl _) (.cells #[] 56)
    have hz : w.heap.size ≤ (w.alloc (.cells #[] 56)).heap.size := by simp
    have HX := Lib.hid (show ∀ (i : Nat) (hi : i < fl.length) (j : Nat) (u : Value), j < 2 → (encM fl[i])[j]? = some u → (w.alloc (.cells #[] 56)).cell? (ad.add (i * 2 + j)) = some u by
      intro i hi j u hj hu
      obtain ⟨g, o, hg, h0, h1⟩ := HC.out i hi
      cases hg
      rw [WideShapes.add_plain]
      have hj2 : j = 0 ∨ j = 1 := by omega
      rcases hj2 with rfl | rfl
      · have : u = .string fl[i].1 := by simpa [encM] using hu.symm
        rw [this]; exact cellK h0 hb
      · have : u = .string fl[i].2 := by simpa [encM] using hu.symm
        rw [this, ← Nat.add_assoc]; exact cellK h1 hb)
    clear hr hnn hA
    go_enter Tryz.func45, Tryz.ntmps45
    go_wp2_with (first
      | (exfalso; rename_i hu _; simp [undef] at hu; done)
      | (at_builtin; refine appKs (enc := encM) (k := 2) (by decide) encM_len infoF rfl (by decide) Tryz.underlying36 w _ rfl _ _ rfl w.heap.size _ [] fl (fun y _ => encM_one y) (by rfl) hE ad c n (by rfl) HN.out HX.out hz (by rw [HN.out]; simp; omega) hb ?_; intro A6 c6 w6 hE6 hb6 hz6))
    go_ret
    exact ⟨_, rfl, fun W hW => own_rfW hE6 (by rw [HN.out]; omega) hW, hb6⟩

/-- An entry's cells. -/
def encE (e : En) : List Value := [.string e.p, .string e.v, .string e.g, e.fv]
instance : Inhabited En := ⟨⟨⟨#[]⟩, ⟨#[]⟩, ⟨#[]⟩, .slice none 0 0, []⟩⟩
def isM (p v : ByteArray) (e : En) : Bool := decide (e.p.toList = p.toList) && decide (e.v.toList = v.toList)

set_option maxRecDepth 100000 in
set_option maxHeartbeats 4000000 in
/-- The closure of cache.Find. -/
theorem predF (p v : ByteArray) (B : Nat) (w : World) (hB : B < w.heap.size) (hc0 : w.cell? ⟨B, 0, none⟩ = some (.string p)) (hc1 : w.cell? ⟨B, 1, none⟩ = some (.string v)) :
    PredBelow Tryz.prog 44 #[.pointer (some ⟨B, 0, none⟩)] (fun x => .agg (encE x).toArray) (isM p v) w := fun W x hb => by
  have h0 : W.cell? ⟨B, 0, none⟩ = some (.string p) := (hb.cell (p := ⟨B, 0, none⟩) hB).trans hc0
  have h1 : W.cell? ⟨B, 1, none⟩ = some (.string v) := (hb.cell (p := ⟨B, 1, none⟩) hB).trans hc1
  have hBW : B < W.heap.size := Nat.lt_of_lt_of_le hB hb.size
  have hne : B ≠ W.heap.size := by omega
  obtain ⟨xp, xv, xg, fv, fl⟩ := x
  show Calls Tryz.prog 44 #[.agg #[.string xp, .string xv, .string xg, fv], .pointer (some ⟨B, 0, none⟩)] W _
  have hb' := Lib.hid (hb.alloc hb.size (.cells #[.string xp, .string xv, .string xg, fv] 38))
  by_cases e0 : xp.toList = p.toList <;> by_cases e1 : xv.toList = v.toList
  all_goals (
    have hI := Lib.hid (show isM p v ⟨xp, xv, xg, fv, fl⟩ = _ from by simp only [isM, e0, e1, decide_true, decide_false, Bool.and_true, Bool.and_false, Bool.true_and, Bool.false_and]; rfl)
    rw [hI.out]
    go_enter Tryz.func44, Tryz.ntmps44
    go_wp2
    go_ret
    exact ⟨rfl, hb'.out⟩)

set_option maxRecDepth 100000 in
set_option maxHeartbeats 4000000 in
theorem idxF (p v : ByteArray) (B : Nat) (w : World) (hB : B < w.heap.size) (hc0 : w.cell? ⟨B, 0, none⟩ = some (.string p)) (hc1 : w.cell? ⟨B, 1, none⟩ = some (.string v)) (x : Value) (es : List En) (hE : RE0 w x es) :
    Calls Tryz.prog 43 #[x, .func (.func 44) #[] #[.pointer (some ⟨B, 0, none⟩)]] w fun e w' => e = .returned (.int .i64 (Lib.idxBy (fun _ y => isM p v y) es default)) ∧ Below w.heap.size w w' := by
  obtain ⟨A, c, rfl, hA, hc, hm, hr⟩ := hE
  by_cases h0 : es = []
  · subst h0
    have hI : Lib.idxBy (fun _ y => isM p v y) ([] : List En) default = -1 := rfl
    rw [hI]
    clear hr hA
    go_enter Tryz.func43, Tryz.ntmps43
    go_wp2
    go_loopg [5, 8] 1 (fun gg _ s8 wr => s8 = .int .i64 0 ∧ wr = w)
    case atStart => exact ⟨rfl, rfl⟩
    case round =>
      obtain ⟨rfl, rfl⟩ := hrel
      go_wp2
      go_ret
      exact ⟨rfl, Below.refl _ _⟩
  · have hl : 0 < es.length := List.length_pos_iff.2 h0
    obtain ⟨g, o, rfl, hg, _⟩ := hr 0 hl
    have eg : ∀ args w, (callFunc 44 args).run Tryz.prog w = .ok (.enter 44 args) w := enters_of Tryz.func44 (by kernel_rfl) rfl
    have hcon := AnyQ.slices_IndexFunc Tryz.laysIndex 4 Tryz.isAgg38 Tryz.sizeOf38 encE (fun _ => rfl) (isM p v) 44 #[.pointer (some ⟨B, 0, none⟩)] eg g o es.length c es w
      (predF p v B w hB hc0 hc1) (Nat.le_refl _) hm (cell_lt hg) (fun j hj i u hi => by
        rw [getElem!_pos es j hj] at hi
        obtain ⟨g', o', hg', q0, q1, q2, q3⟩ := hr j hj
        cases hg'
        have h4 : i < 4 := by
          rcases Nat.lt_or_ge i 4 with h4 | h4
          · exact h4
          · rw [List.getElem?_eq_none (by simpa [encE] using h4)] at hi; cases hi
        match i, h4, hi with
        | 0, _, hi => simp [encE] at hi; rw [← hi]; exact q0
        | 1, _, hi => simp [encE] at hi; rw [← hi]; exact q1
        | 2, _, hi => simp [encE] at hi; rw [← hi]; exact q2
        | 3, _, hi => simp [encE] at hi; rw [← hi]; exact q3)
    rw [List.take_length] at hcon
    exact hcon

theorem four {w W' : World} {m : Obj} {t : TypeId} {a0 a1 a2 a3 : Value} (h : Below ((w.alloc m).alloc (.cells #[a0, a1, a2, a3] t)).heap.size ((w.alloc m).alloc (.cells #[a0, a1, a2, a3] t)) W') :
    W'.cell? ⟨w.heap.size + 1, 0, none⟩ = some a0 ∧ W'.cell? ⟨w.heap.size + 1, 1, none⟩ = some a1 ∧ W'.cell? ⟨w.heap.size + 1, 2, none⟩ = some a2 ∧ W'.cell? ⟨w.heap.size + 1, 3, none⟩ = some a3 ∧ (∀ o, W'.frozen? ⟨w.heap.size + 1, o, none⟩ = false) ∧ w.heap.size + 1 < W'.heap.size := by
  have hz := h.size
  have k : ∀ o, W'.cell? ⟨w.heap.size + 1, o, none⟩ = ((w.alloc m).alloc (.cells #[a0, a1, a2, a3] t)).cell? ⟨w.heap.size + 1, o, none⟩ := fun o => h.cell (p := ⟨w.heap.size + 1, o, none⟩) (by simp)
  have kf : ∀ o, W'.frozen? ⟨w.heap.size + 1, o, none⟩ = ((w.alloc m).alloc (.cells #[a0, a1, a2, a3] t)).frozen? ⟨w.heap.size + 1, o, none⟩ := fun o => h.frozen (p := ⟨w.heap.size + 1, o, none⟩) (by simp)
  have hh : ((w.alloc m).alloc (.cells #[a0, a1, a2, a3] t)).heap[w.heap.size + 1]? = some (.cells #[a0, a1, a2, a3] t) := by
    have e : (w.alloc m).heap.size = w.heap.size + 1 := by simp
    have e2 : ((w.alloc m).alloc (.cells #[a0, a1, a2, a3] t)).heap = (w.alloc m).heap.push (.cells #[a0, a1, a2, a3] t) := rfl
    rw [e2, ← e]
    exact Array.getElem?_push_size
  refine ⟨(k 0).trans ?_, (k 1).trans ?_, (k 2).trans ?_, (k 3).trans ?_, fun o => (kf o).trans ?_, by simp at hz; omega⟩
  all_goals (simp only [World.cell?, World.frozen?, hh]; try rfl)
theorem four1 {w W' : World} {t : TypeId} {a0 a1 a2 a3 : Value} (h : Below (w.alloc (.cells #[a0, a1, a2, a3] t)).heap.size (w.alloc (.cells #[a0, a1, a2, a3] t)) W') :
    W'.cell? ⟨w.heap.size, 0, none⟩ = some a0 ∧ W'.cell? ⟨w.heap.size, 1, none⟩ = some a1 ∧ W'.cell? ⟨w.heap.size, 2, none⟩ = some a2 ∧ W'.cell? ⟨w.heap.size, 3, none⟩ = some a3 ∧ (∀ o, W'.frozen? ⟨w.heap.size, o, none⟩ = false) ∧ w.heap.size < W'.heap.size := by
  have hz := h.size
  have k : ∀ o, W'.cell? ⟨w.heap.size, o, none⟩ = (w.alloc (.cells #[a0, a1, a2, a3] t)).cell? ⟨w.heap.size, o, none⟩ := fun o => h.cell (p := ⟨w.heap.size, o, none⟩) (by simp)
  have kf : ∀ o, W'.frozen? ⟨w.heap.size, o, none⟩ = (w.alloc (.cells #[a0, a1, a2, a3] t)).frozen? ⟨w.heap.size, o, none⟩ := fun o => h.frozen (p := ⟨w.heap.size, o, none⟩) (by simp)
  have hh : (w.alloc (.cells #[a0, a1, a2, a3] t)).heap[w.heap.size]? = some (.cells #[a0, a1, a2, a3] t) := by
    have e2 : (w.alloc (.cells #[a0, a1, a2, a3] t)).heap = w.heap.push (.cells #[a0, a1, a2, a3] t) := rfl
    rw [e2]
    exact Array.getElem?_push_size
  refine ⟨(k 0).trans ?_, (k 1).trans ?_, (k 2).trans ?_, (k 3).trans ?_, fun o => (kf o).trans ?_, by simp at hz; omega⟩
  all_goals (simp only [World.cell?, World.frozen?, hh]; try rfl)
set_option maxRecDepth 100000 in
set_option maxHeartbeats 4000000 in
theorem find_no (p v : ByteArray) (x : Value) (es : List En) (w : World) (hE : RE0 w x es) (h : ∀ j, j < es.length → isM p v es[j]! = false) :
    Calls Tryz.prog 19 #[x, .agg #[.string p, .string v]] w fun e w' => (∃ a, e = .returned (.tuple #[a, .bool false])) ∧ Below w.heap.size w w' := by
  have hb := (Below.refl w.heap.size w).alloc (Nat.le_refl _) (.cells #[.string p, .string v] 23)
  have hb2 := hb.alloc hb.size (.cells #[.string ⟨#[]⟩, .string ⟨#[]⟩, .string ⟨#[]⟩, .slice none 0 0] 38)
  have hcon := idxF p v w.heap.size ((w.alloc (.cells #[.string p, .string v] 23)).alloc (.cells #[.string ⟨#[]⟩, .string ⟨#[]⟩, .string ⟨#[]⟩, .slice none 0 0] 38)) (by simp; omega) (by simp) (by simp) x es (re0_below hE hb2)
  have hI := Lib.idxBy_miss (fun _ y => isM p v y) es es.length default h
  rw [List.take_length] at hI
  rw [hI] at hcon
  have hb3 := Lib.hid hb2
  obtain ⟨A, c, rfl, hA, hc, hm, hr⟩ := hE
  clear hr hA hI hb hb2
  go_enter Tryz.func19, Tryz.ntmps19
  go_wp2_with (go_at_call 43; refine hcon.mono ?_; rintro e w' ⟨rfl, hb'⟩; obtain ⟨z0, z1, z2, z3, zf, zz⟩ := four hb'; have hbW := hb3.out.trans (hb'.mono (by simp; omega)); clear hb' hcon)
  have hs := hbW.size
  refine bodyPost_ret (v := .tuple #[.agg #[.string ⟨#[]⟩, .string ⟨#[]⟩, .string ⟨#[]⟩, .slice none 0 0], .bool false]) (by simp [results, Tryz.results19, go_sem, z0, z1, z2, z3, zz]) rfl ⟨⟨_, rfl⟩, ?_⟩
  exact (((hbW.setCell (by simp) _).setCell (by simp) _).setCell (by simp) _).setCell (by simp) _

set_option maxRecDepth 100000 in
set_option maxHeartbeats 8000000 in
theorem find_yes (p v : ByteArray) (x : Value) (es : List En) (w : World) (hE : RE w x es) (k : Nat) (hk : k < es.length) (hm1 : isM p v es[k] = true) (h : ∀ j, j < k → isM p v es[j]! = false) (hn : es[k].fl.length ≤ 100000) :
    Calls Tryz.prog 19 #[x, .agg #[.string p, .string v]] w fun e w' => (∃ v', e = .returned (.tuple #[.agg #[.string es[k].p, .string es[k].v, .string es[k].g, v'], .bool true]) ∧ RF w' v' es[k].fl) ∧ Below w.heap.size w w' := by
  have hb := (Below.refl w.heap.size w).alloc (Nat.le_refl _) (.cells #[.string p, .string v] 23)
  have hb2 := hb.alloc hb.size (.cells #[.string ⟨#[]⟩, .string ⟨#[]⟩, .string ⟨#[]⟩, .slice none 0 0] 38)
  have hcon := idxF p v w.heap.size ((w.alloc (.cells #[.string p, .string v] 23)).alloc (.cells #[.string ⟨#[]⟩, .string ⟨#[]⟩, .string ⟨#[]⟩, .slice none 0 0] 38)) (by simp; omega) (by simp) (by simp) x es (re0_below hE.1 hb2)
  have hI := Lib.idxBy_hit (fun _ y => isM p v y) es es.length k default hk (Nat.le_refl _) (by rw [getElem!_pos es k hk]; exact hm1) h
  rw [List.take_length] at hI
  rw [hI] at hcon
  have hb3 := Lib.hid hb2
  have hHE := Lib.hid hE
  obtain ⟨A, c, rfl, hA, hc, hm, hr⟩ := hE.1
  obtain ⟨g, o, rfl, q0, q1, q2, q3⟩ := hr k hk
  have hF := Lib.hid (hE.2 es[k] (List.getElem_mem hk))
  have hgw := cell_lt q0
  obtain ⟨ep, hep⟩ : ∃ y, es[k].p = y := ⟨_, rfl⟩
  obtain ⟨ev, hev⟩ : ∃ y, es[k].v = y := ⟨_, rfl⟩
  obtain ⟨eg, heg⟩ : ∃ y, es[k].g = y := ⟨_, rfl⟩
  obtain ⟨ef, hef⟩ : ∃ y, es[k].fv = y := ⟨_, rfl⟩
  obtain ⟨fl, hfl⟩ : ∃ y, es[k].fl = y := ⟨_, rfl⟩
  obtain ⟨n, hnn⟩ : ∃ n, es.length = n := ⟨_, rfl⟩
  rw [hep, hev, heg]
  rw [hep] at q0
  rw [hev] at q1
  rw [heg] at q2
  rw [hef] at q3 hF
  rw [hfl] at hF hn ⊢
  rw [hnn] at hcon hc hm hk ⊢
  clear hr hA hI hb hb2 hE hHE hep hev heg hef hfl hnn h hm1
  obtain ⟨fA, fc, rfl, -⟩ := hF.out
  have hkn : (k : Int) < (n : Int) := by omega
  go_enter Tryz.func19, Tryz.ntmps19
  go_wp2_with (first
    | (go_at_call 43; refine hcon.mono ?_; rintro e w' ⟨rfl, hb'⟩; obtain ⟨z0, z1, z2, z3, zf, zz⟩ := four hb'; have hbW := hb3.out.trans (hb'.mono (by simp; omega)); clear hb' hcon; have p0 := cellK q0 hbW; have p1 := cellK q1 hbW; have p2 := cellK q2 hbW; have p3 := cellK q3 hbW; have hFW := Lib.hid (rf_below hF.out hbW); clear q0 q1 q2 q3 hF hb3)
    | (go_at_call 45; refine (cloneF _ (rf_below hFW.out ((Below.refl _ _).alloc (Nat.le_refl _) _)) hn).mono ?_; rintro e w2 ⟨v2, rfl, hR2, hb2⟩; obtain ⟨y0, y1, y2, y3, yf, yz⟩ := four1 hb2; have hbA := ((Below.refl w'.heap.size w').alloc (Nat.le_refl _) _).trans (hb2.mono (by simp)); have x0 := (hbA.cell (p := ⟨w.heap.size + 1, 0, none⟩) zz).trans z0; have x1 := (hbA.cell (p := ⟨w.heap.size + 1, 1, none⟩) zz).trans z1; have x2 := (hbA.cell (p := ⟨w.heap.size + 1, 2, none⟩) zz).trans z2; have x3 := (hbA.cell (p := ⟨w.heap.size + 1, 3, none⟩) zz).trans z3; have xf : ∀ o, w2.frozen? ⟨w.heap.size + 1, o, none⟩ = false := fun o => (hbA.frozen (p := ⟨w.heap.size + 1, o, none⟩) zz).trans (zf o); have hbX := hbW.trans (hbA.mono hbW.size); have hRX := Lib.hid hR2; have hRY := Lib.hid (hR2 w2 (fun _ _ _ _ k => k)); obtain ⟨gA, gc, rfl, -⟩ := hRY.out; clear z0 z1 z2 z3 zf hb2 hbA p0 p1 p2 p3 hR2 hFW; have hne : w'.heap.size ≠ w.heap.size + 1 := by omega))
  have zz2 : w.heap.size + 1 < w2.heap.size := by omega
  have hwz := hbW.size
  refine bodyPost_ret (v := .tuple #[.agg #[.string ep, .string ev, .string eg, .slice gA fl.length gc], .bool true]) (by simp [results, Tryz.results19, go_sem, x0, x1, x2, x3, zz2, hne]) rfl ⟨⟨_, rfl, ?_⟩, ?_⟩
  · refine hRX.out _ fun b i u hb hc => ?_
    have hb' : w'.heap.size + 1 ≤ b := by simpa using hb
    have n1 : w.heap.size + 1 ≠ b := by omega
    have n2 : w'.heap.size ≠ b := by omega
    rw [World.cell?_setCell_far _ _ _ _ n1, World.cell?_setCell_far _ _ _ _ n1, World.cell?_setCell_far _ _ _ _ n1, World.cell?_setCell_far _ _ _ _ n1, World.cell?_setCell_far _ _ _ _ n2]
    exact hc
  · exact ((((hbX.setCell hwz _).setCell (by simp) _).setCell (by simp) _).setCell (by simp) _).setCell (by simp) _
end Go.Proofs.YtcfmaeonginefaaGreatDoor.Find7

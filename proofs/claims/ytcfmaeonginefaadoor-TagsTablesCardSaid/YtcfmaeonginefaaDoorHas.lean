/- slices.Contains at texts, graftbedref14.Has, the function values of tags.Check and tags.Set: what they answer. -/
import Derived.Test.YtcfmaeonginefaaDoorTag
import Derived.Test.YtcfmaeonginefaaDoorEach
import Derived.Test.YtcfmaeonginefaaDoorShelf2
namespace Go.Proofs.YtcfmaeonginefaaDoor.Has
open Go Go.RowKit Go.Shelf Go.Maps Go.Proofs.YtcfmaeonginefaaDoor.Made Go.Proofs.YtcfmaeonginefaaDoor.Import Go.Proofs.YtcfmaeonginefaaDoor.Base Go.Proofs.YtcfmaeonginefaaDoor.Sets Go.Proofs.YtcfmaeonginefaaDoor.Of Go.Proofs.YtcfmaeonginefaaDoor.Tag
set_option linter.unusedSimpArgs false
set_option linter.unusedVariables false

theorem contains {v : Value} {xs : List ByteArray} (s : ByteArray) (w : World) (h : Rq w v xs) (hn : xs.length ≤ 1048577) :
    Calls Tryd.prog 26 #[v, .string s] w fun e w' => e = .returned (.bool (inL s xs)) ∧ w = w' := by
  obtain ⟨A, c, rfl, _, _, hr⟩ := h
  cases xs with
  | nil => rw [inL_nil]; exact (Tryd.slices_Contains_string_empty A c s w).mono fun _ _ h => ⟨h.1, h.2.symm⟩
  | cons x r =>
    obtain ⟨g, o, rfl, _⟩ := hr 0 (by simp)
    have := Tryd.slices_Contains_string g o (x :: r).length c (x :: r) s w (Nat.le_refl _) (by omega) (fun j hj => by
      obtain ⟨g', o', hg, hc⟩ := hr j hj
      cases hg
      rw [hc]
      have e : (x :: r)[j]?.getD ByteArray.empty = (x :: r)[j] := by rw [List.getElem?_eq_getElem hj]; rfl
      first | exact congrArg (fun t => some (Value.string t)) e.symm | (simp [hj]; exact e.symm))
    refine this.mono fun _ _ h => ⟨?_, h.2.symm⟩
    rw [h.1, List.take_of_length_le (Nat.le_refl _)]
    rfl

theorem inL_take (s : ByteArray) (xs : List ByteArray) (k : Nat) (h : k < xs.length) : inL s (xs.take (k + 1)) = (inL s (xs.take k) || (xs[k].toList == s.toList)) := by
  rw [List.take_succ_eq_append_getElem h, Bool.eq_iff_iff, inL_snoc, Bool.or_eq_true]
  constructor
  · rintro (h | h)
    · exact .inl h
    · exact .inr (by rw [h]; simp)
  · rintro (h | h)
    · exact .inl h
    · refine .inr (Eq.symm ?_)
      have h' : xs[k].toList = s.toList := by simpa using h
      rw [ByteArray.toList_eq, ByteArray.toList_eq] at h'
      generalize xs[k] = y at h'
      obtain ⟨⟨l⟩⟩ := y
      obtain ⟨⟨m⟩⟩ := s
      cases h'; rfl
theorem inL_mono {s : ByteArray} {xs : List ByteArray} {k : Nat} (h : inL s (xs.take k) = true) : inL s xs = true := inL_iff.2 (List.mem_of_mem_take (inL_iff.1 h))
set_option maxHeartbeats 2000000 in
theorem has14 {v : Value} {xs : List ByteArray} (s : ByteArray) (w : World) (h : Rq w v xs) (hn : xs.length ≤ 1048577) :
    Calls Tryd.prog 28 #[v, .string s] w fun e w' => e = .returned (.bool (inL s xs)) ∧ w = w' := by
  obtain ⟨A, c, rfl, _, _, hr⟩ := h
  have HA := Lib.hid hr
  obtain ⟨n, hnn⟩ : ∃ n, xs.length = n := ⟨_, rfl⟩
  rw [hnn] at hn ⊢
  have HN := Lib.hid hnn
  clear hr hnn
  go_enter Tryd.func28, Tryd.ntmps28
  go_wp2
  go_loop [5] (fun i => ∃ k : Nat, i = .int .i64 k ∧ k ≤ n ∧ Hid (inL s (xs.take k) = false)) (fun i => n - (intOf i).toNat)
  case atStart => exact ⟨0, rfl, Nat.zero_le _, Lib.hid (by rw [List.take_zero, inL_nil])⟩
  case round =>
    obtain ⟨k, rfl, hk, HI⟩ := hrel
    by_cases hlt : k < n
    · have hl' : k < xs.length := by rw [HN.out]; exact hlt
      obtain ⟨g, o, hg, hc⟩ := HA.out k hl'
      subst hg
      have HT := Lib.hid (inL_take s xs k hl')
      obtain ⟨x, hxe⟩ : ∃ x, xs[k] = x := ⟨_, rfl⟩
      rw [hxe] at hc HT
      clear hxe hl'
      cases he : x.toList == s.toList with
      | true =>
        have HS := Lib.hid (show inL s xs = true from inL_mono (k := k + 1) (by rw [HT.out, he, Bool.or_true]))
        go_wp2
        go_ret
        exact ⟨ret_bool HS.out.symm, rfl⟩
      | false =>
        have HS := Lib.hid (show inL s (xs.take (k + 1)) = false by rw [HT.out, he, HI.out]; rfl)
        go_wp2
        go_round
        case rel => exact ⟨k + 1, by go_num, by omega, HS⟩
        case measure => simp [intOf] <;> omega
    · have HS := Lib.hid (show inL s xs = false by
        have := HI.out
        rw [List.take_of_length_le (by have := HN.out; omega)] at this
        exact this)
      go_wp2
      go_ret
      exact ⟨ret_bool HS.out.symm, rfl⟩

/-- 'Check$1': is the text among those of a field? -/
theorem inOS (s : ByteArray) (g : Nat) (v : Value) (os : List ByteArray) (w : World) (hc : w.cell? ⟨g, 0, none⟩ = some v) (h : Rq w v os) (hn : os.length ≤ 1048577) :
    Calls Tryd.prog 37 #[.string s, .pointer (some ⟨g, 0, none⟩)] w fun e w' => e = .returned (.bool (inL s os)) ∧ w = w' := by
  go_enter Tryd.func37, Tryd.ntmps37
  go_wp2_with (go_at_call 26; refine (contains s _ h hn).mono ?_; rintro e w' ⟨rfl, rfl⟩)
  go_ret
  exact ⟨rfl, rfl⟩
def impOk (s : ByteArray) : Bool := decide (errB (importB s) = 0)
theorem isImp (s : ByteArray) (hs : s.size ≤ 1048576) (w : World) : Calls Tryd.prog 38 #[.string s] w fun e w' => e = .returned (.bool (importB s)) ∧ Below w.heap.size w w' := by
  obtain ⟨b, hb⟩ : ∃ b, importB s = b := ⟨_, rfl⟩
  rw [hb]
  have HB := Lib.hid hb
  clear hb
  cases b
  · go_enter Tryd.func38, Tryd.ntmps38
    go_wp2_with (go_at_call 39; refine (Import.Import s hs _).mono ?_; rw [HB.out, errB_no rfl]; rintro e w1 ⟨rfl, hb1⟩)
    go_ret
    exact ⟨rfl, hb1⟩
  · go_enter Tryd.func38, Tryd.ntmps38
    go_wp2_with (go_at_call 39; refine (Import.Import s hs _).mono ?_; rw [HB.out, errB_yes rfl]; rintro e w1 ⟨rfl, hb1⟩)
    go_ret
    exact ⟨rfl, hb1⟩
/-- 'Set$1': a tag, and none of the known ones. -/
theorem isMore (s : ByteArray) (hs : s.size ≤ 1048576) (g b n : Nat) (xs : List ByteArray) (w : World) (hc : w.cell? ⟨g, 0, none⟩ = some (.map (some b))) (hS : SetIs w b n xs) :
    Calls Tryd.prog 31 #[.string s, .pointer (some ⟨g, 0, none⟩)] w fun e w' => e = .returned (.bool (tagT s && !inL s xs)) ∧ w = w' := by
  have hlk := look_run hS 64 mapT s (by unfold maxLen; omega)
  obtain ⟨b, hb⟩ : ∃ b, tagT s = b := ⟨_, rfl⟩
  rw [hb]
  have HB := Lib.hid hb
  clear hb
  cases b
  all_goals
    go_enter Tryd.func31, Tryd.ntmps31
    go_wp2_with (first
      | (exfalso; rename_i hu _; simp [undef] at hu; done)
      | (go_at_call 32; refine (tag s hs _).mono ?_; rw [HB.out]; rintro e w1 ⟨rfl, rfl⟩))
    go_ret
    exact ⟨rfl, rfl⟩
end Go.Proofs.YtcfmaeonginefaaDoor.Has

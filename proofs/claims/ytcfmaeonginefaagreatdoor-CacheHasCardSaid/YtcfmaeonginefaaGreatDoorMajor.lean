/- paths.Split, semver.Major: what they answer. -/
import Derived.Test.YtcfmaeonginefaaGreatDoorCanon3
import Derived.Lib.LastIndexByte
namespace Go.Proofs.YtcfmaeonginefaaGreatDoor.Major
open Go Go.RowKit Go.Shelf Go.Proofs.YtcfmaeonginefaaGreatDoor.Seq Go.Proofs.YtcfmaeonginefaaGreatDoor.Cut Go.Proofs.YtcfmaeonginefaaGreatDoor.Elems Go.Proofs.YtcfmaeonginefaaGreatDoor.Paths Go.Proofs.YtcfmaeonginefaaGreatDoor.Made Go.Proofs.YtcfmaeonginefaaGreatDoor.Idents Go.Proofs.YtcfmaeonginefaaGreatDoor.Sign Go.Proofs.YtcfmaeonginefaaGreatDoor.Num3 Go.Proofs.YtcfmaeonginefaaGreatDoor.Parse Go.Proofs.YtcfmaeonginefaaGreatDoor.Parse3
set_option linter.unusedSimpArgs false
set_option linter.unusedVariables false

/-- Where a slash last stands; below 0: nowhere. -/
def li (s : ByteArray) : Int := Lib.lastIndexByte s 47
theorem li_spec (s : ByteArray) : (li s = -1 ∧ ∀ b ∈ s.data.toList, b ≠ 47) ∨ (∃ i : Nat, i < s.size ∧ li s = i ∧ ∃ a t, s.data.toList = a ++ 47 :: t ∧ a.length = i ∧ ∀ b ∈ t, b ≠ 47) := by
  have e : s.data.toList.length = s.size := by rw [Array.length_toList]; rfl
  have hg : ∀ j (h : j < s.size), s.data[j]! = s.data.toList[j]'(by omega) := fun j h => by
    have h' : j < s.data.size := h
    rw [getElem!_pos s.data j h']; simp
  have hn : ∀ x : UInt8, ((x.toNat : Int) ≠ 47) → x ≠ 47 := fun x h e => by subst e; exact h rfl
  rcases Lib.lastIdx_spec s 47 s.size with ⟨h1, h2⟩ | ⟨i, h1, h2, h3, h4⟩
  · refine .inl ⟨h1, fun b hb => ?_⟩
    obtain ⟨j, hj, rfl⟩ := List.getElem_of_mem hb
    have := h2 j (by omega)
    rw [hg j (by omega)] at this
    exact hn _ this
  · refine .inr ⟨i, h1, h2, s.data.toList.take i, s.data.toList.drop (i + 1), ?_, by simp; omega, fun b hb => ?_⟩
    · have hi : s.data.toList[i]'(by omega) = 47 := by
        rw [hg i h1] at h3
        exact UInt8.toNat_inj.1 (by have : (47 : UInt8).toNat = 47 := rfl; omega)
      rw [← hi, ← List.drop_eq_getElem_cons (by omega), List.take_append_drop]
    · obtain ⟨j, hj, rfl⟩ := List.getElem_of_mem hb
      simp at hj
      have := h4 (i + 1 + j) (by omega) (by omega)
      rw [hg _ (by omega)] at this
      simpa using hn _ this
theorem spl_append (c : UInt8) (b : List UInt8) : ∀ a, spl c (a ++ c :: b) = spl c a ++ spl c b
  | [] => by simp [spl]
  | x :: a => by
    have ih := spl_append c b a
    by_cases e : x = c
    · subst e; simp [spl, ih]
    · rw [List.cons_append, spl_cons x _ c e, spl_cons x a c e, ih]
      cases hs : spl c a with
      | nil => exact absurd hs (spl_ne c a)
      | cons h r => simp

theorem lastSlash (s : ByteArray) (hs : s.size ≤ 1048576) (w : World) : Calls Tryz.prog 127 #[.string s, .int .u8 47] w fun e w' => e = .returned (.int .i64 (li s)) ∧ w = w' := (Tryz.strings_LastIndexByte s 47 (by omega) w).mono fun _ _ h => ⟨h.1, h.2.symm⟩

theorem split_no (s : ByteArray) (hs : s.size ≤ 1048576) (w : World) (h : li s = -1) : Calls Tryz.prog 99 #[.string s] w fun e w' => e = .returned (.tuple #[.string ⟨#[]⟩, .string s]) ∧ ∃ n, w' = w.drewN n := by
  have H := Lib.hid h
  clear h
  go_enter Tryz.func99, Tryz.ntmps99
  go_wp2_with (go_at_call 127; refine (lastSlash s hs _).mono ?_; rw [H.out]; rintro e w' ⟨rfl, rfl⟩)
  go_ret2
  exact ⟨rfl, 0, rfl⟩
set_option maxHeartbeats 1000000 in
theorem split_at (s : ByteArray) (i : Nat) (hs : s.size ≤ 1048576) (w : World) (h : li s = i) (hi : i < s.size) : Calls Tryz.prog 99 #[.string s] w fun e w' => e = .returned (.tuple #[.string (s.extract 0 i), .string (s.extract (i + 1) s.size)]) ∧ ∃ n, w' = w.drewN n := by
  have H := Lib.hid h
  have h1 : (i : Int) ≤ s.size := by omega
  have h2 : (i : Int) + 1 ≤ s.size := by omega
  clear h
  go_enter Tryz.func99, Tryz.ntmps99
  go_wp2_with (go_at_call 127; refine (lastSlash s hs _).mono ?_; rw [H.out]; rintro e w' ⟨rfl, rfl⟩)
  go_quiet (fail)
  go_wp2
  go_ret2
  exact ⟨rfl, _, rfl⟩
/-- What a last element tells. -/
def majorT (s : ByteArray) : Int := if (isV s && numOk (trimV s) && decide (2 ≤ numV (trimV s))) = true then numV (trimV s) else 0
def majorB (path : ByteArray) : Int := if li path < 0 then 0 else majorT (path.extract ((li path).toNat + 1) path.size)
def slashB (s : ByteArray) : Bool := Lib.hasPrefix s.data.toList [47]
theorem slashP (s : ByteArray) (w : World) : Calls Tryz.prog 63 #[.string s, .string ⟨#[47]⟩] w fun e w' => e = .returned (.bool (slashB s)) ∧ w = w' := (Tryz.strings_HasPrefix s ⟨#[47]⟩ w).mono fun _ _ h => ⟨h.1, h.2.symm⟩
theorem slash_no {s : ByteArray} (h : ∀ b ∈ s.data.toList, b ≠ 47) : slashB s = false := by
  unfold slashB
  cases hl : s.data.toList with
  | nil => rfl
  | cons a t =>
    have := h a (by rw [hl]; simp)
    simp [Lib.hasPrefix, List.isPrefixOf, Ne.symm this]
theorem slash_at {s : ByteArray} {t : List UInt8} (h : s.data.toList = 47 :: t) : slashB s = true := by
  unfold slashB; rw [h]; simp [Lib.hasPrefix, List.isPrefixOf]

set_option maxRecDepth 100000 in
set_option maxHeartbeats 4000000 in
theorem major (path : ByteArray) (hs : path.size ≤ 1048576) (w : World) : Calls Tryz.prog 66 #[.string path] w fun e w' => e = .returned (.int .i64 (majorB path)) ∧ Below w.heap.size w w' := by
  rcases li_spec path with ⟨hl, hno⟩ | ⟨i, hi, hl, a, t, hat, hai, hno⟩
  · have hM : majorB path = 0 := by unfold majorB; rw [hl]; rfl
    have HP := Lib.hid (slash_no hno)
    have HR := Lib.hid hM
    have HLI := Lib.hid hl
    have hts : (trimV path).size ≤ 1048576 := by have := trimV_size path; omega
    clear hl hno hM
    cases hv : isV path with
    | false =>
      have HV := Lib.hid hv
      obtain ⟨bn, HN⟩ : ∃ b, Hid (numOk (trimV path) = b) := ⟨_, Lib.hid rfl⟩
      clear hv
      go_enter Tryz.func66, Tryz.ntmps66
      go_wp2_with (first
        | (exfalso; rename_i hu _; simp [undef] at hu; done)
        | (go_at_call 99; refine (split_no path hs _ HLI.out).mono ?_; rintro e1 w1 ⟨rfl, q, rfl⟩)
        | (go_at_call 65; refine (cutPrefix path _).mono ?_; rw [HV.out]; rintro e2 w2 ⟨rfl, rfl⟩)
        | (go_at_call 86; refine (number (trimV path) hts _).mono ?_; rw [HN.out]; rintro e3 w3 ⟨rfl, hb3⟩))
      go_ret
      exact ⟨ret_num HR.out.symm, (pw_drewN (Below.refl w.heap.size w) q).trans hb3⟩
    | true =>
    cases hn : numOk (trimV path) with
    | false =>
      have HV := Lib.hid hv
      have HN := Lib.hid hn
      clear hv hn
      go_enter Tryz.func66, Tryz.ntmps66
      go_wp2_with (first
        | (exfalso; rename_i hu _; simp [undef] at hu; done)
        | (go_at_call 99; refine (split_no path hs _ HLI.out).mono ?_; rintro e1 w1 ⟨rfl, q, rfl⟩)
        | (go_at_call 65; refine (cutPrefix path _).mono ?_; rw [HV.out]; rintro e2 w2 ⟨rfl, rfl⟩)
        | (go_at_call 86; refine (number (trimV path) hts _).mono ?_; rw [HN.out]; rintro e3 w3 ⟨rfl, hb3⟩))
      go_ret
      exact ⟨ret_num HR.out.symm, (pw_drewN (Below.refl w.heap.size w) q).trans hb3⟩
    | true =>
    by_cases h2 : numV (trimV path) < 2
    · have HV := Lib.hid hv
      have HN := Lib.hid hn
      clear hv hn
      go_enter Tryz.func66, Tryz.ntmps66
      go_wp2_with (first
        | (exfalso; rename_i hu _; simp [undef] at hu; done)
        | (go_at_call 99; refine (split_no path hs _ HLI.out).mono ?_; rintro e1 w1 ⟨rfl, q, rfl⟩)
        | (go_at_call 65; refine (cutPrefix path _).mono ?_; rw [HV.out]; rintro e2 w2 ⟨rfl, rfl⟩)
        | (go_at_call 86; refine (number (trimV path) hts _).mono ?_; rw [HN.out]; rintro e3 w3 ⟨rfl, hb3⟩))
      go_ret
      exact ⟨ret_num HR.out.symm, (pw_drewN (Below.refl w.heap.size w) q).trans hb3⟩
    · have HV := Lib.hid hv
      have HN := Lib.hid hn
      clear hv hn
      go_enter Tryz.func66, Tryz.ntmps66
      go_wp2_with (first
        | (exfalso; rename_i hu _; simp [undef] at hu; done)
        | (go_at_call 99; refine (split_no path hs _ HLI.out).mono ?_; rintro e1 w1 ⟨rfl, q, rfl⟩)
        | (go_at_call 65; refine (cutPrefix path _).mono ?_; rw [HV.out]; rintro e2 w2 ⟨rfl, rfl⟩)
        | (go_at_call 86; refine (number (trimV path) hts _).mono ?_; rw [HN.out]; rintro e3 w3 ⟨rfl, hb3⟩)
        | (go_at_call 63; refine (slashP path _).mono ?_; rw [HP.out]; rintro e4 w4 ⟨rfl, rfl⟩))
      go_ret
      exact ⟨ret_num HR.out.symm, (pw_drewN (Below.refl w.heap.size w) q).trans hb3⟩
  · obtain ⟨L, hL⟩ : ∃ L, path.extract (i + 1) path.size = L := ⟨_, rfl⟩
    have hLs : L.size ≤ 1048576 := by rw [← hL, ByteArray.size_extract]; omega
    have hM : majorB path = majorT L := by unfold majorB; rw [hl, if_neg (by omega)]; show majorT (path.extract (i + 1) path.size) = _; rw [hL]
    rw [hM]
    have HL := Lib.hid hL
    have hts : (trimV L).size ≤ 1048576 := by have := trimV_size L; omega
    have HLI := Lib.hid hl
    clear hl hno hM hL
    cases hv : isV L with
    | false =>
      have HV := Lib.hid hv
      have HR := Lib.hid (show majorT L = 0 by unfold majorT; rw [hv]; rfl)
      obtain ⟨bn, HN⟩ : ∃ b, Hid (numOk (trimV L) = b) := ⟨_, Lib.hid rfl⟩
      clear hv
      go_enter Tryz.func66, Tryz.ntmps66
      go_wp2_with (first
        | (exfalso; rename_i hu _; simp [undef] at hu; done)
        | (go_at_call 99; refine (split_at path i hs _ HLI.out hi).mono ?_; rintro e1 w1 ⟨rfl, q, rfl⟩; rw [HL.out])
        | (go_at_call 65; refine (cutPrefix L _).mono ?_; rw [HV.out]; rintro e2 w2 ⟨rfl, rfl⟩)
        | (go_at_call 86; refine (number (trimV L) hts _).mono ?_; rw [HN.out]; rintro e3 w3 ⟨rfl, hb3⟩))
      go_ret
      exact ⟨ret_num HR.out.symm, (pw_drewN (Below.refl w.heap.size w) q).trans hb3⟩
    | true =>
    cases hn : numOk (trimV L) with
    | false =>
      have HV := Lib.hid hv
      have HN := Lib.hid hn
      have HR := Lib.hid (show majorT L = 0 by unfold majorT; rw [hv, hn]; rfl)
      clear hv hn
      go_enter Tryz.func66, Tryz.ntmps66
      go_wp2_with (first
        | (exfalso; rename_i hu _; simp [undef] at hu; done)
        | (go_at_call 99; refine (split_at path i hs _ HLI.out hi).mono ?_; rintro e1 w1 ⟨rfl, q, rfl⟩; rw [HL.out])
        | (go_at_call 65; refine (cutPrefix L _).mono ?_; rw [HV.out]; rintro e2 w2 ⟨rfl, rfl⟩)
        | (go_at_call 86; refine (number (trimV L) hts _).mono ?_; rw [HN.out]; rintro e3 w3 ⟨rfl, hb3⟩))
      go_ret
      exact ⟨ret_num HR.out.symm, (pw_drewN (Below.refl w.heap.size w) q).trans hb3⟩
    | true =>
    by_cases h2 : numV (trimV L) < 2
    · have HV := Lib.hid hv
      have HN := Lib.hid hn
      have HR := Lib.hid (show majorT L = 0 by unfold majorT; rw [hv, hn, decide_eq_false (by omega)]; rfl)
      clear hv hn
      go_enter Tryz.func66, Tryz.ntmps66
      go_wp2_with (first
        | (exfalso; rename_i hu _; simp [undef] at hu; done)
        | (go_at_call 99; refine (split_at path i hs _ HLI.out hi).mono ?_; rintro e1 w1 ⟨rfl, q, rfl⟩; rw [HL.out])
        | (go_at_call 65; refine (cutPrefix L _).mono ?_; rw [HV.out]; rintro e2 w2 ⟨rfl, rfl⟩)
        | (go_at_call 86; refine (number (trimV L) hts _).mono ?_; rw [HN.out]; rintro e3 w3 ⟨rfl, hb3⟩))
      go_ret
      exact ⟨ret_num HR.out.symm, (pw_drewN (Below.refl w.heap.size w) q).trans hb3⟩
    · have HV := Lib.hid hv
      have HN := Lib.hid hn
      have HR := Lib.hid (show majorT L = numV (trimV L) by unfold majorT; rw [hv, hn, decide_eq_true (by omega)]; rfl)
      clear hv hn
      cases i with
      | zero =>
        have HP := Lib.hid (slash_at (s := path) (t := t) (by rw [hat]; have : a = [] := List.length_eq_zero_iff.1 hai; rw [this]; rfl))
        go_enter Tryz.func66, Tryz.ntmps66
        go_wp2_with (first
          | (exfalso; rename_i hu _; simp [undef] at hu; done)
          | (go_at_call 99; refine (split_at path 0 hs _ HLI.out hi).mono ?_; rintro e1 w1 ⟨rfl, q, rfl⟩; rw [HL.out])
          | (go_at_call 65; refine (cutPrefix L _).mono ?_; rw [HV.out]; rintro e2 w2 ⟨rfl, rfl⟩)
          | (go_at_call 86; refine (number (trimV L) hts _).mono ?_; rw [HN.out]; rintro e3 w3 ⟨rfl, hb3⟩)
          | (go_at_call 63; refine (slashP path _).mono ?_; rw [HP.out]; rintro e4 w4 ⟨rfl, rfl⟩))
        go_ret
        exact ⟨ret_num HR.out.symm, (pw_drewN (Below.refl w.heap.size w) q).trans hb3⟩
      | succ j =>
        have hne : (path.extract 0 (j + 1)).toList.isEmpty = false := by
          rw [toList_empty]
          cases hx : (path.extract 0 (j + 1)).data.toList with
          | nil =>
            have h1 : (path.extract 0 (j + 1)).size = 0 := by
              have : (path.extract 0 (j + 1)).data.toList.length = (path.extract 0 (j + 1)).size := by rw [Array.length_toList]; rfl
              rw [← this, hx]; rfl
            rw [ByteArray.size_extract] at h1
            omega
          | cons b r => rfl
        go_enter Tryz.func66, Tryz.ntmps66
        go_wp2_with (first
          | (exfalso; rename_i hu _; simp [undef] at hu; done)
          | (go_at_call 99; refine (split_at path (j + 1) hs _ HLI.out hi).mono ?_; rintro e1 w1 ⟨rfl, q, rfl⟩; rw [HL.out])
          | (go_at_call 65; refine (cutPrefix L _).mono ?_; rw [HV.out]; rintro e2 w2 ⟨rfl, rfl⟩)
          | (go_at_call 86; refine (number (trimV L) hts _).mono ?_; rw [HN.out]; rintro e3 w3 ⟨rfl, hb3⟩))
        go_ret
        exact ⟨ret_num HR.out.symm, (pw_drewN (Below.refl w.heap.size w) q).trans hb3⟩
end Go.Proofs.YtcfmaeonginefaaGreatDoor.Major

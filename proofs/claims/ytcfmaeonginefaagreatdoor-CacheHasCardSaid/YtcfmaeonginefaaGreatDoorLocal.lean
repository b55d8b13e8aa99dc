/- gomod.Local, graftbedref05.Local: what they answer. -/
import Derived.Test.YtcfmaeonginefaaGreatDoorModule1
import Derived.Test.YtcfmaeonginefaaGreatDoorMajor3
namespace Go.Proofs.YtcfmaeonginefaaGreatDoor.Local
open Go Go.RowKit Go.Shelf Go.Proofs.YtcfmaeonginefaaGreatDoor.Seq Go.Proofs.YtcfmaeonginefaaGreatDoor.Cut Go.Proofs.YtcfmaeonginefaaGreatDoor.Elems Go.Proofs.YtcfmaeonginefaaGreatDoor.Paths Go.Proofs.YtcfmaeonginefaaGreatDoor.Made Go.Proofs.YtcfmaeonginefaaGreatDoor.Major3 Go.Proofs.YtcfmaeonginefaaGreatDoor.Fine1
set_option linter.unusedSimpArgs false
set_option linter.unusedVariables false

def d1 (t : ByteArray) : Bool := Lib.hasPrefix t.data.toList [46, 47]
def d2 (t : ByteArray) : Bool := Lib.hasPrefix t.data.toList [46, 46, 47]
def c1 (t : ByteArray) : ByteArray := ⟨(Lib.trimPrefix t.data.toList [46, 47]).toArray⟩
def c2 (t : ByteArray) : ByteArray := ⟨(Lib.trimPrefix t.data.toList [46, 46, 47]).toArray⟩
def st (t : ByteArray) : ByteArray := mk (strip t.data.toList)
/-- May a text be a local path? -/
def localB (s : ByteArray) : Bool := !((st s).toList == s.toList) && ((st s).toList.isEmpty || validB (st s))
theorem pre1 {l : List UInt8} (h : Lib.hasPrefix l [46, 47] = true) : ∃ t, l = 46 :: 47 :: t := by
  match l, h with
  | [], h => cases h
  | [a], h => simp [Lib.hasPrefix, List.isPrefixOf] at h
  | a :: b :: t, h =>
    simp [Lib.hasPrefix, List.isPrefixOf] at h
    exact ⟨t, by rw [← h.1, ← h.2]⟩
theorem pre2 {l : List UInt8} (h : Lib.hasPrefix l [46, 46, 47] = true) : ∃ t, l = 46 :: 46 :: 47 :: t := by
  match l, h with
  | [], h => cases h
  | [a], h => simp [Lib.hasPrefix, List.isPrefixOf] at h
  | [a, b], h => simp [Lib.hasPrefix, List.isPrefixOf] at h
  | a :: b :: c :: t, h =>
    simp [Lib.hasPrefix, List.isPrefixOf] at h
    exact ⟨t, by rw [← h.1, ← h.2.1, ← h.2.2]⟩
theorem lstrip1 (l : List UInt8) : strip (Lib.trimPrefix l [46, 47]) = strip l := by
  unfold Lib.trimPrefix
  by_cases h : Lib.hasPrefix l [46, 47] = true
  · rw [if_pos h]
    obtain ⟨t, rfl⟩ := pre1 h
    show strip t = strip (46 :: 47 :: t)
    rw [strip]
  · rw [if_neg h]
theorem lstrip2 (l : List UInt8) : strip (Lib.trimPrefix l [46, 46, 47]) = strip l := by
  unfold Lib.trimPrefix
  by_cases h : Lib.hasPrefix l [46, 46, 47] = true
  · rw [if_pos h]
    obtain ⟨t, rfl⟩ := pre2 h
    show strip t = strip (46 :: 46 :: 47 :: t)
    rw [strip]
  · rw [if_neg h]
theorem lstrip_id {l : List UInt8} (h1 : Lib.hasPrefix l [46, 47] = false) (h2 : Lib.hasPrefix l [46, 46, 47] = false) : strip l = l := by
  unfold strip
  split
  · simp [Lib.hasPrefix, List.isPrefixOf] at h1
  · simp [Lib.hasPrefix, List.isPrefixOf] at h2
  · rfl
theorem st_c1 (t : ByteArray) : st (c1 t) = st t := by unfold st; exact congrArg mk (lstrip1 t.data.toList)
theorem st_c2 (t : ByteArray) : st (c2 t) = st t := by unfold st; exact congrArg mk (lstrip2 t.data.toList)
theorem st_id {t : ByteArray} (h1 : d1 t = false) (h2 : d2 t = false) : st t = t := by unfold st; rw [lstrip_id h1 h2, mk_data]
theorem c1_no {t : ByteArray} (h : d1 t = false) : c1 t = t := by unfold c1 Lib.trimPrefix; rw [if_neg (by rw [show Lib.hasPrefix t.data.toList [46, 47] = false from h]; exact Bool.false_ne_true)]
theorem c2_no {t : ByteArray} (h : d2 t = false) : c2 t = t := by unfold c2 Lib.trimPrefix; rw [if_neg (by rw [show Lib.hasPrefix t.data.toList [46, 46, 47] = false from h]; exact Bool.false_ne_true)]
theorem c1_yes {t : ByteArray} (h : d1 t = true) : 2 ≤ t.size ∧ c1 t = t.extract 2 t.size := by
  have e := lenS t
  obtain ⟨r, hr⟩ := pre1 h
  constructor
  · rw [← e, hr]; simp
  · unfold c1 Lib.trimPrefix
    rw [if_pos (show Lib.hasPrefix t.data.toList [46, 47] = true from h), extract_mk, List.take_of_length_le (by simp <;> omega)]
    rfl
theorem c2_yes {t : ByteArray} (h : d2 t = true) : 3 ≤ t.size ∧ c2 t = t.extract 3 t.size := by
  have e := lenS t
  obtain ⟨r, hr⟩ := pre2 h
  constructor
  · rw [← e, hr]; simp
  · unfold c2 Lib.trimPrefix
    rw [if_pos (show Lib.hasPrefix t.data.toList [46, 46, 47] = true from h), extract_mk, List.take_of_length_le (by simp <;> omega)]
    rfl
theorem c1_size (t : ByteArray) : (c1 t).size ≤ t.size ∧ (d1 t = true → (c1 t).size < t.size) := by
  cases h : d1 t with
  | false => rw [c1_no h]; exact ⟨Nat.le_refl _, fun h => by cases h⟩
  | true =>
    obtain ⟨h1, h2⟩ := c1_yes h
    rw [h2, ByteArray.size_extract]
    exact ⟨by omega, fun _ => by omega⟩
theorem c2_size (t : ByteArray) : (c2 t).size ≤ t.size ∧ (d2 t = true → (c2 t).size < t.size) := by
  cases h : d2 t with
  | false => rw [c2_no h]; exact ⟨Nat.le_refl _, fun h => by cases h⟩
  | true =>
    obtain ⟨h1, h2⟩ := c2_yes h
    rw [h2, ByteArray.size_extract]
    exact ⟨by omega, fun _ => by omega⟩
theorem cp1 (t : ByteArray) (w : World) : Calls Tryz.prog 65 #[.string t, .string ⟨#[46, 47]⟩] w fun e w' => e = .returned (.tuple #[.string (c1 t), .bool (d1 t)]) ∧ w = w' := (Tryz.strings_CutPrefix t ⟨#[46, 47]⟩ w).mono fun _ _ h => ⟨h.1, h.2.symm⟩
theorem cp2 (t : ByteArray) (w : World) : Calls Tryz.prog 65 #[.string t, .string ⟨#[46, 46, 47]⟩] w fun e w' => e = .returned (.tuple #[.string (c2 t), .bool (d2 t)]) ∧ w = w' := (Tryz.strings_CutPrefix t ⟨#[46, 46, 47]⟩ w).mono fun _ _ h => ⟨h.1, h.2.symm⟩

def strS : Value → Nat
  | .string s => s.size
  | _ => 0
def upN : Value → Nat
  | .bool true => 1
  | _ => 0
set_option maxRecDepth 100000 in
set_option maxHeartbeats 4000000 in
theorem local_ (s : ByteArray) (hs : s.size ≤ 1048576) (w : World) : Calls Tryz.prog 32 #[.string s] w fun e w' => e = .returned (.bool (localB s)) ∧ Below w.heap.size w w' := by
  go_enter Tryz.func32, Tryz.ntmps32
  go_wp2
  go_loop [3, 4] (fun v3 v4 => ∃ (t : ByteArray) (up : Bool), v3 = .string t ∧ v4 = .bool up ∧ t.size ≤ s.size ∧ Hid (st t = st s) ∧ (up = false → Hid (st t = t))) (fun v3 v4 => strS v3 + upN v4)
  case atStart => exact ⟨s, true, rfl, rfl, Nat.le_refl _, Lib.hid rfl, fun h => by cases h⟩
  case round =>
    obtain ⟨t, up, rfl, rfl, hts, HS, HI⟩ := hrel
    cases up with
    | true =>
      clear HI
      have HS2 := Lib.hid (show st (c2 (c1 t)) = st s by rw [st_c2, st_c1, HS.out])
      have z1 := c1_size t
      have z2 := c2_size (c1 t)
      have HZ1 := Lib.hid z1.2
      have HZ2 := Lib.hid z2.2
      have z3 := z1.1
      have z4 := z2.1
      have HID := Lib.hid (show d1 t = false → d2 (c1 t) = false → st (c2 (c1 t)) = c2 (c1 t) from fun h1 h2 => by
        rw [c2_no h2, c1_no h1] at *
        exact st_id h1 h2)
      clear z1 z2
      cases hu : d2 (c1 t) with
      | true =>
        have hz := HZ2.out hu
        have HU := Lib.hid hu
        obtain ⟨b, HB⟩ : ∃ b, Hid (d1 t = b) := ⟨_, Lib.hid rfl⟩
        clear hu
        go_wp2_with (go_at_call 65; first | ((with_reducible refine (cp1 t _).mono ?_); rw [HB.out]; rintro e1 w1 ⟨rfl, rfl⟩) | ((with_reducible refine (cp2 (c1 t) _).mono ?_); rw [HU.out]; rintro e2 w2 ⟨rfl, rfl⟩))
        go_round
        case rel => exact ⟨c2 (c1 t), true, rfl, rfl, by omega, HS2, fun h => by cases h⟩
        case measure => simp [strS, upN] <;> omega
      | false =>
        cases hd : d1 t with
        | true =>
          have hz := HZ1.out hd
          have HU := Lib.hid hu
          have HB := Lib.hid hd
          clear hu hd
          go_wp2_with (go_at_call 65; first | ((with_reducible refine (cp1 t _).mono ?_); rw [HB.out]; rintro e1 w1 ⟨rfl, rfl⟩) | ((with_reducible refine (cp2 (c1 t) _).mono ?_); rw [HU.out]; rintro e2 w2 ⟨rfl, rfl⟩))
          go_round
          case rel => exact ⟨c2 (c1 t), true, rfl, rfl, by omega, HS2, fun h => by cases h⟩
          case measure => simp [strS, upN] <;> omega
        | false =>
          have HI2 := Lib.hid (HID.out hd hu)
          have HU := Lib.hid hu
          have HB := Lib.hid hd
          clear hu hd
          go_wp2_with (go_at_call 65; first | ((with_reducible refine (cp1 t _).mono ?_); rw [HB.out]; rintro e1 w1 ⟨rfl, rfl⟩) | ((with_reducible refine (cp2 (c1 t) _).mono ?_); rw [HU.out]; rintro e2 w2 ⟨rfl, rfl⟩))
          go_round
          case rel => exact ⟨c2 (c1 t), false, rfl, rfl, by omega, HS2, fun _ => HI2⟩
          case measure => simp [strS, upN] <;> omega
    | false =>
      have HR := Lib.hid (show localB s = (!(t.toList == s.toList) && (t.toList.isEmpty || validB t)) by unfold localB; rw [← HS.out, (HI rfl).out])
      have hts2 : t.size ≤ 1048576 := by omega
      clear HI
      cases h1 : t.toList == s.toList with
      | true =>
        rw [h1] at HR
        go_wp2_with (first | (exfalso; rename_i hu _; simp [undef] at hu; done))
        go_ret
        exact ⟨ret_bool HR.out.symm, Below.refl _ _⟩
      | false =>
        rw [h1] at HR
        cases h2 : t.toList.isEmpty with
        | true =>
          rw [h2] at HR
          go_wp2_with (first | (exfalso; rename_i hu _; simp [undef] at hu; done))
          go_ret
          exact ⟨ret_bool HR.out.symm, Below.refl _ _⟩
        | false =>
          rw [h2] at HR
          obtain ⟨b, HB⟩ : ∃ b, Hid (validB t = b) := ⟨_, Lib.hid rfl⟩
          rw [HB.out] at HR
          go_wp2_with (first | (exfalso; rename_i hu _; simp [undef] at hu; done) | (go_at_call 58; refine (Made.Valid t hts2 _).mono ?_; rw [HB.out]; rintro e3 w3 ⟨rfl, hb3⟩))
          go_ret
          exact ⟨ret_bool (by rw [HR.out]; rfl), hb3⟩

set_option maxHeartbeats 1000000 in
theorem begins (s p : ByteArray) (hs : s.size ≤ 1048576) (hp : p.size ≤ 10) (w : World) : Calls Tryz.prog 67 #[.string s, .string p] w fun e w' => e = .returned (.bool (Lib.hasPrefix s.data.toList p.data.toList)) ∧ w = w' := by
  by_cases h : p.size ≤ s.size
  · have hi : (p.size : Int) ≤ s.size := by omega
    have e : Lib.hasPrefix s.data.toList p.data.toList = ((s.extract 0 p.size).toList == p.toList) := by
      rw [Lib.toList_data, Lib.toList_data, extract_mk, Nat.sub_zero, List.drop_zero]
      show p.data.toList.isPrefixOf s.data.toList = (s.data.toList.take p.size == p.data.toList)
      rw [Bool.eq_iff_iff, List.isPrefixOf_iff_prefix, beq_iff_eq, List.prefix_iff_eq_take, lenS]
      exact eq_comm
    rw [e]
    obtain ⟨b, HB⟩ : ∃ b, Hid (((s.extract 0 p.size).toList == p.toList) = b) := ⟨_, Lib.hid rfl⟩
    rw [HB.out]
    clear e h
    go_enter Tryz.func67, Tryz.ntmps67
    go_wp2_with (first | (exfalso; rename_i hu _; simp [undef] at hu; done))
    go_ret
    exact ⟨ret_bool HB.out, rfl⟩
  · have e : Lib.hasPrefix s.data.toList p.data.toList = false := by
      cases h2 : Lib.hasPrefix s.data.toList p.data.toList with
      | false => rfl
      | true =>
        exfalso
        have h3 : p.data.toList.isPrefixOf s.data.toList = true := h2
        rw [List.isPrefixOf_iff_prefix] at h3
        have := h3.length_le
        rw [lenS, lenS] at this
        exact h this
    rw [e]
    have hi : ¬ (p.size : Int) ≤ s.size := by omega
    have hi2 : (s.size : Int) < p.size := by omega
    clear e h
    go_enter Tryz.func67, Tryz.ntmps67
    go_wp2_with (first | (exfalso; rename_i hu _; simp [undef] at hu; done))
    go_ret
    exact ⟨rfl, rfl⟩

theorem b1 (t : ByteArray) (ht : t.size ≤ 1048576) (w : World) : Calls Tryz.prog 67 #[.string t, .string ⟨#[46, 47]⟩] w fun e w' => e = .returned (.bool (d1 t)) ∧ w = w' := begins t ⟨#[46, 47]⟩ ht (by decide) w
theorem b2 (t : ByteArray) (ht : t.size ≤ 1048576) (w : World) : Calls Tryz.prog 67 #[.string t, .string ⟨#[46, 46, 47]⟩] w fun e w' => e = .returned (.bool (d2 t)) ∧ w = w' := begins t ⟨#[46, 46, 47]⟩ ht (by decide) w
theorem strip_len : ∀ l : List UInt8, (strip l).length ≤ l.length := by
  intro l
  fun_induction strip l with
  | case1 t ih => simp; omega
  | case2 t ih => simp; omega
  | case3 l h1 h2 => exact Nat.le_refl _
theorem st_size (t : ByteArray) : (st t).size ≤ t.size := by
  have h1 := strip_len t.data.toList
  rw [lenS] at h1
  have h2 : (st t).size = (strip t.data.toList).length := by
    rw [← lenS]; unfold st mk; rfl
  omega
theorem st_other {s : ByteArray} (h : d1 s = true ∨ d2 s = true) : ((st s).toList == s.toList) = false := by
  have hz : (st s).size < s.size := by
    rcases h with h | h
    · rw [← st_c1]; have := st_size (c1 s); have := (c1_size s).2 h; omega
    · rw [← st_c2]; have := st_size (c2 s); have := (c2_size s).2 h; omega
  rw [beq_eq_false_iff_ne]
  intro e
  rw [Lib.toList_data, Lib.toList_data] at e
  have := congrArg List.length e
  rw [lenS, lenS] at this
  omega

set_option maxRecDepth 100000 in
set_option maxHeartbeats 4000000 in
theorem local5 (s : ByteArray) (hs : s.size ≤ 1048576) (w : World) : Calls Tryz.prog 35 #[.string s] w fun e w' => e = .returned (.bool (localB s)) ∧ Below w.heap.size w w' := by
  have h0 : (d1 s = false ∧ d2 s = false) ∨ (d1 s = true ∨ d2 s = true) := by cases d1 s <;> cases d2 s <;> simp
  rcases h0 with ⟨ha, hb⟩ | h0
  · have HR := Lib.hid (show localB s = false by unfold localB; rw [st_id ha hb]; simp)
    have HA := Lib.hid ha
    have HB := Lib.hid hb
    clear ha hb
    go_enter Tryz.func35, Tryz.ntmps35
    go_wp2_with (first | (exfalso; rename_i hu _; simp [undef] at hu; done) | (go_at_call 67; first | ((with_reducible refine (b1 s hs _).mono ?_); rw [HA.out]; rintro e1 w1 ⟨rfl, rfl⟩) | ((with_reducible refine (b2 s hs _).mono ?_); rw [HB.out]; rintro e2 w2 ⟨rfl, rfl⟩)))
    go_ret
    exact ⟨ret_bool HR.out.symm, Below.refl _ _⟩
  have HO := Lib.hid (st_other h0)
  obtain ⟨s0, h00⟩ : ∃ s0, s = s0 := ⟨_, rfl⟩
  have e0 : localB s = localB s0 := by rw [h00]
  have HSS := Lib.hid (show st s = st s0 by rw [h00])
  rw [h00] at HO
  rw [e0]
  have key : ∀ ba bb, d1 s = ba → d2 s = bb → (ba = true ∨ bb = true) → Calls Tryz.prog 35 #[.string s] w fun e w' => e = .returned (.bool (localB s0)) ∧ Below w.heap.size w w' := by
    intro ba bb ha hb hab
    have HA := Lib.hid ha
    have HB := Lib.hid hb
    clear ha hb h00 e0 h0
    have hsz : s.size ≤ s.size := Nat.le_refl _
    cases ba <;> cases bb
    · exact absurd hab (by decide)
    all_goals
      clear hab
      go_enter Tryz.func35, Tryz.ntmps35
      go_wp2_with (first | (exfalso; rename_i hu _; simp [undef] at hu; done) | (go_at_call 67; first | ((with_reducible refine (b1 s hs _).mono ?_); rw [HA.out]; rintro e1 w1 ⟨rfl, rfl⟩) | ((with_reducible refine (b2 s hs _).mono ?_); rw [HB.out]; rintro e2 w2 ⟨rfl, rfl⟩)))
      go_loop [0] (fun v0 => ∃ (t : ByteArray), v0 = .string t ∧ t.size ≤ 1048576 ∧ Hid (st t = st s0)) (fun v0 => strS v0)
      case atStart => exact ⟨s, rfl, hs, HSS⟩
      case round =>
        clear HA HB
        obtain ⟨t, rfl, hts, HS⟩ := hrel
        cases h1 : d1 t with
        | true =>
          obtain ⟨z1, z2⟩ := c1_yes h1
          have z3 := (c1_size t).2 h1
          have HE := Lib.hid z2
          have H1 := Lib.hid h1
          have z1' : (2 : Int) ≤ t.size := by omega
          have HS2 := Lib.hid (show st (t.extract 2 t.size) = st s0 by rw [← z2, st_c1, HS.out])
          have z4 : (t.extract 2 t.size).size < t.size := by rw [← z2]; exact z3
          clear h1 z2 z3
          go_wp2_with (first | (exfalso; rename_i hu _; simp [undef] at hu; done) | (go_at_call 67; (with_reducible refine (b1 t hts _).mono ?_); rw [H1.out]; rintro e1 w1 ⟨rfl, rfl⟩))
          go_round
          case rel => exact ⟨_, rfl, by omega, HS2⟩
          case measure => simp only [strS] <;> omega
        | false =>
          cases h2 : d2 t with
          | true =>
            obtain ⟨z1, z2⟩ := c2_yes h2
            have z3 := (c2_size t).2 h2
            have HE := Lib.hid z2
            have H1 := Lib.hid h1
            have H2 := Lib.hid h2
            have z1' : (3 : Int) ≤ t.size := by omega
            have HS2 := Lib.hid (show st (t.extract 3 t.size) = st s0 by rw [← z2, st_c2, HS.out])
            have z4 : (t.extract 3 t.size).size < t.size := by rw [← z2]; exact z3
            clear h1 h2 z2 z3
            go_wp2_with (first | (exfalso; rename_i hu _; simp [undef] at hu; done) | (go_at_call 67; first | ((with_reducible refine (b1 t hts _).mono ?_); rw [H1.out]; rintro e1 w1 ⟨rfl, rfl⟩) | ((with_reducible refine (b2 t hts _).mono ?_); rw [H2.out]; rintro e2 w2 ⟨rfl, rfl⟩)))
            go_round
            case rel => exact ⟨_, rfl, by omega, HS2⟩
            case measure => simp only [strS] <;> omega
          | false =>
            have HR := Lib.hid (show localB s0 = (t.toList.isEmpty || validB t) by unfold localB; rw [HO.out, ← HS.out, st_id h1 h2]; rfl)
            have H1 := Lib.hid h1
            have H2 := Lib.hid h2
            clear h1 h2
            cases h3 : t.toList.isEmpty with
            | true =>
              rw [h3] at HR
              go_wp2_with (first | (exfalso; rename_i hu _; simp [undef] at hu; done) | (go_at_call 67; first | ((with_reducible refine (b1 t hts _).mono ?_); rw [H1.out]; rintro e1 w1 ⟨rfl, rfl⟩) | ((with_reducible refine (b2 t hts _).mono ?_); rw [H2.out]; rintro e2 w2 ⟨rfl, rfl⟩)))
              go_ret
              exact ⟨ret_bool HR.out.symm, Below.refl _ _⟩
            | false =>
              rw [h3] at HR
              obtain ⟨b, HB3⟩ : ∃ b, Hid (validB t = b) := ⟨_, Lib.hid rfl⟩
              rw [HB3.out] at HR
              go_wp2_with (first | (exfalso; rename_i hu _; simp [undef] at hu; done) | (go_at_call 67; first | ((with_reducible refine (b1 t hts _).mono ?_); rw [H1.out]; rintro e1 w1 ⟨rfl, rfl⟩) | ((with_reducible refine (b2 t hts _).mono ?_); rw [H2.out]; rintro e2 w2 ⟨rfl, rfl⟩)) | (go_at_call 68; refine (valid01 t hts _).mono ?_; rw [HB3.out]; rintro e3 w3 ⟨rfl, hb3⟩))
              go_ret
              exact ⟨ret_bool (by rw [HR.out]; rfl), hb3⟩
  exact key _ _ rfl rfl h0
end Go.Proofs.YtcfmaeonginefaaGreatDoor.Local

/- graftbedref03: Compare: what it answers. -/
import Derived.Test.YtcfmaeonginefaaGreatDoorOrder3
import Derived.Test.YtcfmaeonginefaaGreatDoorParse3
namespace Go.Proofs.YtcfmaeonginefaaGreatDoor.Compare3
open Go Go.RowKit Go.Shelf Go.Proofs.YtcfmaeonginefaaGreatDoor.Seq Go.Proofs.YtcfmaeonginefaaGreatDoor.Cut Go.Proofs.YtcfmaeonginefaaGreatDoor.Elems Go.Proofs.YtcfmaeonginefaaGreatDoor.Paths Go.Proofs.YtcfmaeonginefaaGreatDoor.Made Go.Proofs.YtcfmaeonginefaaGreatDoor.Idents Go.Proofs.YtcfmaeonginefaaGreatDoor.Sign Go.Proofs.YtcfmaeonginefaaGreatDoor.Order Go.Proofs.YtcfmaeonginefaaGreatDoor.OrderPre Go.Proofs.YtcfmaeonginefaaGreatDoor.Num3 Go.Proofs.YtcfmaeonginefaaGreatDoor.Order3 Go.Proofs.YtcfmaeonginefaaGreatDoor.Parse Go.Proofs.YtcfmaeonginefaaGreatDoor.Parse3 Go.Proofs.YtcfmaeonginefaaGreatDoor.Idents3 Go.Proofs.YtcfmaeonginefaaGreatDoor.Split3
set_option linter.unusedSimpArgs false
set_option linter.unusedVariables false

/-- Two versions that are versions. -/
def compareV (M m p : Int) (pre : ByteArray) (M' m' p' : Int) (pre' : ByteArray) : Int :=
  orB (Lib.compareInt M M') (orB (Lib.compareInt m m') (orB (Lib.compareInt p p') (orderPreB pre pre')))
/-- semver.Compare. -/
def compareB (a b : ByteArray) : Int :=
  if (parseB a).2.2.2.2.2 = 0 then (if (parseB b).2.2.2.2.2 = 0 then compareV (parseB a).1 (parseB a).2.1 (parseB a).2.2.1 (parseB a).2.2.2.1 (parseB b).1 (parseB b).2.1 (parseB b).2.2.1 (parseB b).2.2.2.1 else 1)
  else (if (parseB b).2.2.2.2.2 = 0 then -1 else 0)
theorem parse3x (s : ByteArray) (hs : s.size ≤ 1048576) {M m p : Int} {pre me : ByteArray} {e : Int} (h : parseB s = (M, m, p, pre, me, e)) (w : World) :
    Calls Tryz.prog 71 #[.string s] w fun e' w' => e' = .returned (.tuple #[.agg #[.int .i64 M, .int .i64 m, .int .i64 p, .string pre, .string me], .int .i64 e]) ∧ Below w.heap.size w w' :=
  (parse3 s hs w).mono fun e' w' ⟨he, hb⟩ => ⟨by rw [he, h]; rfl, hb⟩
theorem parseB_pre (s : ByteArray) (hs : s.size ≤ 1048576) : (parseB s).2.2.2.1.size ≤ 1048576 := by
  unfold parseB
  split
  · show (preC s).2.1.size ≤ _
    have h1 := (cutB_size (metaC s).1 45).1
    have h2 := cutB_size1 (trimV s) 43
    have h3 := trimV_size s
    unfold preC
    unfold metaC at h1 ⊢
    omega
  · exact Nat.zero_le _

def unspl (c : UInt8) : List (List UInt8) → List UInt8
  | [] => []
  | [x] => x
  | x :: y :: r => x ++ c :: unspl c (y :: r)
theorem unspl_spl (c : UInt8) : ∀ l, unspl c (spl c l) = l
  | [] => rfl
  | b :: t => by
    have ih := unspl_spl c t
    by_cases e : b = c
    · subst e
      have hd : spl b (b :: t) = [] :: spl b t := by simp [spl]
      rw [hd]
      cases hs : spl b t with
      | nil => exact absurd hs (spl_ne b t)
      | cons x r => rw [hs] at ih; show [] ++ b :: unspl b (x :: r) = _; rw [ih]; rfl
    · rw [spl_cons b t c e]
      cases hs : spl c t with
      | nil => exact absurd hs (spl_ne c t)
      | cons x r =>
        rw [hs] at ih
        cases r with
        | nil => show b :: x = _; rw [← ih]; rfl
        | cons y r => show (b :: x) ++ c :: unspl c (y :: r) = _; rw [← ih]; rfl
theorem splB_inj {c : UInt8} {a b : ByteArray} (h : splB c a = splB c b) : a = b := by
  unfold splB at h
  have hm : ∀ l m : List (List UInt8), l.map mk = m.map mk → l = m := fun l m h => by
    have := congrArg (List.map (fun x : ByteArray => x.data.toList)) h
    simpa [mk, List.map_map, Function.comp_def] using this
  have h1 := hm _ _ h
  have h2 := congrArg (unspl c) h1
  rw [unspl_spl, unspl_spl] at h2
  rw [← mk_data a, ← mk_data b, h2]

theorem ordL_skip : ∀ (n : Nat) (xs ys : List ByteArray) (h : ∀ j (h1 : j < xs.length) (h2 : j < ys.length), j < n → orderB xs[j] ys[j] = 0), n ≤ xs.length → n ≤ ys.length → ordL xs ys = ordL (xs.drop n) (ys.drop n)
  | 0, _, _, _, _, _ => rfl
  | n + 1, [], _, _, h, _ => absurd h (by simp)
  | n + 1, _ :: _, [], _, _, h => absurd h (by simp)
  | n + 1, x :: xs, y :: ys, hz, h1, h2 => by
    have h0 : orderB x y = 0 := hz 0 (by simp) (by simp) (by omega)
    show (if orderB x y = 0 then ordL xs ys else orderB x y) = _
    rw [if_pos h0]
    exact ordL_skip n xs ys (fun j a b c => hz (j + 1) (by simpa using a) (by simpa using b) (by omega)) (by simpa using h1) (by simpa using h2)
theorem ordL_at {n : Nat} {xs ys : List ByteArray} (hz : ∀ j (h1 : j < xs.length) (h2 : j < ys.length), j < n → orderB xs[j] ys[j] = 0) (h1 : n < xs.length) (h2 : n < ys.length) (hne : orderB xs[n] ys[n] ≠ 0) : ordL xs ys = orderB xs[n] ys[n] := by
  rw [ordL_skip n xs ys hz (by omega) (by omega), List.drop_eq_getElem_cons h1, List.drop_eq_getElem_cons h2]
  show (if orderB xs[n] ys[n] = 0 then _ else _) = _
  rw [if_neg hne]
theorem ordL_end {n : Nat} {xs ys : List ByteArray} (hz : ∀ j (h1 : j < xs.length) (h2 : j < ys.length), j < n → orderB xs[j] ys[j] = 0) (h1 : n ≤ xs.length) (h2 : n ≤ ys.length) (he : n = xs.length ∨ n = ys.length) (hne : xs ≠ ys) : ordL xs ys = lessB (decide ((xs.length : Int) < ys.length)) := by
  rw [ordL_skip n xs ys hz h1 h2]
  by_cases hl : xs.length < ys.length
  · have hn : n = xs.length := by omega
    subst hn
    rw [List.drop_length, decide_eq_true (by omega)]
    rfl
  · rw [decide_eq_false (by omega)]
    by_cases hg : ys.length < xs.length
    · have hn : n = ys.length := by omega
      subst hn
      rw [List.drop_length, List.drop_eq_getElem_cons hg]
      rfl
    · exfalso
      have hn : n = xs.length := by omega
      refine hne (List.ext_getElem (by omega) fun j a b => orderB_zero (hz j a b (by omega)))
theorem order3q (a b : ByteArray) (ha : a.size ≤ 1048576) (hb : b.size ≤ 1048576) {r : Int} (h : orderB a b = r) (w : World) : Calls Tryz.prog 76 #[.string a, .string b] w fun e w' => e = .returned (.int .i64 r) ∧ w' = w := (order3 a b ha hb w).mono fun e w' k => ⟨by rw [k.1, h], k.2.symm⟩
theorem orB_self (x z : Int) : orB (Lib.compareInt x x) z = z := by unfold orB Lib.compareInt; simp
theorem orB_ne {x y : Int} (h : x ≠ y) (z : Int) : orB (Lib.compareInt x y) z = lessB (decide (x < y)) := by
  unfold orB Lib.compareInt lessB
  by_cases c : x < y
  · simp [c]
  · simp [c, show x > y by omega]

set_option maxRecDepth 100000 in
set_option maxHeartbeats 4000000 in
theorem compare3 (a b : ByteArray) (ha : a.size ≤ 1048576) (hb : b.size ≤ 1048576) (w : World) : Calls Tryz.prog 40 #[.string a, .string b] w fun e w' => e = .returned (.int .i64 (compareB a b)) ∧ Below w.heap.size w w' := by
  have hp1 := parseB_pre a ha
  have hp2 := parseB_pre b hb
  obtain ⟨⟨M, m, p, pre, me, e⟩, hA⟩ : ∃ r, parseB a = r := ⟨_, rfl⟩
  obtain ⟨⟨M', m', p', pre', me', e'⟩, hB⟩ : ∃ r, parseB b = r := ⟨_, rfl⟩
  have hC : compareB a b = if e = 0 then (if e' = 0 then compareV M m p pre M' m' p' pre' else 1) else (if e' = 0 then -1 else 0) := by unfold compareB; rw [hA, hB]
  rw [hC]
  rw [hA] at hp1
  rw [hB] at hp2
  dsimp only at hp1 hp2
  have HA := Lib.hid hA
  have HB := Lib.hid hB
  clear hA hB hC
  by_cases he : e = 0
  case neg =>
    by_cases he' : e' = 0
    · rw [if_neg he, if_pos he']
      have q1 : (e != 0) = true := by simpa using he
      have q2 : (e' != 0) = false := by simpa using he'
      clear he he'
      go_enter Tryz.func40, Tryz.ntmps40
      go_wp2_with (first
        | (exfalso; rename_i hu _; simp [undef] at hu; done)
        | (go_at_call 71; first | ((with_reducible refine (parse3x a ha HA.out _).mono ?_); rintro e1 w1 ⟨rfl, hb1⟩) | ((with_reducible refine (parse3x b hb HB.out _).mono ?_); rintro e2 w2 ⟨rfl, hb2⟩; have h0 : w2.heap[w1.heap.size]? = some (.cells #[.int .i64 M, .int .i64 m, .int .i64 p, .string pre, .string me] 87) := (hb2.block _ (by simp)).trans (newAt _ _ _ rfl); have hlt : w1.heap.size < w2.heap.size := (Array.getElem?_eq_some_iff.1 h0).1; have hww : Below w.heap.size w w2 := (hb1.alloc hb1.size _).trans (hb2.mono (by have := hb1.size; simp <;> omega)); have hsz2 : w.heap.size ≤ w2.heap.size := hww.size; have hbf : Below w.heap.size w (w2.alloc (.cells #[.int .i64 M', .int .i64 m', .int .i64 p', .string pre', .string me'] 87)) := hww.alloc hsz2 _; have hne : w1.heap.size ≠ w2.heap.size := (by omega); obtain ⟨⟨p0, p1, p2, p3, p4⟩, f0, f1, f2, f3, f4⟩ := c5 h0))
        | (go_at_call 74; refine (less3 _ _).mono ?_; rintro e w' ⟨rfl, rfl⟩))
      go_ret
      exact ⟨rfl, hbf⟩
    · rw [if_neg he, if_neg he']
      have q1 : (e != 0) = true := by simpa using he
      have q2 : (e' != 0) = true := by simpa using he'
      clear he he'
      go_enter Tryz.func40, Tryz.ntmps40
      go_wp2_with (first
        | (exfalso; rename_i hu _; simp [undef] at hu; done)
        | (go_at_call 71; first | ((with_reducible refine (parse3x a ha HA.out _).mono ?_); rintro e1 w1 ⟨rfl, hb1⟩) | ((with_reducible refine (parse3x b hb HB.out _).mono ?_); rintro e2 w2 ⟨rfl, hb2⟩; have h0 : w2.heap[w1.heap.size]? = some (.cells #[.int .i64 M, .int .i64 m, .int .i64 p, .string pre, .string me] 87) := (hb2.block _ (by simp)).trans (newAt _ _ _ rfl); have hlt : w1.heap.size < w2.heap.size := (Array.getElem?_eq_some_iff.1 h0).1; have hww : Below w.heap.size w w2 := (hb1.alloc hb1.size _).trans (hb2.mono (by have := hb1.size; simp <;> omega)); have hsz2 : w.heap.size ≤ w2.heap.size := hww.size; have hbf : Below w.heap.size w (w2.alloc (.cells #[.int .i64 M', .int .i64 m', .int .i64 p', .string pre', .string me'] 87)) := hww.alloc hsz2 _; have hne : w1.heap.size ≠ w2.heap.size := (by omega); obtain ⟨⟨p0, p1, p2, p3, p4⟩, f0, f1, f2, f3, f4⟩ := c5 h0))
        | (go_at_call 74; refine (less3 _ _).mono ?_; rintro e w' ⟨rfl, rfl⟩))
      go_ret
      exact ⟨rfl, hbf⟩
  by_cases he' : e' = 0
  case neg =>
    rw [if_pos he, if_neg he']
    have q1 : (e != 0) = false := by simpa using he
    have q2 : (e' != 0) = true := by simpa using he'
    clear he he'
    go_enter Tryz.func40, Tryz.ntmps40
    go_wp2_with (first
      | (exfalso; rename_i hu _; simp [undef] at hu; done)
      | (go_at_call 71; first | ((with_reducible refine (parse3x a ha HA.out _).mono ?_); rintro e1 w1 ⟨rfl, hb1⟩) | ((with_reducible refine (parse3x b hb HB.out _).mono ?_); rintro e2 w2 ⟨rfl, hb2⟩; have h0 : w2.heap[w1.heap.size]? = some (.cells #[.int .i64 M, .int .i64 m, .int .i64 p, .string pre, .string me] 87) := (hb2.block _ (by simp)).trans (newAt _ _ _ rfl); have hlt : w1.heap.size < w2.heap.size := (Array.getElem?_eq_some_iff.1 h0).1; have hww : Below w.heap.size w w2 := (hb1.alloc hb1.size _).trans (hb2.mono (by have := hb1.size; simp <;> omega)); have hsz2 : w.heap.size ≤ w2.heap.size := hww.size; have hbf : Below w.heap.size w (w2.alloc (.cells #[.int .i64 M', .int .i64 m', .int .i64 p', .string pre', .string me'] 87)) := hww.alloc hsz2 _; have hne : w1.heap.size ≠ w2.heap.size := (by omega); obtain ⟨⟨p0, p1, p2, p3, p4⟩, f0, f1, f2, f3, f4⟩ := c5 h0))
      | (go_at_call 74; refine (less3 _ _).mono ?_; rintro e w' ⟨rfl, rfl⟩))
    go_ret
    exact ⟨rfl, hbf⟩
  rw [if_pos he, if_pos he']
  have q1 : (e != 0) = false := by simpa using he
  have q2 : (e' != 0) = false := by simpa using he'
  clear he he'
  by_cases c1 : M = M'
  case neg =>
    have r : compareV M m p pre M' m' p' pre' = lessB (decide (M < M')) := orB_ne c1 _
    rw [r]
    have c1' : (M != M') = true := by simpa using c1
    clear r c1
    go_enter Tryz.func40, Tryz.ntmps40
    go_wp2_with (first
      | (exfalso; rename_i hu _; simp [undef] at hu; done)
      | (go_at_call 71; first | ((with_reducible refine (parse3x a ha HA.out _).mono ?_); rintro e1 w1 ⟨rfl, hb1⟩) | ((with_reducible refine (parse3x b hb HB.out _).mono ?_); rintro e2 w2 ⟨rfl, hb2⟩; have h0 : w2.heap[w1.heap.size]? = some (.cells #[.int .i64 M, .int .i64 m, .int .i64 p, .string pre, .string me] 87) := (hb2.block _ (by simp)).trans (newAt _ _ _ rfl); have hlt : w1.heap.size < w2.heap.size := (Array.getElem?_eq_some_iff.1 h0).1; have hww : Below w.heap.size w w2 := (hb1.alloc hb1.size _).trans (hb2.mono (by have := hb1.size; simp <;> omega)); have hsz2 : w.heap.size ≤ w2.heap.size := hww.size; have hbf : Below w.heap.size w (w2.alloc (.cells #[.int .i64 M', .int .i64 m', .int .i64 p', .string pre', .string me'] 87)) := hww.alloc hsz2 _; have hne : w1.heap.size ≠ w2.heap.size := (by omega); obtain ⟨⟨p0, p1, p2, p3, p4⟩, f0, f1, f2, f3, f4⟩ := c5 h0))
      | (go_at_call 74; refine (less3 _ _).mono ?_; rintro e w' ⟨rfl, rfl⟩))
    go_ret
    exact ⟨rfl, hbf⟩
  subst c1
  by_cases c2 : m = m'
  case neg =>
    have r : compareV M m p pre M m' p' pre' = lessB (decide (m < m')) := by unfold compareV; rw [orB_self, orB_ne c2]
    rw [r]
    have c2' : (m != m') = true := by simpa using c2
    clear r c2
    go_enter Tryz.func40, Tryz.ntmps40
    go_wp2_with (first
      | (exfalso; rename_i hu _; simp [undef] at hu; done)
      | (go_at_call 71; first | ((with_reducible refine (parse3x a ha HA.out _).mono ?_); rintro e1 w1 ⟨rfl, hb1⟩) | ((with_reducible refine (parse3x b hb HB.out _).mono ?_); rintro e2 w2 ⟨rfl, hb2⟩; have h0 : w2.heap[w1.heap.size]? = some (.cells #[.int .i64 M, .int .i64 m, .int .i64 p, .string pre, .string me] 87) := (hb2.block _ (by simp)).trans (newAt _ _ _ rfl); have hlt : w1.heap.size < w2.heap.size := (Array.getElem?_eq_some_iff.1 h0).1; have hww : Below w.heap.size w w2 := (hb1.alloc hb1.size _).trans (hb2.mono (by have := hb1.size; simp <;> omega)); have hsz2 : w.heap.size ≤ w2.heap.size := hww.size; have hbf : Below w.heap.size w (w2.alloc (.cells #[.int .i64 M, .int .i64 m', .int .i64 p', .string pre', .string me'] 87)) := hww.alloc hsz2 _; have hne : w1.heap.size ≠ w2.heap.size := (by omega); obtain ⟨⟨p0, p1, p2, p3, p4⟩, f0, f1, f2, f3, f4⟩ := c5 h0))
      | (go_at_call 74; refine (less3 _ _).mono ?_; rintro e w' ⟨rfl, rfl⟩))
    go_ret
    exact ⟨rfl, hbf⟩
  subst c2
  by_cases c3 : p = p'
  case neg =>
    have r : compareV M m p pre M m p' pre' = lessB (decide (p < p')) := by unfold compareV; rw [orB_self, orB_self, orB_ne c3]
    rw [r]
    have c3' : (p != p') = true := by simpa using c3
    clear r c3
    go_enter Tryz.func40, Tryz.ntmps40
    go_wp2_with (first
      | (exfalso; rename_i hu _; simp [undef] at hu; done)
      | (go_at_call 71; first | ((with_reducible refine (parse3x a ha HA.out _).mono ?_); rintro e1 w1 ⟨rfl, hb1⟩) | ((with_reducible refine (parse3x b hb HB.out _).mono ?_); rintro e2 w2 ⟨rfl, hb2⟩; have h0 : w2.heap[w1.heap.size]? = some (.cells #[.int .i64 M, .int .i64 m, .int .i64 p, .string pre, .string me] 87) := (hb2.block _ (by simp)).trans (newAt _ _ _ rfl); have hlt : w1.heap.size < w2.heap.size := (Array.getElem?_eq_some_iff.1 h0).1; have hww : Below w.heap.size w w2 := (hb1.alloc hb1.size _).trans (hb2.mono (by have := hb1.size; simp <;> omega)); have hsz2 : w.heap.size ≤ w2.heap.size := hww.size; have hbf : Below w.heap.size w (w2.alloc (.cells #[.int .i64 M, .int .i64 m, .int .i64 p', .string pre', .string me'] 87)) := hww.alloc hsz2 _; have hne : w1.heap.size ≠ w2.heap.size := (by omega); obtain ⟨⟨p0, p1, p2, p3, p4⟩, f0, f1, f2, f3, f4⟩ := c5 h0))
      | (go_at_call 74; refine (less3 _ _).mono ?_; rintro e w' ⟨rfl, rfl⟩))
    go_ret
    exact ⟨rfl, hbf⟩
  subst c3
  have r : compareV M m p pre M m p pre' = orderPreB pre pre' := by unfold compareV; rw [orB_self, orB_self, orB_self]
  rw [r]
  clear r
  cases h1 : pre.toList == pre'.toList with
  | true =>
    have r : orderPreB pre pre' = 0 := by unfold orderPreB; rw [if_pos h1]
    rw [r]
    clear r
    go_enter Tryz.func40, Tryz.ntmps40
    go_wp2_with (first
      | (exfalso; rename_i hu _; simp [undef] at hu; done)
      | (go_at_call 71; first | ((with_reducible refine (parse3x a ha HA.out _).mono ?_); rintro e1 w1 ⟨rfl, hb1⟩) | ((with_reducible refine (parse3x b hb HB.out _).mono ?_); rintro e2 w2 ⟨rfl, hb2⟩; have h0 : w2.heap[w1.heap.size]? = some (.cells #[.int .i64 M, .int .i64 m, .int .i64 p, .string pre, .string me] 87) := (hb2.block _ (by simp)).trans (newAt _ _ _ rfl); have hlt : w1.heap.size < w2.heap.size := (Array.getElem?_eq_some_iff.1 h0).1; have hww : Below w.heap.size w w2 := (hb1.alloc hb1.size _).trans (hb2.mono (by have := hb1.size; simp <;> omega)); have hsz2 : w.heap.size ≤ w2.heap.size := hww.size; have hbf : Below w.heap.size w (w2.alloc (.cells #[.int .i64 M, .int .i64 m, .int .i64 p, .string pre', .string me'] 87)) := hww.alloc hsz2 _; have hne : w1.heap.size ≠ w2.heap.size := (by omega); obtain ⟨⟨p0, p1, p2, p3, p4⟩, f0, f1, f2, f3, f4⟩ := c5 h0))
      | (go_at_call 74; refine (less3 _ _).mono ?_; rintro e w' ⟨rfl, rfl⟩))
    go_ret
    exact ⟨rfl, hbf⟩
  | false =>
  cases h2 : pre.toList.isEmpty with
  | true =>
    have r : orderPreB pre pre' = lessB false := by unfold orderPreB; rw [if_neg (by rw [h1]; exact Bool.false_ne_true), if_pos h2]; rfl
    rw [r]
    clear r
    go_enter Tryz.func40, Tryz.ntmps40
    go_wp2_with (first
      | (exfalso; rename_i hu _; simp [undef] at hu; done)
      | (go_at_call 71; first | ((with_reducible refine (parse3x a ha HA.out _).mono ?_); rintro e1 w1 ⟨rfl, hb1⟩) | ((with_reducible refine (parse3x b hb HB.out _).mono ?_); rintro e2 w2 ⟨rfl, hb2⟩; have h0 : w2.heap[w1.heap.size]? = some (.cells #[.int .i64 M, .int .i64 m, .int .i64 p, .string pre, .string me] 87) := (hb2.block _ (by simp)).trans (newAt _ _ _ rfl); have hlt : w1.heap.size < w2.heap.size := (Array.getElem?_eq_some_iff.1 h0).1; have hww : Below w.heap.size w w2 := (hb1.alloc hb1.size _).trans (hb2.mono (by have := hb1.size; simp <;> omega)); have hsz2 : w.heap.size ≤ w2.heap.size := hww.size; have hbf : Below w.heap.size w (w2.alloc (.cells #[.int .i64 M, .int .i64 m, .int .i64 p, .string pre', .string me'] 87)) := hww.alloc hsz2 _; have hne : w1.heap.size ≠ w2.heap.size := (by omega); obtain ⟨⟨p0, p1, p2, p3, p4⟩, f0, f1, f2, f3, f4⟩ := c5 h0))
      | (go_at_call 74; refine (less3 _ _).mono ?_; rintro e w' ⟨rfl, rfl⟩))
    go_ret
    exact ⟨rfl, hbf⟩
  | false =>
  cases h3 : pre'.toList.isEmpty with
  | true =>
    have r : orderPreB pre pre' = lessB true := by unfold orderPreB; rw [if_neg (by rw [h1]; exact Bool.false_ne_true), if_neg (by rw [h2]; exact Bool.false_ne_true), if_pos h3]; rfl
    rw [r]
    clear r
    go_enter Tryz.func40, Tryz.ntmps40
    go_wp2_with (first
      | (exfalso; rename_i hu _; simp [undef] at hu; done)
      | (go_at_call 71; first | ((with_reducible refine (parse3x a ha HA.out _).mono ?_); rintro e1 w1 ⟨rfl, hb1⟩) | ((with_reducible refine (parse3x b hb HB.out _).mono ?_); rintro e2 w2 ⟨rfl, hb2⟩; have h0 : w2.heap[w1.heap.size]? = some (.cells #[.int .i64 M, .int .i64 m, .int .i64 p, .string pre, .string me] 87) := (hb2.block _ (by simp)).trans (newAt _ _ _ rfl); have hlt : w1.heap.size < w2.heap.size := (Array.getElem?_eq_some_iff.1 h0).1; have hww : Below w.heap.size w w2 := (hb1.alloc hb1.size _).trans (hb2.mono (by have := hb1.size; simp <;> omega)); have hsz2 : w.heap.size ≤ w2.heap.size := hww.size; have hbf : Below w.heap.size w (w2.alloc (.cells #[.int .i64 M, .int .i64 m, .int .i64 p, .string pre', .string me'] 87)) := hww.alloc hsz2 _; have hne : w1.heap.size ≠ w2.heap.size := (by omega); obtain ⟨⟨p0, p1, p2, p3, p4⟩, f0, f1, f2, f3, f4⟩ := c5 h0))
      | (go_at_call 74; refine (less3 _ _).mono ?_; rintro e w' ⟨rfl, rfl⟩))
    go_ret
    exact ⟨rfl, hbf⟩
  | false =>
  have r : orderPreB pre pre' = ordL (splB 46 pre) (splB 46 pre') := by unfold orderPreB; rw [if_neg (by rw [h1]; exact Bool.false_ne_true), if_neg (by rw [h2]; exact Bool.false_ne_true), if_neg (by rw [h3]; exact Bool.false_ne_true)]
  rw [r]
  clear r
  have hl1 := spl_pos 46 pre
  have hl2 := spl_pos 46 pre'
  have hz1 : ∀ x ∈ splB 46 pre, x.size ≤ 1048576 := splB_size 46 pre hp1
  have hz2 : ∀ x ∈ splB 46 pre', x.size ≤ 1048576 := splB_size 46 pre' hp2
  have hne0 : splB 46 pre ≠ splB 46 pre' := fun h => by rw [splB_inj h] at h1; simp at h1
  obtain ⟨xs, hX⟩ : ∃ xs, splB 46 pre = xs := ⟨_, rfl⟩
  obtain ⟨ys, hY⟩ : ∃ ys, splB 46 pre' = ys := ⟨_, rfl⟩
  rw [hX] at hl1 hz1 hne0 ⊢
  rw [hY] at hl2 hz2 hne0 ⊢
  have HX := Lib.hid hX
  have HY := Lib.hid hY
  clear hX hY
  obtain ⟨n1, hn1⟩ : ∃ n, xs.length = n + 1 := ⟨xs.length - 1, by omega⟩
  obtain ⟨n2, hn2⟩ : ∃ n, ys.length = n + 1 := ⟨ys.length - 1, by omega⟩
  go_enter Tryz.func40, Tryz.ntmps40
  go_wp2_with (first
    | (exfalso; rename_i hu _; simp [undef] at hu; done)
    | (go_at_call 71; first | ((with_reducible refine (parse3x a ha HA.out _).mono ?_); rintro e1 w1 ⟨rfl, hb1⟩) | ((with_reducible refine (parse3x b hb HB.out _).mono ?_); rintro e2 w2 ⟨rfl, hb2⟩; have h0 : w2.heap[w1.heap.size]? = some (.cells #[.int .i64 M, .int .i64 m, .int .i64 p, .string pre, .string me] 87) := (hb2.block _ (by simp)).trans (newAt _ _ _ rfl); have hlt : w1.heap.size < w2.heap.size := (Array.getElem?_eq_some_iff.1 h0).1; have hww : Below w.heap.size w w2 := (hb1.alloc hb1.size _).trans (hb2.mono (by have := hb1.size; simp <;> omega)); have hsz2 : w.heap.size ≤ w2.heap.size := hww.size; have hbf : Below w.heap.size w (w2.alloc (.cells #[.int .i64 M, .int .i64 m, .int .i64 p, .string pre', .string me'] 87)) := hww.alloc hsz2 _; have hne : w1.heap.size ≠ w2.heap.size := (by omega); obtain ⟨⟨p0, p1, p2, p3, p4⟩, f0, f1, f2, f3, f4⟩ := c5 h0))
    | (go_at_call 74; refine (less3 _ _).mono ?_; rintro e w' ⟨rfl, rfl⟩)
    | (go_at_call 75; first | ((with_reducible refine (split46 pre hp1 _).mono ?_); rintro e3 w3 ⟨v1, rfl, hrow1, hb3⟩; have h3 : w3.heap[w2.heap.size]? = some (.cells #[.int .i64 M, .int .i64 m, .int .i64 p, .string pre', .string me'] 87) := (hb3.block _ (by simp)).trans (newAt _ _ _ rfl); obtain ⟨⟨r0, r1, r2, r3, r4⟩, s0, s1, s2, s3, s4⟩ := c5 h3) | ((with_reducible refine (split46 pre' hp2 _).mono ?_); rintro e4 w4 ⟨v2, rfl, hrow2, hb4⟩; have hbw : Below w.heap.size w w4 := (hbf.trans (hb3.mono (by simp <;> omega))).trans (hb4.mono (by have := hb3.size; simp at this; omega)); have hrow1' := rowBelow hrow1 hb4; rw [HX.out] at hrow1'; rw [HY.out] at hrow2; rw [hn1] at hrow1'; rw [hn2] at hrow2; obtain ⟨g1, cap1, hv1⟩ := ownsRow_succ hrow1'; subst hv1; obtain ⟨g2, cap2, hv2⟩ := ownsRow_succ hrow2; subst hv2)))
  have hcx : ∀ (i : Nat) (h : i < xs.length), w4.cell? ⟨g1, i, none⟩ = some (.string xs[i]) := fun i h => by
    rw [hrow1'.cellAt i (by omega)]
    simp [h]
  have hcy : ∀ (i : Nat) (h : i < ys.length), w4.cell? ⟨g2, i, none⟩ = some (.string ys[i]) := fun i h => by
    rw [hrow2.cellAt i (by omega)]
    simp [h]
  have hlx : xs.length ≤ 1048577 := by
    rw [← HX.out]; unfold splB
    have := spl_length 46 pre.data.toList
    have e : pre.data.toList.length = pre.size := by rw [Array.length_toList]; rfl
    rw [List.length_map]; omega
  clear hrow1 hrow1' hrow2 hb1 hb2 hb3 hb4 h0 h3 hbf hww p0 p1 p2 p3 p4 f0 f1 f2 f3 f4 r0 r1 r2 r3 r4 s0 s1 s2 s3 s4
  have HNE := Lib.hid hne0
  clear hne0 h1 h2
  go_loopw [11] (fun iv wr => ∃ i : Nat, iv = .int .i64 i ∧ i ≤ xs.length ∧ i ≤ ys.length ∧ Hid (∀ j (h1 : j < xs.length) (h2 : j < ys.length), j < i → orderB xs[j] ys[j] = 0) ∧ ∃ q, wr = w4.drewN q) (fun iv wr => xs.length - (intOf iv).toNat)
  case atStart => exact ⟨0, rfl, Nat.zero_le _, Nat.zero_le _, Lib.hid (fun j _ _ h => absurd h (by omega)), 0, rfl⟩
  case round =>
    obtain ⟨i, rfl, hi1, hi2, HZ, q, rfl⟩ := hrel
    by_cases c4 : i < n1 + 1
    · by_cases c5 : i < n2 + 1
      · have l1 : i < xs.length := by omega
        have l2 : i < ys.length := by omega
        have k1 : (w4.drewN q).cell? ⟨g1, i, none⟩ = _ := hcx i l1
        have k2 : (w4.drewN q).cell? ⟨g2, i, none⟩ = _ := hcy i l2
        have j1 := hz1 xs[i] (List.getElem_mem l1)
        have j2 := hz2 ys[i] (List.getElem_mem l2)
        by_cases ho : orderB xs[i] ys[i] = 0
        · have HZ2 : Hid (∀ j (h1 : j < xs.length) (h2 : j < ys.length), j < i + 1 → orderB xs[j] ys[j] = 0) := Lib.hid (fun j a b c => by
            by_cases hj : j = i
            · subst hj; exact ho
            · exact HZ.out j a b (by omega))
          have HO := Lib.hid ho
          clear ho
          generalize xs[i] = x at *
          generalize ys[i] = y at *
          have HQ := Lib.hid (show ∀ n, ∃ m, (w4.drewN q).drewN n = w4.drewN m from fun n => ⟨q + n, World.drewN_drewN _ _ _⟩)
          generalize w4.drewN q = W at *
          go_wp2
          go_quiet ((go_at_call 76; exact Calls.quiet_of_same (order3q x y j1 j2 HO.out _)))
          go_wp2
          go_roundw
          case rel => exact ⟨i + 1, by go_num, by omega, by omega, HZ2, HQ.out _⟩
          case measure => simp [intOf]; omega
        · have HR := Lib.hid (ordL_at HZ.out l1 l2 ho)
          have ho' : (orderB xs[i] ys[i] != 0) = true := by simpa using ho
          obtain ⟨r, hr⟩ : ∃ r, orderB xs[i] ys[i] = r := ⟨_, rfl⟩
          rw [hr] at ho' HR
          have HO := Lib.hid hr
          clear ho hr hcx hcy hz1 hz2 HZ
          generalize xs[i] = x at *
          generalize ys[i] = y at *
          have hbq : ∀ n, Below w.heap.size w ((w4.drewN q).drewN n) := fun n => pw_drewN (pw_drewN hbw q) n
          generalize w4.drewN q = W at *
          go_wp2
          go_quiet ((go_at_call 76; exact Calls.quiet_of_same (order3q x y j1 j2 HO.out _)))
          go_wp2
          go_ret
          exact ⟨ret_num HR.out.symm, hbq _⟩
      · have HE := Lib.hid (ordL_end HZ.out hi1 hi2 (.inr (by omega)) HNE.out)
        have hb4 : Below w.heap.size w (w4.drewN q) := pw_drewN hbw q
        have e1 : (xs.length : Int) = n1 + 1 := by omega
        have e2 : (ys.length : Int) = n2 + 1 := by omega
        rw [e1, e2] at HE
        clear hcx hcy hz1 hz2 HZ e1 e2
        go_wp2_with (first | (exfalso; rename_i hu _; simp [undef] at hu; done) | (go_at_call 74; refine (less3 _ _).mono ?_; rintro e w' ⟨rfl, rfl⟩))
        go_ret
        exact ⟨ret_num (by rw [HE.out]; first | rfl | (congr 2; simp) | simp), hb4⟩
    · have HE := Lib.hid (ordL_end HZ.out hi1 hi2 (.inl (by omega)) HNE.out)
      have hb4 : Below w.heap.size w (w4.drewN q) := pw_drewN hbw q
      have e1 : (xs.length : Int) = n1 + 1 := by omega
      have e2 : (ys.length : Int) = n2 + 1 := by omega
      rw [e1, e2] at HE
      clear hcx hcy hz1 hz2 HZ e1 e2
      go_wp2_with (first | (exfalso; rename_i hu _; simp [undef] at hu; done) | (go_at_call 74; refine (less3 _ _).mono ?_; rintro e w' ⟨rfl, rfl⟩))
      go_ret
      exact ⟨ret_num (by rw [HE.out]; first | rfl | (congr 2; simp) | simp), hb4⟩
end Go.Proofs.YtcfmaeonginefaaGreatDoor.Compare3

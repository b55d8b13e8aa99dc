/- graftbedref07.Versions: what it answers. -/
import Derived.Test.YtcfmaeonginefaaGreatDoorSort7
import Derived.Test.YtcfmaeonginefaaGreatDoorVersC
import Derived.ArgAppend
namespace Go.Proofs.YtcfmaeonginefaaGreatDoor.VersR
open Go Go.RowKit Go.Shelf Go.Proofs.YtcfmaeonginefaaGreatDoor.Seq Go.Proofs.YtcfmaeonginefaaGreatDoor.Made Go.Proofs.YtcfmaeonginefaaGreatDoor.Order3 Go.Proofs.YtcfmaeonginefaaGreatDoor.Cmp Go.Proofs.YtcfmaeonginefaaGreatDoor.Row7 Go.Proofs.YtcfmaeonginefaaGreatDoor.Own7 Go.Proofs.YtcfmaeonginefaaGreatDoor.Vers Go.Proofs.YtcfmaeonginefaaGreatDoor.Order7 Go.Proofs.YtcfmaeonginefaaGreatDoor.Heavy Go.Proofs.YtcfmaeonginefaaGreatDoor.Sort7 Go.Proofs.YtcfmaeonginefaaGreatDoor.VersC
set_option linter.unusedSimpArgs false
set_option linter.unusedVariables false

section
variable {ops : Array Oper} {rest : List Oper} {o : Oper} {a : Act} {Q : Exit → Act → World → Prop}
/-- A first text is appended to an empty slice without room: a new row. -/
theorem appT0 (w0 wr : World) (e' : TypeId) (hg : o.guard = none) (s x : Operand) (hop : o.op = .call { callee := .builtin .append, args := #[s, x], argTypes := #[32, 32] })
    (H : Nat) (ao : Option Addr) (y : ByteArray) (hs : a.eval s = .slice ao 0 0) (N : Nat) (hx : a.eval x = .slice (some ⟨N, 0, none⟩) 1 1) (hN : wr.heap.size = N) (hH : H ≤ wr.heap.size) (hb : Below H w0 wr)
    (hK : ∀ A c w', OwnT w' H (.slice A 1 c) [y] → Below H w0 w' → H ≤ w'.heap.size → wpList Tryz.prog ops Q rest (a.put o.dst (.slice A 1 c)) w') : wpList Tryz.prog ops Q (o :: rest) a (wr.alloc (.cells #[.string y] e')) := by
  subst hN
  obtain ⟨i0, hi, hz0, hz1, hz2⟩ := info_parts infoT
  have hsz : (wr.alloc (.cells #[.string y] e')).heap.size = wr.heap.size + 1 := by simp
  refine wpList_append_grows _ hg s x 32 hop 9 i0 (.string ⟨#[]⟩) 1 16 Tryz.underlying32 hi hz0 hz1 hz2 rfl (by decide) ao 0 0 [] hs (fun _ => ⟨rfl, rfl⟩) rfl (fun b _ j u h => by simp at h) ⟨wr.heap.size, 0, none⟩ 1 1 [.string y] hx rfl (fun j u hu => ?_) (fun u hu => by simp at hu; subst hu; rfl) (by decide) (by decide) (by decide) ?_
  · rw [WideShapes.add_plain]
    simp only [World.cell?]
    rw [World.alloc_heap_new]
    simpa using hu
  · intro v' w' hown hgr
    have hz := hgr.size
    have hown2 : OwnT w' (wr.alloc (.cells #[.string y] e')).heap.size v' [y] := hown
    obtain ⟨A', c', rfl, _⟩ := own_shape hown2
    refine hK A' c' w' ?_ ((hb.alloc hH (.cells #[.string y] e')).grown hgr (by omega) (fun j ej => by cases ej)) (by omega)
    obtain ⟨h1, h2⟩ := hown2
    refine ⟨h1, ?_⟩
    rcases h2 with h2 | ⟨g, cap, cur, h3, h4, h5⟩
    · exact .inl h2
    · exact .inr ⟨g, cap, cur, h3, by omega, h5⟩
end

/-- The versions that k entries tell. -/
def verP (p : ByteArray) (es : List En) : List ByteArray := dd ((modsOf p es).map (·.2))
theorem verP_no {p : ByteArray} {es : List En} {i : Nat} (h : i < es.length) (hp : ofB p es[i].mod = false) : verP p (es.take (i + 1)) = verP p (es.take i) := by
  unfold verP; rw [modsOf_no h hp]
theorem verP_yes {p : ByteArray} {es : List En} {i : Nat} (h : i < es.length) (hp : ofB p es[i].mod = true) : verP p (es.take (i + 1)) = addL (verP p (es.take i)) es[i].v := by
  unfold verP; rw [modsOf_yes h hp, List.map_append]
  exact dd_snoc _ _
theorem verP_len (p : ByteArray) (es : List En) : (verP p es).length ≤ es.length := by
  unfold verP
  refine Nat.le_trans (dd_len _) ?_
  rw [List.length_map]
  exact modsOf_len p es
theorem sort_mods : ∀ (l acc : List En), (sortF entB acc l).map En.mod = sortF modB (acc.map En.mod) (l.map En.mod)
  | [], acc => rfl
  | x :: r, acc => by
    have h : ∀ (x : En) (l : List En), (insB entB x l).map En.mod = insB modB x.mod (l.map En.mod) := fun x l => by
      induction l with
      | nil => rfl
      | cons y r ih =>
        show List.map En.mod (if entB x y < 0 then x :: y :: r else y :: insB entB x r) = if modB x.mod y.mod < 0 then x.mod :: y.mod :: r.map En.mod else y.mod :: insB modB x.mod (r.map En.mod)
        by_cases hc : modB x.mod y.mod < 0
        · rw [if_pos hc, if_pos (show entB x y < 0 from hc)]; rfl
        · rw [if_neg hc, if_neg (show ¬ entB x y < 0 from hc), List.map_cons, ih]
    show (sortF entB (insB entB x acc) r).map En.mod = sortF modB (insB modB x.mod (acc.map En.mod)) (r.map En.mod)
    rw [sort_mods r _, h]
theorem verP_sort (p : ByteArray) (es : List En) : verP p (sortB entB es) = verL p (es.map En.mod) := by
  unfold verP verL modsOf sortB
  rw [sort_mods]
  rfl
/-- The list so far: still the empty one that was made first, or an own row. -/
def OutP (b : Nat) (W : World) (H : Nat) (v : Value) (out : List ByteArray) : Prop := (v = .slice (some ⟨b, 0, none⟩) 0 0 ∧ out = []) ∨ (OwnT W H v out ∧ out ≠ [])

set_option maxRecDepth 100000 in
set_option maxHeartbeats 16000000 in
theorem versions7 {v : Value} {es : List En} (w : World) (path : ByteArray) (h : RE w v es) (hfit : Fits es) :
    Calls Tryz.prog 18 #[v, .string path] w fun e w' => ∃ v', e = .returned v' ∧ RT w' v' (verL path (es.map En.mod)) ∧ Below w.heap.size w w' := by
  have HE := Lib.hid h
  have HFIT := Lib.hid hfit
  have h50 := hfit.1
  have HV := Lib.hid (verP_sort path es)
  have hsl : (sortB entB es).length ≤ 50 := by rw [sortB_len]; exact h50
  generalize hS : sortB entB es = S at *
  have HS := Lib.hid hS
  have hb0 : Below w.heap.size w (w.alloc (.cells #[] 9)) := (Below.refl _ _).alloc (Nat.le_refl _) _
  have HE0 := Lib.hid (re_below h hb0)
  have HB0 := Lib.hid hb0
  have hz0 : (w.alloc (.cells #[] 9)).heap.size = w.heap.size + 1 := by simp
  have HZ0 := Lib.hid hz0
  obtain ⟨⟨A0, c0, rfl, -⟩, -⟩ := h
  clear hS hfit hb0 hz0
  go_enter Tryz.func18, Tryz.ntmps18
  go_wp2_with (first
    | (exfalso; rename_i hu _; simp [undef] at hu; done)
    | (go_at_call 25; refine (sort7 _ HE0.out HFIT.out).mono ?_; rw [HS.out]; rintro e w1 ⟨v1, rfl, hr1, hb1⟩; obtain ⟨⟨A, c, rfl, hA, hc, hm, hr⟩, hrf⟩ := hr1))
  have HR := Lib.hid hr
  have HRF := Lib.hid hrf
  have hbw : Below w.heap.size w w1 := HB0.out.trans (hb1.mono (by have := HZ0.out; omega))
  have hz1 : w.heap.size ≤ w1.heap.size := hbw.size
  obtain ⟨n, hnn⟩ : ∃ n, S.length = n := ⟨_, rfl⟩
  rw [hnn] at hsl hc hm ⊢
  have HN := Lib.hid hnn
  clear hnn hr hrf hb1
  go_loopw [5, 7, 8] (fun v5 v7 v8 W => ∃ (i : Nat) (out : List ByteArray), v7 = .int .i64 i ∧ i ≤ n ∧ Hid (out = verP path (S.take i)) ∧ Hid (OutP w.heap.size W w1.heap.size v5 out) ∧ Below w1.heap.size w1 W ∧ w1.heap.size ≤ W.heap.size) (fun v5 v7 v8 W => n - (intOf v7).toNat)
  case atStart => exact ⟨0, [], rfl, Nat.zero_le _, Lib.hid (by simp [verP, modsOf, dd, ddF]), Lib.hid (.inl ⟨rfl, rfl⟩), Below.refl _ _, Nat.le_refl _⟩
  case round =>
    obtain ⟨i, out, rfl, hi, HO, HOP, hB, hz⟩ := hrel
    have hol : out.length ≤ 50 := by
      rw [HO.out]
      have := verP_len path (S.take i)
      rw [List.length_take] at this
      omega
    by_cases hlt : i < n
    · have hl' : i < S.length := by rw [HN.out]; exact hlt
      obtain ⟨gx, ox, hgx, x0, x1, x2, x3⟩ := HR.out i hl'
      subst hgx
      have x0 := (hB.cell (p := ⟨gx, ox + i * 4, none⟩) (cell_lt x0)).trans x0
      have x1 := (hB.cell (p := ⟨gx, ox + i * 4 + 1, none⟩) (cell_lt x1)).trans x1
      clear x2 x3
      have HY := Lib.hid (verP_yes (p := path) hl')
      have HZ := Lib.hid (verP_no (p := path) hl')
      generalize S[i] = x at *
      obtain ⟨xp, xv, xg, xf, xl⟩ := x
      simp only [] at x0 x1
      cases hp : (xp.toList == path.toList) with
      | false =>
        have HT := Lib.hid (HZ.out hp)
        clear HY HZ
        rcases HOP.out with ⟨rfl, rfl⟩ | ⟨hown, hne⟩
        · go_wp2
          go_roundw
          case rel => exact ⟨i + 1, _, by go_num, by omega, Lib.hid (by rw [HT.out, ← HO.out]), HOP, hB, hz⟩
          case measure => simp [intOf] <;> omega
        · obtain ⟨A5, c5, rfl, _⟩ := own_shape hown
          go_wp2
          go_roundw
          case rel => exact ⟨i + 1, _, by go_num, by omega, Lib.hid (by rw [HT.out, ← HO.out]), HOP, hB, hz⟩
          case measure => simp [intOf] <;> omega
      | true =>
        have HT := Lib.hid (HY.out hp)
        clear HY HZ
        rcases HOP.out with ⟨rfl, rfl⟩ | ⟨hown, hne⟩
        · go_wp2_with (first
            | (exfalso; rename_i hu _; simp [undef] at hu; done)
            | (at_builtin; refine appT0 w1 wr _ rfl _ _ rfl w1.heap.size (some ⟨w.heap.size, 0, none⟩) xv (by rfl) wr.heap.size (by rfl) rfl hz hB ?_; intro A6 c6 w6 hE6 hb6 hz6))
          go_roundw
          case rel => exact ⟨i + 1, [xv], by go_num, by omega, Lib.hid (by rw [HT.out, ← HO.out]; rfl), Lib.hid (.inr ⟨hE6, by simp⟩), hb6, hz6⟩
          case measure => simp [intOf] <;> omega
        · obtain ⟨o', l, rfl⟩ : ∃ o' l, out = o' ++ [l] := ⟨out.dropLast, out.getLast hne, (List.dropLast_concat_getLast hne).symm⟩
          obtain ⟨A5, c5, rfl, _, hc5, hg⟩ := own_shape hown
          obtain ⟨g, rfl, _⟩ := hg o'.length (by simp)
          have hcell := own_cell (enc := encT) (k := 1) (fun _ => rfl) hown (i := o'.length) (by simp) (j := 0) (by omega) (u := .string l) (by simp [encT])
          rw [Nat.mul_one, Nat.add_zero] at hcell
          have hlen : (o' ++ [l]).length = o'.length + 1 := by simp
          have hlast : (o' ++ [l]).getLast? = some l := by simp
          rw [hlen] at hown hol hc5 ⊢
          obtain ⟨m, hm2⟩ : ∃ m, o'.length = m := ⟨_, rfl⟩
          rw [hm2] at hown hol hcell hc5 ⊢
          have HM := Lib.hid (hlen.trans (by rw [hm2]))
          have hw1 : IntKind.i64.wrap ((m : Int) + 1 - 1) = (m : Int) := by rw [show (m : Int) + 1 - 1 = m by omega]; exact IntWalk.i64_in _ (by omega)
          have hi3 : (m : Int) < (m : Int) + 1 := by omega
          have hm0 : ((m : Int) + 1 == 0) = false := by simp; omega
          have HOP2 := Lib.hid (show OutP w.heap.size wr w1.heap.size (.slice (some ⟨g, 0, none⟩) (m + 1) c5) (o' ++ [l]) by
            have := HOP.out
            rwa [HM.out] at this)
          clear hg hlen hm2 hne
          by_cases he : l = xv
          · subst he
            have HA := Lib.hid (show addL (o' ++ [l]) l = o' ++ [l] by unfold addL; rw [if_pos hlast])
            clear hlast
            go_wp2
            go_roundw
            case rel => exact ⟨i + 1, o' ++ [l], by go_num, by omega, Lib.hid (by rw [HT.out, ← HO.out, HA.out]), HOP2, hB, hz⟩
            case measure => simp [intOf] <;> omega
          · have HA := Lib.hid (show addL (o' ++ [l]) xv = o' ++ [l] ++ [xv] by unfold addL; rw [if_neg (by rw [hlast]; intro h; exact he (Option.some.inj h))])
            have hne2 : (l.toList == xv.toList) = false := by
              cases hq : (l.toList == xv.toList) with
              | false => rfl
              | true => exact absurd (ba_eq hq) he
            have hne3 : (l.toList != xv.toList) = true := by rw [bne, hne2]; rfl
            have hown' : OwnT wr w1.heap.size (.slice (some ⟨g, 0, none⟩) (o' ++ [l]).length c5) (o' ++ [l]) := by rw [HM.out]; exact hown
            have HO' := Lib.hid hown'
            clear hlast he hown'
            go_wp2_with (first
              | (exfalso; rename_i hu _; simp [undef] at hu; done)
              | (at_builtin; refine appT w1 wr _ rfl _ _ rfl w1.heap.size (.slice (some ⟨g, 0, none⟩) (o' ++ [l]).length c5) (o' ++ [l]) xv (by rw [HM.out]; rfl) HO'.out wr.heap.size (by rfl) rfl hz (by rw [HM.out]; omega) hB ?_; intro A6 c6 w6 hE6 hb6 hz6))
            go_roundw
            case rel => exact ⟨i + 1, o' ++ [l] ++ [xv], by go_num, by omega, Lib.hid (by rw [HT.out, ← HO.out, HA.out]), Lib.hid (.inr ⟨by rw [List.length_append] at hE6; exact hE6, by simp⟩), hb6, hz6⟩
            case measure => simp [intOf] <;> omega
    · obtain rfl : i = n := by omega
      have e : out = verL path (es.map En.mod) := by
        rw [HO.out, ← HN.out, List.take_length]
        exact HV.out
      have hbf : Below w.heap.size w wr := hbw.trans (hB.mono hz1)
      rcases HOP.out with ⟨rfl, rfl⟩ | ⟨hown, hne⟩
      · have hfin := Lib.hid (show RT wr (.slice (some ⟨w.heap.size, 0, none⟩) 0 0) (verL path (es.map En.mod)) by
          rw [← e]; exact ⟨_, 0, rfl, (fun h => by cases h), Nat.le_refl _, by decide, fun i hi => absurd hi (Nat.not_lt_zero _)⟩)
        clear e
        go_wp2
        go_ret
        exact ⟨_, rfl, hfin.out, hbf⟩
      · have hfin := ownT_rt hown (by omega)
        rw [e] at hfin
        have HFIN := Lib.hid hfin
        obtain ⟨A5, c5, rfl, _⟩ := own_shape hown
        clear e hfin
        go_wp2
        go_ret
        exact ⟨_, rfl, HFIN.out, hbf⟩
end Go.Proofs.YtcfmaeonginefaaGreatDoor.VersR

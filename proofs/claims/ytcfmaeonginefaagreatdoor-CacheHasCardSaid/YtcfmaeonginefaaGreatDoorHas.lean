/- graftbedlaw07.CacheHas: true. -/
import Derived.Test.YtcfmaeonginefaaGreatDoorFindR
import Derived.Test.YtcfmaeonginefaaGreatDoorHeavy
import Derived.Test.YtcfmaeonginefaaGreatDoorMods
namespace Go.Proofs.YtcfmaeonginefaaGreatDoor.Has
open Go Go.RowKit Go.Shelf Go.Proofs.YtcfmaeonginefaaGreatDoor.Seq Go.Proofs.YtcfmaeonginefaaGreatDoor.Made Go.Proofs.YtcfmaeonginefaaGreatDoor.Order3 Go.Proofs.YtcfmaeonginefaaGreatDoor.Cmp Go.Proofs.YtcfmaeonginefaaGreatDoor.Row7 Go.Proofs.YtcfmaeonginefaaGreatDoor.Own7 Go.Proofs.YtcfmaeonginefaaGreatDoor.Vers Go.Proofs.YtcfmaeonginefaaGreatDoor.Order7 Go.Proofs.YtcfmaeonginefaaGreatDoor.Heavy Go.Proofs.YtcfmaeonginefaaGreatDoor.VersC Go.Proofs.YtcfmaeonginefaaGreatDoor.Mods Go.Proofs.YtcfmaeonginefaaGreatDoor.Find7 Go.Proofs.YtcfmaeonginefaaGreatDoor.FindR
set_option linter.unusedSimpArgs false
set_option linter.unusedVariables false

theorem least {P : Nat → Prop} : ∀ i, P i → ∃ k, k ≤ i ∧ P k ∧ ∀ j, j < k → ¬ P j := by
  intro i
  induction i using Nat.strongRecOn with
  | _ i ih =>
    intro h
    by_cases hs : ∃ j, j < i ∧ P j
    · obtain ⟨j, hj, hp⟩ := hs
      obtain ⟨k, h1, h2, h3⟩ := ih j hj hp
      exact ⟨k, by omega, h2, h3⟩
    · exact ⟨i, Nat.le_refl _, h, fun j hj hp => hs ⟨j, hj, hp⟩⟩
theorem first {p v : ByteArray} {es : List En} (h : (p, v) ∈ es.map En.mod) : ∃ k, ∃ hk : k < es.length, es[k].p = p ∧ es[k].v = v ∧ isM p v es[k] = true ∧ ∀ j, (hj : j < es.length) → j < k → isM p v es[j] = false := by
  obtain ⟨e, he, hm⟩ := List.mem_map.1 h
  obtain ⟨i, hi, rfl⟩ := List.getElem_of_mem he
  have h1 : es[i].p = p := congrArg Prod.fst hm
  have h2 : es[i].v = v := congrArg Prod.snd hm
  obtain ⟨k, _, ⟨hk, hy⟩, hn⟩ := least (P := fun i => ∃ hi : i < es.length, isM p v es[i] = true) i ⟨hi, by simp [isM, h1, h2]⟩
  have ht := isM_true hy
  refine ⟨k, hk, ba_eq (by simpa using ht.1), ba_eq (by simpa using ht.2), hy, fun j hj hjk => ?_⟩
  have := hn j hjk
  cases hq : isM p v es[j] with
  | false => rfl
  | true => exact absurd ⟨hj, hq⟩ this
theorem find_in {p v : ByteArray} {x : Value} {es : List En} (w : World) (hE : RE w x es) (hfit : Fits es) (h : (p, v) ∈ es.map En.mod) :
    Calls Tryz.prog 19 #[x, .agg #[.string p, .string v]] w fun e w' => ∃ g A n c, e = .returned (.tuple #[.agg #[.string p, .string v, .string g, .slice A n c], .bool true]) ∧ Below w.heap.size w w' := by
  obtain ⟨k, hk, rfl, rfl, hy, hn⟩ := first h
  refine (find_yes _ _ x es w hE k hk hy (fun j hj => by rw [getElem!_pos es j (by omega)]; exact hn j (by omega) hj) (by have := (hfit.2 es[k] (List.getElem_mem hk)).2.2.2.1; omega)).mono ?_
  rintro e w' ⟨⟨v', rfl, hr⟩, hb⟩
  obtain ⟨A, c, rfl, -⟩ := hr
  exact ⟨_, _, _, _, rfl, hb⟩
theorem find7_in {p v : ByteArray} {x : Value} {es : List En} (w : World) (hE : RE w x es) (h : (p, v) ∈ es.map En.mod) :
    Calls Tryz.prog 20 #[x, .agg #[.string p, .string v]] w fun e w' => ∃ g A n c, e = .returned (.tuple #[.agg #[.string p, .string v, .string g, .slice A n c], .bool true]) ∧ Below w.heap.size w w' := by
  obtain ⟨k, hk, rfl, rfl, hy, hn⟩ := first h
  refine (find7_yes _ _ x es w hE k hk hy hn).mono ?_
  rintro e w' ⟨⟨v', rfl, hr⟩, hb⟩
  obtain ⟨A, c, rfl, -⟩ := hr
  exact ⟨_, _, _, _, rfl, hb⟩
theorem ver_len2 (p : ByteArray) (es : List En) : (verL p (es.map En.mod)).length ≤ (modsOf p es).length := by
  unfold verL modsOf
  refine Nat.le_trans (dd_len _) ?_
  rw [List.length_map]
  exact ((sortB_perm modB (es.map En.mod)).filter (ofB p)).length_eq ▸ Nat.le_refl _

/-- Two texts of a list stand still. -/
def S2 (H : World) (gv a b : Nat) (x y : ByteArray) (W : World) : Prop := W.cell? ⟨gv, a, none⟩ = some (.string x) ∧ W.cell? ⟨gv, b, none⟩ = some (.string y) ∧ Below H.heap.size H W
theorem s2_keep {H W W' : World} {gv a b : Nat} {x y : ByteArray} (h : S2 H gv a b x y W) (hb : Below W.heap.size W W') : S2 H gv a b x y W' :=
  ⟨cellK h.1 hb, cellK h.2.1 hb, h.2.2.trans (hb.mono h.2.2.size)⟩

set_option maxRecDepth 100000 in
set_option maxHeartbeats 8000000 in
theorem has {v : Value} {es : List En} (path : ByteArray) (w : World) (h : RE w v es) : Calls Tryz.prog 5 #[v, .string path] w fun e w' => e = .returned (.bool true) ∧ Below w.heap.size w w' := by
  have HE := Lib.hid h
  obtain ⟨⟨A0, c0, rfl, -⟩, -⟩ := h
  by_cases hp : (1024 : Int) < path.size
  · go_enter Tryz.func5, Tryz.ntmps5
    go_wp2_with (first
      | (exfalso; rename_i hu _; simp [undef] at hu; done)
      | (go_at_call 15; refine (heavy _ HE.out).mono ?_; rintro e w1 ⟨b, rfl, hbf, hb1⟩; rcases b with _ | _)
      | (go_at_call 8; refine (shown _).mono ?_; rintro e w2 ⟨rfl, hb2⟩))
    all_goals
      go_ret
      exact ⟨rfl, hb1.trans (hb2.mono hb1.size)⟩
  · have hps : path.size ≤ 1048576 := by omega
    have hpd : decide ((1024 : Int) < path.size) = false := by simp; omega
    obtain ⟨V, hV⟩ : ∃ V, verL path (es.map En.mod) = V := ⟨_, rfl⟩
    have HV := Lib.hid hV
    have HRISE := Lib.hid (show V.Pairwise fun u v => modB (path, u) (path, v) < 0 by rw [← hV]; exact ver_rise path _)
    have HMEM := Lib.hid (show ∀ u, u ∈ V ↔ (path, u) ∈ es.map En.mod from fun u => by rw [← hV]; exact ver_mem path u _)
    have HLEN := Lib.hid (show V.length ≤ (modsOf path es).length by rw [← hV]; exact ver_len2 path es)
    have HSZ := Lib.hid (show Fits es → V.length ≤ 1048577 ∧ ∀ v ∈ V, v.size ≤ 1048576 from fun hf => by
      rw [← hV]
      refine ⟨Nat.le_trans (ver_len path _) (by have := hf.1; simp; omega), fun v hv => ?_⟩
      obtain ⟨e, he, hev⟩ := List.mem_map.1 ((ver_mem path v _).1 hv)
      have := (hf.2 e he).2.1
      cases hev
      omega)
    clear hV
    go_enter Tryz.func5, Tryz.ntmps5
    go_wp2_with (first
      | (exfalso; rename_i hu _; simp [undef] at hu; done)
      | (go_at_call 15; refine (heavy _ HE.out).mono ?_; rintro e w1 ⟨b, rfl, hbf, hb1⟩; have HBF := Lib.hid hbf; clear hbf; rcases b with _ | _)
      | (go_at_call 8; refine (shown _).mono ?_; rintro e w2 ⟨rfl, hb2⟩; have hb12 := hb1.trans (hb2.mono hb1.size))
      | (go_at_call 16; refine (versions _ path (re_below HE.out hb12) (HBF.out trivial)).mono ?_; rw [HV.out]; rintro e w3 ⟨v3, rfl, hr3, hb3⟩; have hb13 := hb12.trans (hb3.mono hb12.size); obtain ⟨A, c, rfl, hA, hc, hm, hr⟩ := hr3; have HR := Lib.hid hr; clear hr))
    · have hfit := Lib.hid (HBF.out trivial)
      have hsz := HSZ.out hfit.out
      obtain ⟨hVl, hVs⟩ := hsz
      have HVS := Lib.hid hVs
      have hE3 := re_below HE.out hb13
      have HE3 := Lib.hid hE3
      obtain ⟨⟨A0', c0', hv', -, -, -, hr0⟩, -⟩ := hE3
      cases hv'
      have HR0 := Lib.hid hr0
      obtain ⟨n, hnn⟩ : ∃ n, es.length = n := ⟨_, rfl⟩
      obtain ⟨l, hll⟩ : ∃ l, V.length = l := ⟨_, rfl⟩
      have hn50 : n ≤ 50 := by have := hfit.out.1; omega
      rw [hll] at hc hm hVl
      rw [hnn]
      rw [hll]
      have HN := Lib.hid hnn
      have HL := Lib.hid hll
      have HE3 := Lib.hid (show ∀ W, Below w3.heap.size w3 W → RE W (.slice A0 n c0) es by rw [← hnn]; exact fun W hW => re_below HE3.out hW)
      clear hnn hll hVs hr0 HE hb1 hb2 hb3 hb12 HBF HSZ HV
      go_loopw [6, 7, 8, 9, 10, 11] (fun v6 v7 v8 v9 v10 v11 W => ∃ (i m : Nat), v6 = .int .i64 m ∧ v7 = .int .i64 i ∧ i ≤ n ∧ m ≤ i ∧ Hid (m = (modsOf path (es.take i)).length) ∧ Below w3.heap.size w3 W) (fun v6 v7 v8 v9 v10 v11 W => n - (intOf v7).toNat)
      case atStart => exact ⟨0, 0, rfl, rfl, Nat.zero_le _, Nat.le_refl _, Lib.hid (by simp [modsOf]), Below.refl _ _⟩
      case round =>
        obtain ⟨i, m, rfl, rfl, hi, hmi, HM, hB⟩ := hrel
        by_cases hlt : i < n
        · have hki : (i : Int) < n := by omega
          have hl' : i < es.length := by rw [HN.out]; exact hlt
          obtain ⟨gx, ox, hgx, x0, x1, x2, x3⟩ := HR0.out i hl'
          subst hgx
          clear x2 x3
          have x0 := cellK x0 hB
          have x1 := cellK x1 hB
          have HMEM2 := Lib.hid (show (es[i].p, es[i].v) ∈ es.map En.mod from List.mem_map.2 ⟨es[i], List.getElem_mem hl', rfl⟩)
          have HY := Lib.hid (fun hp => congrArg List.length (modsOf_yes (p := path) hl' hp))
          have HZ := Lib.hid (fun hp => congrArg List.length (modsOf_no (p := path) hl' hp))
          generalize es[i] = x at *
          obtain ⟨xp, xv, xg, xf, xl⟩ := x
          simp only [] at x0 x1
          go_wp2_with (first
            | (exfalso; rename_i hu _; simp [undef] at hu; done)
            | (go_at_call 19; refine (find_in _ (HE3.out _ hB) hfit.out HMEM2.out).mono ?_; rintro e w4 ⟨g4, A4, n4, c4, rfl, hb4⟩; have x0 := cellK x0 hb4; have x1 := cellK x1 hb4; have hB4 := hB.trans (hb4.mono hB.size)))
          have hB5 := hB4.alloc (Nat.le_trans hB.size hb4.size) (.cells #[.string xp, .string xv, .string g4, .slice A4 n4 c4] 38)
          have x0 := cellK x0 ((Below.refl w4.heap.size w4).alloc (Nat.le_refl _) (.cells #[.string xp, .string xv, .string g4, .slice A4 n4 c4] 38))
          have x1 := cellK x1 ((Below.refl w4.heap.size w4).alloc (Nat.le_refl _) (.cells #[.string xp, .string xv, .string g4, .slice A4 n4 c4] 38))
          go_quiet (fail)
          rename_i nq
          have hB6 := pw_drewN hB5 nq
          obtain ⟨w6, hw6⟩ : ∃ W, (w4.alloc (.cells #[.string xp, .string xv, .string g4, .slice A4 n4 c4] 38)).drewN nq = W := ⟨_, rfl⟩
          replace x0 : w6.cell? ⟨gx, ox + i * 4, none⟩ = some (.string xp) := by rw [← hw6]; exact x0
          replace x1 : w6.cell? ⟨gx, ox + i * 4 + 1, none⟩ = some (.string xv) := by rw [← hw6]; exact x1
          rw [hw6] at hB6 ⊢
          clear hw6 hB5 hB4 hb4
          cases hp : (xp.toList == path.toList) with
          | false =>
            have HT := Lib.hid (HZ.out hp)
            clear HY HZ
            go_wp2
            go_roundw
            case rel => exact ⟨i + 1, m, rfl, by go_num, by omega, by omega, Lib.hid (by rw [HT.out]; exact HM.out), hB6⟩
            case measure => simp [intOf] <;> omega
          | true =>
            have HT := Lib.hid (HY.out hp)
            have HIN := Lib.hid (show xv ∈ V from (HMEM.out xv).2 (by have := HMEM2.out; rw [show xp = path from ba_eq (by simpa using hp)] at this; exact this))
            clear HY HZ
            have HB6 := Lib.hid hB6
            go_wp2
            go_loopw [10, 11] (fun v10 v11 W => ∃ (j : Nat) (b : Bool) (q : Nat), v11 = .int .i64 j ∧ v10 = .bool b ∧ j ≤ l ∧ Hid (b = false → ∀ t, (ht : t < V.length) → t < j → V[t] ≠ xv) ∧ W = w6.drewN q) (fun v10 v11 W => l - (intOf v11).toNat)
            case atStart => exact ⟨0, false, 0, rfl, rfl, Nat.zero_le _, Lib.hid (fun _ t _ h => absurd h (Nat.not_lt_zero _)), by first | rfl | simp⟩
            case round =>
              obtain ⟨j, b, q, rfl, rfl, hj, HQ, rfl⟩ := hrel
              by_cases hjl : j < l
              · have hji : (j : Int) < l := by omega
                have hj' : j < V.length := by rw [HL.out]; exact hjl
                obtain ⟨gv, ov, hgv, y0⟩ := HR.out j hj'
                subst hgv
                have y0 : w6.cell? ⟨gv, ov + j, none⟩ = some (.string V[j]) := cellK y0 HB6.out
                have HS := Lib.hid (show V[j] ≠ xv → b = false → ∀ t, (ht : t < V.length) → t < j + 1 → V[t] ≠ xv from fun hne hb t ht htj => by
                  rcases Nat.lt_or_ge t j with h1 | h1
                  · exact HQ.out hb t ht h1
                  · obtain rfl : t = j := by omega
                    exact hne)
                generalize V[j] = y at y0 HS
                rcases b with _ | _
                · cases hq : (y.toList == xv.toList) with
                  | false =>
                    have hyne : y ≠ xv := fun e => by rw [e] at hq; simp at hq
                    have HS2 := Lib.hid (HS.out hyne)
                    go_wp2
                    go_quiet (fail)
                    go_wp2
                    go_roundw
                    case rel => exact ⟨j + 1, _, _, by go_num, rfl, by omega, Lib.hid (fun _ => HS2.out (by trivial)), by first | rfl | simp⟩
                    case measure => simp [intOf] <;> omega
                  | true =>
                    go_wp2
                    go_quiet (fail)
                    go_wp2
                    go_roundw
                    case rel => exact ⟨j + 1, _, _, by go_num, rfl, by omega, Lib.hid (fun e => by cases e), by first | rfl | simp⟩
                    case measure => simp [intOf] <;> omega
                · go_wp2
                  go_quiet (fail)
                  go_wp2
                  go_roundw
                  case rel => exact ⟨j + 1, _, _, by go_num, rfl, by omega, Lib.hid (fun e => by cases e), by first | rfl | simp⟩
                  case measure => simp [intOf] <;> omega
              · rcases b with _ | _
                · exfalso
                  obtain ⟨t, ht, e⟩ := List.getElem_of_mem HIN.out
                  exact HQ.out rfl t ht (by have := HL.out; omega) e
                · go_wp2
                  exact ⟨⟨i + 1, m + 1, by go_num, by go_num, by omega, by omega, Lib.hid (by rw [HT.out, List.length_append, ← HM.out]; rfl), pw_drewN HB6.out _⟩, by simp [intOf]; omega⟩
        · obtain rfl : i = n := by omega
          have hlm : l ≤ m := by
            have h1 := HLEN.out
            have h2 := HM.out
            rw [← HN.out, List.take_length] at h2
            rw [HL.out] at h1
            omega
          have HB := Lib.hid hB
          clear HM HLEN
          go_wp2
          go_loopw [12, 13, 14] (fun v12 v13 v14 W => ∃ (j : Nat), v12 = .int .i64 j ∧ j ≤ l ∧ Below w3.heap.size w3 W) (fun v12 v13 v14 W => l - (intOf v12).toNat)
          case atStart => exact ⟨0, rfl, Nat.zero_le _, hB⟩
          case round =>
            obtain ⟨j, rfl, hj, hC⟩ := hrel
            by_cases hjl : j < l
            · have hji : (j : Int) < l := by omega
              have hj' : j < V.length := by rw [HL.out]; exact hjl
              obtain ⟨gv, ov, hgv, y0⟩ := HR.out j hj'
              subst hgv
              have y0 := cellK y0 hC
              have HIN := Lib.hid ((HMEM.out V[j]).1 (List.getElem_mem hj'))
              have hs1 := HVS.out V[j] (List.getElem_mem hj')
              by_cases hj0 : j = 0
              · subst hj0
                generalize V[0] = y at *
                rw [Nat.add_zero] at y0
                go_wp2_with (first
                  | (exfalso; rename_i hu _; simp [undef] at hu; done)
                  | (go_at_call 20; refine (find7_in _ (HE3.out _ hC) HIN.out).mono ?_; rintro e w4 ⟨g4, A4, n4, c4, rfl, hb4⟩; have y0 := cellK y0 hb4; have hC4 := hC.trans (hb4.mono hC.size)))
                have hC5 := hC4.alloc (Nat.le_trans hC.size hb4.size) (.cells #[.string path, .string y, .string g4, .slice A4 n4 c4] 38)
                go_quiet (fail)
                go_wp2
                exact ⟨⟨1, by go_num, by omega, pw_drewN hC5 _⟩, by simp [intOf]; omega⟩
              · obtain ⟨k, rfl⟩ : ∃ k, j = k + 1 := ⟨j - 1, by omega⟩
                have hk' : k < V.length := by omega
                obtain ⟨gv', ov', hgv', y1⟩ := HR.out k hk'
                cases hgv'
                have y1 := cellK y1 hC
                have hs0 := HVS.out V[k] (List.getElem_mem hk')
                have hlt2 := List.pairwise_iff_getElem.1 HRISE.out k (k + 1) hk' hj' (by omega)
                generalize V[k + 1] = y at *
                generalize V[k] = x at *
                have HO1 := Lib.hid (show modB (path, x) (path, y) = -1 by have := cmp_mod.bd (path, x) (path, y); omega)
                have hw1 : IntKind.i64.wrap ((k : Int) + 1 - 1) = (k : Int) := by rw [show (k : Int) + 1 - 1 = k by omega]; exact IntWalk.i64_in _ (by omega)
                have hk0 : (0 : Int) < (k : Int) + 1 := by omega
                have hkl : (k : Int) < l := by omega
                have ht1 : ((k : Int) + 1).toNat = k + 1 := by omega
                clear hlt2 hj' hk'
                have hji : (k : Int) + 1 < l := by omega
                have hk1 : (0 : Int) ≤ (k : Int) + 1 := by omega
                have hk2 : (0 : Int) ≤ (k : Int) := by omega
                have hk3 : (k : Int) ≤ l := by omega
                have hk4 : (k : Int) + 1 ≤ l := by omega
                have hw2 : IntKind.i64.wrap (k : Int) = (k : Int) := IntWalk.i64_in _ (by omega)
                have hk5 : decide ((0 : Int) < (k : Int) + 1) = true := decide_eq_true (by omega)
                have hjc : ((k + 1 : Nat) : Int) = (k : Int) + 1 := by omega
                rw [hjc]
                clear hjc
                go_wp2_with (first
                  | (exfalso; rename_i hu _; simp [undef] at hu; done)
                  | (go_at_call 20; refine (find7_in _ (HE3.out _ hC) HIN.out).mono ?_; rintro e w4 ⟨g4, A4, n4, c4, rfl, hb4⟩; have y0 := cellK y0 hb4; have y1 := cellK y1 hb4; have hC4 := hC.trans (hb4.mono hC.size)))
                have hC5 := hC4.alloc (Nat.le_trans hC.size hb4.size) (.cells #[.string path, .string y, .string g4, .slice A4 n4 c4] 38)
                have h0d : S2 w3 gv (ov + k) (ov + (k + 1)) x y ((w4.alloc (.cells #[.string path, .string y, .string g4, .slice A4 n4 c4] 38)).drewN 1) :=
                  s2_keep (W := w4) ⟨y1, y0, hC4⟩ (pw_drewN ((Below.refl w4.heap.size w4).alloc (Nat.le_refl _) (.cells #[.string path, .string y, .string g4, .slice A4 n4 c4] 38)) 1)
                clear y0 y1 hC5
                go_region_held3 (fun w' => w'.cell? ⟨gv, ov + k, none⟩ = some (.string x) ∧ w'.cell? ⟨gv, ov + (k + 1), none⟩ = some (.string y) ∧ Below w3.heap.size w3 w')
                  (first
                    | assumption
                    | exact s2_keep ‹_› hb6
                    | exact h0d)
                  (first
                    | (exfalso; rename_i hu _; simp [undef] at hu; done)
                    | (go_at_call 9; refine (order path x path y hps hs0 hps hs1 _).mono ?_; rw [HO1.out]; rintro e6 w6 ⟨rfl, hb6⟩))
                have hC6 : S2 w3 gv (ov + k) (ov + (k + 1)) x y w6 := by assumption
                have hC7 := hC6.2.2
                go_wp2
                exact ⟨⟨k + 2, by go_num, by omega, hC7⟩, by simp [intOf]; omega⟩
            · obtain rfl : j = l := by omega
              have hlm2 : (j : Int) ≤ m := by omega
              have hfin := hb13.trans (hC.mono hb13.size)
              go_wp2
              go_ret
              exact ⟨rfl, hfin⟩
    · go_ret
      exact ⟨rfl, hb12⟩
end Go.Proofs.YtcfmaeonginefaaGreatDoor.Has

/- slices.SortFunc at modules by cache.Order, over an own row. -/
import Derived.Test.YtcfmaeonginefaaGreatDoorShelf7
import Derived.Test.YtcfmaeonginefaaGreatDoorDrawn
import Derived.Test.YtcfmaeonginefaaGreatDoorOwn7
import Derived.Test.YtcfmaeonginefaaGreatDoorVers
import Derived.Test.YtcfmaeonginefaaGreatDoorOrder7
import Derived.Sort.OwnSorted
namespace Go.Proofs.YtcfmaeonginefaaGreatDoor.SortM
open Go Go.RowKit Go.Shelf Go.Sort Go.Proofs.YtcfmaeonginefaaGreatDoor.Seq Go.Proofs.YtcfmaeonginefaaGreatDoor.Made Go.Proofs.YtcfmaeonginefaaGreatDoor.Order3 Go.Proofs.YtcfmaeonginefaaGreatDoor.Cmp Go.Proofs.YtcfmaeonginefaaGreatDoor.Row7 Go.Proofs.YtcfmaeonginefaaGreatDoor.Own7 Go.Proofs.YtcfmaeonginefaaGreatDoor.Vers Go.Proofs.YtcfmaeonginefaaGreatDoor.Order7 Go.Proofs.YtcfmaeonginefaaGreatDoor.Drawn
set_option linter.unusedSimpArgs false
set_option linter.unusedVariables false

/-- A module whose texts are not long. -/
structure Mk where
  val : ByteArray × ByteArray
  ok : val.1.size ≤ 1048576 ∧ val.2.size ≤ 1048576
theorem Mk.same {x y : Mk} (h : x.val = y.val) : x = y := by
  obtain ⟨a, _⟩ := x
  obtain ⟨b, _⟩ := y
  cases h; rfl
instance : Inhabited Mk := ⟨⟨(⟨#[]⟩, ⟨#[]⟩), by decide⟩⟩
def encK (x : Mk) : List Value := encM x.val
def cmpK (x y : Mk) : Int := modB x.val y.val
theorem encK_len (x : Mk) : (encK x).length = 2 := rfl

/-- What lies below the heap's size as it did, and no fewer draws: new blocks and draws. -/
theorem below_grow {W w' : World} (hb : Below W.heap.size W w') (hd : W.drawn ≤ w'.drawn) : ∃ q os', w' = grow (W.drewN q) os' := by
  refine ⟨w'.drawn - W.drawn, w'.heap.extract W.heap.size w'.heap.size, ?_⟩
  obtain ⟨h1, h2, h3, h4, h5⟩ := hb
  obtain ⟨hp, tp, dr, os, ou⟩ := W
  obtain ⟨hp', tp', dr', os', ou'⟩ := w'
  simp only [] at h1 h2 h3 h4 h5 hd
  subst h1 h2 h3
  unfold grow World.drewN
  simp only [World.mk.injEq, true_and, and_true]
  refine ⟨?_, by omega⟩
  apply Array.ext'
  apply List.ext_getElem?
  intro k
  simp only [Array.getElem?_toList]
  rw [Array.getElem?_append]
  by_cases hk : k < hp.size
  · rw [if_pos hk, h5 k hk]
  · rw [if_neg hk]
    rw [Array.getElem?_extract]
    by_cases hk2 : k < hp'.size
    · rw [if_pos (by omega), show hp.size + (k - hp.size) = k by omega]
    · rw [if_neg (by omega), Array.getElem?_eq_none (by omega)]
theorem orderK (x y : Mk) (W : World) : Calls Tryz.prog 9 (#[.agg (encK x).toArray, .agg (encK y).toArray] ++ #[]) W fun e w' => e = .returned (.int .i64 (cmpK x y)) ∧ ∃ q os', w' = grow (W.drewN q) os' := by
  obtain ⟨⟨p, v⟩, hp, hv⟩ := x
  obtain ⟨⟨q, u⟩, hq, hu⟩ := y
  have h := calls_drawn (order p v q u hp hv hq hu W)
  exact h.mono fun e w' ⟨⟨he, hb⟩, hd⟩ => ⟨he, below_grow hb (hd ⟨_, he⟩)⟩
theorem cmpLays (blk off size : Nat) (w : World) : CmpLays Tryz.prog 9 #[] encK 2 cmpK blk off size w := fun _ _ _ _ x y => orderK x y _
theorem swoK : SWO (ltOf cmpK) where
  irrefl x := by
    unfold ltOf cmpK
    rw [cmp_mod.refl]; rfl
  trans x y z h1 h2 := by
    unfold ltOf cmpK at *
    simp only [decide_eq_true_eq] at *
    exact cmp_mod.lt1 h1 (by omega)
  ntrans x y z h1 h2 := by
    unfold ltOf cmpK at *
    simp only [decide_eq_false_iff_not] at *
    have a1 := cmp_mod.anti x.val y.val
    have a2 := cmp_mod.anti y.val z.val
    have a3 := cmp_mod.anti x.val z.val
    have := cmp_mod.tr z.val y.val x.val (by omega) (by omega)
    omega
theorem totK (x y : Mk) (h1 : ltOf cmpK x y = false) (h2 : ltOf cmpK y x = false) : x = y := by
  unfold ltOf cmpK at *
  simp only [decide_eq_false_iff_not] at *
  have := cmp_mod.anti x.val y.val
  exact Mk.same (modB_zero (by omega))

/-- An array of elements of k cells, as a list. -/
theorem flatK_list {α : Type} [Inhabited α] {enc : α → List Value} {k : Nat} (hk0 : 0 < k) (hk : ∀ x, (enc x).length = k) (d : Array α) : (flatK enc k d).toList = d.toList.flatMap enc := by
  have hlen : (d.toList.flatMap enc).length = d.size * k := by
    have : ∀ l : List α, (l.flatMap enc).length = l.length * k := fun l => by
      induction l with
      | nil => simp
      | cons x r ih => rw [List.flatMap_cons, List.length_append, ih, hk, List.length_cons, Nat.add_mul]; omega
    rw [this]; simp
  apply List.ext_getElem?
  intro t
  by_cases ht : t < d.size * k
  · have h1 : t / k < d.size := Nat.div_lt_of_lt_mul (by rw [Nat.mul_comm]; exact ht)
    have h2 : t % k < k := Nat.mod_lt _ hk0
    have h3 := flat_at hk d.toList (t / k) (by simpa using h1) (t % k) h2
    have h4 : t / k * k + t % k = t := by rw [Nat.mul_comm]; exact Nat.div_add_mod t k
    rw [h4] at h3
    rw [h3]
    have h5 := get_flatK enc k d t ht
    rw [Array.getElem?_toList, Array.getElem?_eq_getElem (by simpa using ht)]
    rw [getElem!_pos _ t (by simpa using ht)] at h5
    rw [h5, getElem!_pos d (t / k) h1]
    have h6 : t % k < (enc d[t / k]).length := by rw [hk]; exact h2
    rw [getElem!_pos (enc d[t / k]) (t % k) h6]
    rw [List.getElem?_eq_getElem (by simpa using h6)]
    simp
  · rw [List.getElem?_eq_none (by simpa using ht), List.getElem?_eq_none (by rw [hlen]; omega)]
theorem holdsK_of_block {w : World} {g : Nat} {cur : Array Value} {e : TypeId} (d : Array Mk) (hb : w.heap[g]? = some (.cells cur e (0, 0))) (ht : cur.toList.take (d.size * 2) = d.toList.flatMap encK) : HoldsK encK 2 w g 0 d := by
  intro j hj
  have hj' : j < d.size * 2 := by simpa using hj
  refine ⟨?_, by simp [World.frozen?, hb]⟩
  have h1 : (cur.toList.take (d.size * 2))[j]? = (flatK encK 2 d).toList[j]? := by rw [ht, flatK_list (by decide) encK_len]
  rw [List.getElem?_take_of_lt hj'] at h1
  simp only [World.cell?, hb, Nat.zero_add]
  simp only [Option.isSome_none, Bool.false_eq_true, if_false]
  rw [← Array.getElem?_toList, h1]
  rw [Array.getElem?_toList, Array.getElem?_eq_getElem hj, getElem!_pos _ j hj]
  rfl
theorem heap_sortedK {w : World} {g n : Nat} {os : Array Obj} {cur : Array Value} {e : TypeId} {fr : Nat × Nat} (d : Array Mk) (hb : w.heap[g]? = some (.cells cur e fr)) :
    (sortWorldK encK 2 w g 0 n d os).heap[g]? = some (.cells (putCells id 0 (flatK encK 2 d) cur) e fr) := by
  have hg : g < w.heap.size := (Array.getElem?_eq_some_iff.1 hb).1
  unfold sortWorldK
  rw [heap_grow_old _ _ (by rw [size_putRowK]; exact hg)]
  simp [putRowK, putRow, mapBlock, Sort.ahead, Array.getElem?_modify, hb, onCells]
theorem grownBy_sortedK {w : World} {g n : Nat} {os : Array Obj} (d : Array Mk) : w.grownBy (sortWorldK encK 2 w g 0 n d os) (some g) := by
  refine ⟨rfl, rfl, rfl, by simp [sortWorldK, putRowK, putRow, mapBlock, Sort.ahead, grow], fun k hk hne => ?_⟩
  unfold sortWorldK
  rw [heap_grow_old _ _ (by rw [size_putRowK]; exact hk)]
  have : g ≠ k := fun e => hne (by rw [e])
  simp [putRowK, putRow, mapBlock, Sort.ahead, Array.getElem?_modify, this]
theorem take_putCellsK (cur : Array Value) (F : Array Value) (h : F.size ≤ cur.size) : (putCells id 0 F cur).toList.take F.size = F.toList := by
  apply List.ext_getElem?
  intro j
  by_cases hj : j < F.size
  · rw [List.getElem?_take_of_lt hj, Array.getElem?_toList]
    simp [putCells, hj, show j < cur.size by omega]
  · rw [List.getElem?_take_eq_none (by omega), List.getElem?_eq_none (by simp; omega)]

def mkL (ms : List (ByteArray × ByteArray)) (h : ∀ m ∈ ms, m.1.size ≤ 1048576 ∧ m.2.size ≤ 1048576) : List Mk := ms.attach.map fun m => ⟨m.1, h m.1 m.2⟩
theorem mkL_val (ms : List (ByteArray × ByteArray)) (h : ∀ m ∈ ms, m.1.size ≤ 1048576 ∧ m.2.size ≤ 1048576) : (mkL ms h).map Mk.val = ms := by
  unfold mkL
  rw [List.map_map]
  exact List.attach_map_subtype_val ms
theorem flat_val (l : List Mk) : l.flatMap encK = (l.map Mk.val).flatMap encM := by
  rw [List.flatMap_map]; rfl
set_option maxRecDepth 100000 in
set_option maxHeartbeats 2000000 in
theorem sortM (w0 wr : World) (B : Nat) (v : Value) (ms : List (ByteArray × ByteArray)) (hown : OwnM wr B v ms) (hb : Below B w0 wr) (hf : ∀ m ∈ ms, m.1.size ≤ 1048576 ∧ m.2.size ≤ 1048576) (hn : ms.length ≤ 1000000) (hB : B ≤ wr.heap.size) :
    Calls Tryz.prog 41 #[v, .func (.func 9) #[] #[]] wr fun e w' => e = .returned (.tuple #[]) ∧ OwnM w' B v (ms.mergeSort leB) ∧ Below B w0 w' ∧ B ≤ w'.heap.size := by
  obtain ⟨hl, hh⟩ := hown
  rcases hh with ⟨rfl, h0⟩ | ⟨g, cap, cur, rfl, hg, hc, hcap, hmx, hsz, htk⟩
  · have : ms = [] := List.length_eq_zero_iff.1 h0
    subst this
    have hcon := AnyF.slices_SortFunc_none { Tryz.laysSort with } none 0 (.func (.func 9) #[] #[]) wr
    change Calls Tryz.prog 41 _ _ _ at hcon
    exact hcon.mono fun e w' ⟨he, hw⟩ => ⟨he, by rw [hw]; exact ⟨⟨by simp, .inl ⟨rfl, by simp⟩⟩, hb, hB⟩⟩
  · have hv := mkL_val ms hf
    generalize mkL ms hf = d at hv
    subst hv
    have hdl : (d.map Mk.val).length = d.length := by simp
    have hgl : g < wr.heap.size := (Array.getElem?_eq_some_iff.1 hc).1
    have hs2 : d.toArray.size = d.length := by simp
    rw [hdl] at htk hcap hl hn ⊢
    rw [← flat_val] at htk
    have hH : HoldsK encK 2 wr g 0 d.toArray := holdsK_of_block d.toArray hc (by rw [hs2]; exact htk)
    have eg : ∀ args w, (callFunc 9 args).run Tryz.prog w = .ok (.enter 9 args) w := enters_of Tryz.func9 (by kernel_rfl) rfl
    have hcon := AnyQ.slices_SortFunc_total Tryz.laysSort 2 Tryz.isAgg23 Tryz.sizeOf23 encK encK_len (fun x u hu => encM_one x.val u hu) cmpK swoK 9 #[] g 0 cap d.toArray wr eg (cmpLays g 0 d.toArray.size wr) hH hgl (by rw [hs2]; omega) totK
    change Calls Tryz.prog 41 _ _ _ at hcon
    rw [hs2] at hcon
    refine hcon.mono fun e w' ⟨he, n, os, hw⟩ => ⟨he, ?_⟩
    have hgr := grownBy_sortedK (w := wr) (g := g) (n := n) (os := os) (d.toArray.toList.mergeSort fun x y => !(ltOf cmpK) y x).toArray
    have hhp := heap_sortedK (n := n) (os := os) (d.toArray.toList.mergeSort fun x y => !(ltOf cmpK) y x).toArray hc
    rw [← hw] at hgr hhp
    have hz := hgr.size
    have hmap : ((d.toArray.toList.mergeSort fun x y => !(ltOf cmpK) y x).map Mk.val) = (d.map Mk.val).mergeSort leB := by
      exact List.map_mergeSort (s := leB) (f := Mk.val) (l := d) (fun a _ b _ => rfl)
    refine ⟨?_, hb.grown hgr hB (fun j ej => by cases ej; exact hg), by omega⟩
    generalize d.toArray.toList.mergeSort (fun x y => !(ltOf cmpK) y x) = L at *
    rw [← hmap]
    have hL : L.length = d.length := by
      have := congrArg List.length hmap
      simpa using this
    have hfl : (L.flatMap encK).length = L.length * 2 := by
      have := congrArg List.length (flatK_list (by decide) encK_len L.toArray)
      simpa using this.symm
    refine ⟨by rw [← flat_val, hfl]; simp, .inr ⟨g, cap, _, by simp [hL], hg, hhp, by simp; omega, hmx, by simp [putCells, hsz], ?_⟩⟩
    have hF : (flatK encK 2 L.toArray).size = (L.map Mk.val).length * 2 := by simp
    rw [← hF, take_putCellsK _ _ (by rw [hF, hsz]; simp; omega), flatK_list (by decide) encK_len, flat_val]
end Go.Proofs.YtcfmaeonginefaaGreatDoor.SortM

/- slices.Collect and slices.AppendSeq(nil, ..) at texts, over whatever iterator; paths.Elems. -/
import Derived.Test.YtcfmaeonginefaaGreatDoorElems
import Derived.Maps.AppendAt
import Derived.RangeFuncLeaves
namespace Go.Proofs.YtcfmaeonginefaaGreatDoor.Collect
open Go Go.RowKit Go.Shelf Go.Proofs.YtcfmaeonginefaaGreatDoor.Seq Go.Proofs.YtcfmaeonginefaaGreatDoor.Cut Go.Proofs.YtcfmaeonginefaaGreatDoor.Elems
attribute [local go_sem] Oper.semAt_some

theorem infoS : (Tryz.prog.info? 9).map (fun i => (i.zero, i.size, i.bytes)) = some (some (.string ⟨#[]⟩), 1, 16) := by kernel_rfl

set_option maxRecDepth 100000 in
set_option maxHeartbeats 2000000 in
theorem appendSeq (gf : Nat) (lb : Array Value) (eg : ∀ args w, (callFunc gf args).run Tryz.prog w = .ok (.enter gf args) w) (Bs : Nat) (xs : List ByteArray) (hlen : xs.length * 16 ≤ 140737488355328) (w : World) (hBs : Boxed w Bs 9 (.string ⟨#[]⟩) ∨ Bs < w.heap.size)
    (n₀ : Nat) (hn₀ : n₀ ≤ Bs)
    (hseq : ∀ W, Below w.heap.size w W → SeqX Fence.wide 8 Tryz.prog gf lb (fun x : ByteArray => #[.string x]) (· = Bs) (KeepsBox Bs) xs W) :
    CallsIn Fence.wide 9 Tryz.prog 118 #[.slice none 0 0, .func (.func gf) #[] lb] w fun e W' => ∃ v, e = .returned v ∧ W'.ownsRow w.heap.size 9 1 v xs.length (xs.map Value.string) ∧ Below n₀ w W' := by
  have hBlt : Bs < w.heap.size := by rcases hBs with h | h; exact h.lt; exact h
  clear hBs
  obtain ⟨i0, hi, hz0, hz1, hz2⟩ := info_parts infoS
  refine callsIn_of_wp_marks Tryz.func118 rfl trivial ?_ rfl
  simp only [Tryz.ntmps118, List.size_toArray, List.length_cons, List.length_nil, Nat.reduceAdd, Nat.reduceSub, Array.replicate_succ, Array.replicate_zero, List.push_toArray, List.append_toArray, List.nil_append, List.cons_append]
  gi_wp2
  have bO := Boxed.new w 32 (.slice none 0 0)
  have hB0 : Below n₀ w (w.alloc (.cells #[.slice none 0 0] 32)) := (Below.refl _ w).alloc (by omega) _
  refine wpIn_rangeFunc_X (F := Fence.wide) rfl (by omega) (gf := gf) (lb := lb) rfl trivial eg
    (hseq _ ((Below.refl _ w).alloc (Nat.le_refl _) _)) (fun r e => by subst e; simp; omega) keepsBox_t (keepsBox_b (by simp; omega)) (fun _ => rfl)
    (fun pre W => (∃ v, Boxed W w.heap.size 32 v ∧ W.ownsRow w.heap.size 9 1 v pre.length (pre.map Value.string)) ∧ Below n₀ w W ∧ w.heap.size < W.heap.size)
    (fun _ _ _ => False)
    ?hI (fun _ _ _ _ _ hs _ _ => hs)
    ⟨⟨_, bO, World.ownsRow_nil _ _ _ _⟩, hB0, by simp⟩
    (fun x => { tmps := #[.slice none 0 0, .func (.func gf) #[] lb, .pointer (some ⟨w.heap.size, 0, none⟩), undef, .slice none 0 0, .string x, .func (.func gf) #[] lb, .string x, undef, undef, undef, undef, undef], defers := [] }) ?assign ?body ?done ?stop
  case hI =>
    rintro s A B row ⟨⟨v, hv, hr⟩, hb, hsz⟩ hg hrow
    refine ⟨⟨v, hv.kept hg (fun e' => ?_), hr.kept hg ?_⟩, hb.grown hg (by have := hb.size; omega) (fun k e => ?_), by have := hg.size; omega⟩
    · rcases hrow _ e'.symm with h | ⟨h, _⟩
      · omega
      · simp at h; omega
    · rcases hr.2 with ⟨rfl, _⟩ | ⟨g, cap, cur, rfl, hgb0, hgb, _⟩
      · exact .inl rfl
      · refine .inr fun e' => ?_
        rcases hrow g (by simpa [Value.ownBlock] using e'.symm) with h | ⟨_, o, ho, hc⟩
        · omega
        · rw [hgb] at ho; cases ho; cases hc
    · rcases hrow k e with h | ⟨h, _⟩
      · omega
      · simp at h; omega
  case assign =>
    intro l x W K hK
    gi_wp2
    exact hK
  case body =>
    rintro l pre x post W hxs ⟨⟨v, hv, hrow⟩, hB, hsz⟩
    have hc := hv.cell
    have hpl : pre.length + 1 ≤ xs.length := by rw [hxs]; simp
    clear hxs
    gi_wp2_with (gi_at_builtin; refine wpListIn_append_own _ rfl _ _ 32 rfl w.heap.size 9 i0 (.string ⟨#[]⟩) 1 16 Tryz.underlying32 hi hz0 hz1 hz2 rfl (by decide) _ _ _ rfl (hrow.alloc _) ⟨W.heap.size, 0, none⟩ 1 1 [.string x] rfl rfl (cell_one_new _ _ _) (by simp [Value.oneCell']) (by unfold maxLen; omega) (by omega) (by simp; omega) ?_; intro v' w1 hown' hgrow _; obtain ⟨g', cap', rfl⟩ := ownsRow_succ hown'; obtain ⟨hv1, hv2, hr2, hk2, hb2⟩ := hv.appended (by decide) hrow (by omega) (Nat.le_refl _) hown' hgrow; have hc1 := hv1.cell; have hf1 := hv1.frozen)
    refine ⟨hk2.from _, ?_, ⟨⟨_, hv2, by simpa using hr2⟩, ?_, ?_⟩⟩
    · exact hb2.block Bs hBlt
    · exact hB.trans (hb2.mono (by omega))
    · have := hb2.size; omega
  case done =>
    rintro D W hD ⟨⟨v, hv, hrow⟩, hB, hsz⟩ hK
    have hc := hv.cell
    gi_wp2
    refine ⟨by simp, .inl ⟨_, _, rfl, run_takeDeferred hK, ?_⟩⟩
    exact ⟨_, results_tmp rfl _ _ _, v, rfl, ownsRow_putObj hrow _ hK rfl, hB.trans (belowK_b (w := w) (by omega) W D _ _ (by simp at hD; omega) hK rfl rfl)⟩
  case stop =>
    rintro D c pre x post W _ _ h _
    exact h.elim

set_option maxHeartbeats 1000000 in
/-- slices.Collect over such an iterator. -/
theorem collect (gf : Nat) (lb : Array Value) (eg : ∀ args w, (callFunc gf args).run Tryz.prog w = .ok (.enter gf args) w) (Bs : Nat) (xs : List ByteArray) (hlen : xs.length * 16 ≤ 140737488355328) (w : World) (hBs : Bs < w.heap.size)
    (n₀ : Nat) (hn₀ : n₀ ≤ Bs)
    (hseq : ∀ W, Below w.heap.size w W → SeqX Fence.wide 8 Tryz.prog gf lb (fun x : ByteArray => #[.string x]) (· = Bs) (KeepsBox Bs) xs W) :
    Calls Tryz.prog 83 #[.func (.func gf) #[] lb] w fun e W' => ∃ v, e = .returned v ∧ W'.ownsRow w.heap.size 9 1 v xs.length (xs.map Value.string) ∧ Below n₀ w W' := by
  go_enter Tryz.func83, Tryz.ntmps83
  go_wp2_with (go_at_call 118; refine (callsIn_wide.1 (appendSeq gf lb eg Bs xs hlen _ (.inr hBs) n₀ hn₀ hseq)).mono ?_; rintro e w' ⟨v, rfl, h1, h2⟩)
  go_ret
  exact ⟨v, rfl, h1, h2⟩

set_option maxHeartbeats 1000000 in
/-- paths.Elems. -/
theorem Elems (s : ByteArray) (hs : s.size ≤ 1048576) (w : World) :
    Calls Tryz.prog 53 #[.string s] w fun e W' => ∃ v, e = .returned v ∧ W'.ownsRow w.heap.size 9 1 v (elemsB s).length ((elemsB s).map Value.string) ∧ Below w.heap.size w W' := by
  have hl := elemsB_length s
  have bx := Boxed.new w 9 (.string s)
  go_enter Tryz.func53, Tryz.ntmps53
  go_wp2_with (first
    | (go_at_call 62; refine (callsIn_wide.1 (elems s _)).mono ?_; rintro e w' ⟨rfl, rfl⟩)
    | (go_at_call 83; refine (collect _ _ (enters_of Tryz.func95 (by kernel_rfl) rfl) w.heap.size (elemsB s) (by omega) _ (by simp) w.heap.size (Nat.le_refl _) (fun W hW => elems_seq s (by omega) _ W (Eq.trans (hW.block _ (by simp)) bx))).mono ?_; rintro e w' ⟨v, rfl, h1, h2⟩))
  go_ret
  refine ⟨v, rfl, ⟨h1.1, ?_⟩, ((Below.refl _ w).alloc (Nat.le_refl _) _).trans h2⟩
  rcases h1.2 with h | ⟨g, cap, cur, hv, hb, r⟩
  · exact .inl h
  · exact .inr ⟨g, cap, cur, hv, by simp at hb; omega, r⟩
end Go.Proofs.YtcfmaeonginefaaGreatDoor.Collect

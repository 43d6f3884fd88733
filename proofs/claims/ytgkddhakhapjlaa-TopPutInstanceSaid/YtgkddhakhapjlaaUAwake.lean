/- Walks: awake5 of the laws over the layers: two terms that do not unify meet. -/
import Derived.Test.YtgkddhakhapjlaaUSolved
import Derived.Test.YtgkddhakhapjlaaWalkH
namespace Go.Proofs.Ytgkddhakhapjlaa
open Go Go.RowKit Go.Maps

theorem aw5m : meetB awS [-1] [1, -1] = true := by
  have h1 : okT awS [-1] = true := by decide +kernel
  have h2 : okT awS [1, -1] = true := by decide +kernel
  unfold meetB
  rw [h1, h2, Bool.true_and, Bool.true_and]
  have hw : Wsub awS (fun n => if n = -1 then [1, -13] else [n]) := fun n hn => by
    show W1 awS (if n = -1 then [1, -13] else [n])
    split
    · decide +kernel
    · exact W1.var hn
  exact (uniB_iff (okT_parts h1).1 (okT_w1 h1) (apartT_w (okT_w1 h2)) (okT_Rg h1) (apartT_rg h2)).2 ⟨_, hw, by decide +kernel⟩
theorem aw5u : unifB awS [-1] [1, -1] = false := by
  unfold unifB
  have : uniB awS [-1] [1, -1] = false := uniB_none fun η hw h => by
    rw [ap_one (by decide), ap_pos (by decide), ap_one (by decide)] at h
    have := congrArg List.length h
    simp at this
  rw [this, Bool.and_false]
set_option maxHeartbeats 1000000 in
theorem awake5_any (w : World) :
    Calls Try.prog 6 #[] w fun e w' => e = .returned (.bool true) ∧ Below w.heap.size w w' := by
  have hS := awSign w
  go_enter Try.func6, Try.ntmps6
  go_wp2_with fail
  have hB0 := below1 w (.cells #[.string ⟨#[67]⟩, .int .i64 2, .string ⟨#[78]⟩, .int .i64 1] 39)
  have hT := Ints.new (w.alloc (.cells #[.string ⟨#[67]⟩, .int .i64 2, .string ⟨#[78]⟩, .int .i64 1] 39)) [-1] 3 (by decide) (by unfold inRange; decide)
  have hU := Ints.new ((w.alloc (.cells #[.string ⟨#[67]⟩, .int .i64 2, .string ⟨#[78]⟩, .int .i64 1] 39)).alloc (.cells ([-1].map (Value.int .i64)).toArray 3)) [1, -1] 3 (by decide) (by unfold inRange; decide)
  have hT1 := hT.below (below1 _ (.cells ([1, -1].map (Value.int .i64)).toArray 3))
  have hS1 := hS.below (below2 _ (.cells ([-1].map (Value.int .i64)).toArray 3) (.cells ([1, -1].map (Value.int .i64)).toArray 3))
  have hB1 := bcall hB0 (below2 _ (.cells ([-1].map (Value.int .i64)).toArray 3) (.cells ([1, -1].map (Value.int .i64)).toArray 3))
  rw [World.size_alloc] at hT1 hU
  rw [World.size_alloc] at hU
  refine (Meets_any (some ⟨w.heap.size, 0, none⟩) (some ⟨w.heap.size + 1, 0, none⟩) (some ⟨w.heap.size + 1 + 1, 0, none⟩) 2 1 2 awS [-1] [1, -1] _ hS1 hT1 hU).mono ?_
  rw [aw5m]
  rintro e w1 ⟨rfl, hb1⟩
  have hS2 := hS1.below hb1
  have hB2 := bcall hB1 hb1
  clear hS hS1 hT hT1 hU hB0 hB1 hb1
  go_wp2_with fail
  have hT := Ints.new w1 [-1] 3 (by decide) (by unfold inRange; decide)
  have hU := Ints.new (w1.alloc (.cells ([-1].map (Value.int .i64)).toArray 3)) [1, -1] 3 (by decide) (by unfold inRange; decide)
  have hT1 := hT.below (below1 _ (.cells ([1, -1].map (Value.int .i64)).toArray 3))
  have hb2 := below2 w1 (.cells ([-1].map (Value.int .i64)).toArray 3) (.cells ([1, -1].map (Value.int .i64)).toArray 3)
  rw [World.size_alloc] at hU
  refine (Unifiable_any (some ⟨w.heap.size, 0, none⟩) (some ⟨w1.heap.size, 0, none⟩) (some ⟨w1.heap.size + 1, 0, none⟩) 2 1 2 awS [-1] [1, -1] _ (hS2.below hb2) hT1 hU).mono ?_
  rw [aw5u]
  rintro e w2 ⟨rfl, hb3⟩
  have hB3 := bcall (bcall hB2 hb2) hb3
  clear hS2 hT hT1 hU hB2 hb2 hb3
  go_wp2_with fail
  go_ret
  exact ⟨rfl, hB3⟩
end Go.Proofs.Ytgkddhakhapjlaa

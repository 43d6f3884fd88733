/- Walks: the iterator over the parts of a term, as a caller takes it. -/
import Derived.Test.YtjiffkpgadjodaaPartsIt
namespace Go.Proofs.Ytjiffkpgadjodaa
open Go Go.RowKit Go.Shelf

attribute [local go_sem] Oper.semAt_some

theorem abides_below {β : Type} {B : Nat} {J : β → World → Prop} (h : AbidesFrom B J) {s : β} {A A' : World} (hs : J s A) (hb : Below A.heap.size A A') : J s A' :=
  h s A A' none hs (Below.grow hb) (fun r e => by cases e)

set_option maxRecDepth 100000 in
set_option maxHeartbeats 2000000 in
theorem parts1_in (n l sb tb B0 N : Nat) (a1 au : Option Addr) (c1 cu : Nat) (s : Sg) (u : List Int) (J Jx : List El → World → Prop) (hab : ∀ pre W W', J pre W → Below W.heap.size W W' → J pre W')
    (hY : ∀ m pre x W, J pre W → ElR x W → pre.length < N → YieldAt Fence.wide m Try.prog l x.enc W fun e W' => (e = .returned (.bool true) ∧ J (pre ++ [x]) W' ∧ Leaves B0 W W') ∨ (e = .returned (.bool false) ∧ Jx (pre ++ [x]) W' ∧ Leaves B0 W W'))
    (W : World) (hok : okT s u = true) (hN : u.length ≤ N) (hrow : RowLt B0 W) (hcs : W.cell? ⟨sb, 0, none⟩ = some (.slice a1 s.length c1)) (hss : Safe B0 W sb) (hct : W.cell? ⟨tb, 0, none⟩ = some (.slice au u.length cu))
    (hsg : Sign (Safe B0 W) W a1 c1 s) (hu : Ints (Safe B0 W) W au cu u) (hJ : J [] W) :
    CallsIn Fence.wide n Try.prog 32 #[.func (.yield l) #[] #[], .pointer (some ⟨sb, 0, none⟩), .pointer (some ⟨tb, 0, none⟩)] W fun e W' => (∃ v, e = .returned v) ∧
      ((∃ ys : List El, ys.map El.pt = PL s u.length u ∧ J ys W') ∨ (∃ pre, True ∧ Jx pre W')) := by
  have hro : Fence.wide.round = none := rfl
  obtain ⟨W2, hW2⟩ : ∃ W2, (W.alloc (.cells #[.func (.yield l) #[] #[]] 60)).alloc (.cells #[.func (.func 33) #[] #[.pointer (some ⟨W.heap.size, 0, none⟩), .pointer (some ⟨sb, 0, none⟩), .pointer (some ⟨W.heap.size + 1, 0, none⟩)]] 60) = W2 := ⟨_, rfl⟩
  have hb2 : Below W.heap.size W W2 := by rw [← hW2]; exact below2 W _ _
  have hl2 : Leaves B0 W W2 := .of_below hrow.1 hb2
  have cy : W2.cell? ⟨W.heap.size, 0, none⟩ = some (.func (.yield l) #[] #[]) := by rw [← hW2]; clear hW2; go_simp
  have cw : W2.cell? ⟨W.heap.size + 1, 0, none⟩ = some (.func (.func 33) #[] #[.pointer (some ⟨W.heap.size, 0, none⟩), .pointer (some ⟨sb, 0, none⟩), .pointer (some ⟨W.heap.size + 1, 0, none⟩)]) := by rw [← hW2]; clear hW2; go_simp
  have hPB : PB B0 l W.heap.size sb (W.heap.size + 1) a1 c1 s W2 := ⟨hl2.lt hrow, cy, .fresh hrow hb2 (Nat.le_refl _) (.of_cell cy), hl2.cell hss hcs, hl2.safe hss, cw, .fresh hrow hb2 (Nat.le_succ _) (.of_cell cw), hl2.sl hsg⟩
  have hcall := partsWalk_in l W.heap.size sb (W.heap.size + 1) B0 N a1 c1 s J Jx hab hY u.length (n - 1) u [] none au 0 cu [] W2 hok (Nat.le_refl _) (by have := (okT_parts hok).2.2.1; simpa using this) hPB .empty (fun _ => rfl) (hl2.sl hu) (hab _ _ _ hJ hb2) (by simpa using hN)
  rw [← hW2, List.length_nil] at hcall
  have htb := World.block_lt_of_cell? _ _ hct
  have hcallH := Lib.hid hcall
  have m3 := hu.le
  clear hcall hPB cw cy hl2 hb2 hW2 hsg hu hab hY hss hrow hJ
  refine callsIn_of_wp Try.func32 rfl trivial ?_ hro
  simp only [Try.ntmps32, List.size_toArray, List.length_cons, List.length_nil, Nat.reduceAdd, Nat.reduceSub, Array.replicate_succ, Array.replicate_zero, List.push_toArray, List.append_toArray, List.nil_append, List.cons_append]
  gi_wp2_with fail
  refine ⟨trivial, fun h => (by cases h), ?_⟩
  (with_reducible refine hcallH.out.mono ?_)
  rintro e W5 (⟨rfl, ys, hy, hJ5, -⟩ | ⟨rfl, ⟨q, hx⟩, -⟩)
  · gi_wp2_with fail
    go_end0
    exact ⟨⟨_, rfl⟩, .inl ⟨ys, by rw [hy]; simp, hJ5⟩⟩
  · gi_wp2_with fail
    go_end0
    exact ⟨⟨_, rfl⟩, .inr ⟨q, trivial, hx⟩⟩

set_option maxHeartbeats 1000000 in
theorem parts_in (n : Nat) (a1 a2 : Option Addr) (l1 l2 c1 c2 : Nat) (w : World) :
    CallsIn Fence.wide n Try.prog 15 #[.slice a1 l1 c1, .slice a2 l2 c2] w fun e w' => e = .returned (.func (.func 32) #[] #[.pointer (some ⟨w.heap.size, 0, none⟩), .pointer (some ⟨w.heap.size + 1, 0, none⟩)]) ∧
      w' = (w.alloc (.cells #[.slice a1 l1 c1] 23)).alloc (.cells #[.slice a2 l2 c2] 25) := by
  have hro : Fence.wide.round = none := rfl
  refine callsIn_of_wp Try.func15 rfl trivial ?_ hro
  simp only [Try.ntmps15, List.size_toArray, List.length_cons, List.length_nil, Nat.reduceAdd, Nat.reduceSub, Array.replicate_succ, Array.replicate_zero, List.push_toArray, List.append_toArray, List.nil_append, List.cons_append]
  gi_wp2
  go_ret
  exact ⟨rfl, rfl⟩
theorem parts_seq (n sb tb B0 : Nat) (a1 au : Option Addr) (c1 cu : Nat) (s : Sg) (u : List Int) (w : World) (hok : okT s u = true) (hrow : RowLt B0 w) (hcs : w.cell? ⟨sb, 0, none⟩ = some (.slice a1 s.length c1)) (hss : Safe B0 w sb)
    (hct : w.cell? ⟨tb, 0, none⟩ = some (.slice au u.length cu)) (hst : Safe B0 w tb) (hsg : Sign (Safe B0 w) w a1 c1 s) (hu : Ints (Safe B0 w) w au cu u) :
    SeqRel Fence.wide n Try.prog 32 #[.pointer (some ⟨sb, 0, none⟩), .pointer (some ⟨tb, 0, none⟩)] El.enc ElR (Leaves B0) (fun ys => ys.map El.pt = PL s u.length u) (fun _ => True) u.length w := fun l J Jx W hW hJ _ hY h0 => by
  have hl := Leaves.of_below hrow.1 hW
  exact parts1_in n l sb tb B0 u.length a1 au c1 cu s u J Jx (fun pre A A' h hb => abides_below hJ h hb) (fun m pre x A h1 h2 h3 => YieldAt.wideAny m (hY pre x A h1 h2 h3)) W hok (Nat.le_refl _) (hl.lt hrow) (hl.cell hss hcs) (hl.safe hss) (hl.cell hst hct) (hl.sl hsg) (hl.sl hu) h0
theorem El.size (x : El) : x.enc.size = 2 := rfl
end Go.Proofs.Ytjiffkpgadjodaa

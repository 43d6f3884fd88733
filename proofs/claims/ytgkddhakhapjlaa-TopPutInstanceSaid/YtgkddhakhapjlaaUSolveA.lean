/- Walks of package unify: the stack of pairs; where arguments lie; after of a logic; the step of unification. -/
import Derived.Test.YtgkddhakhapjlaaUComesW
import Derived.Test.YtgkddhakhapjlaaULook
import Derived.Test.YtgkddhakhapjlaaUSt
namespace Go.Proofs.Ytgkddhakhapjlaa
open Go Go.RowKit Go.Maps

abbrev prE : Enc (List Int × List Int) := pairE (slE intE) (slE intE)
abbrev OwnPr (S : Nat → Prop) (w : World) (base : Nat) (v : Value) (L : Prs) : Prop := OwnL prE S w base 79 v L
theorem infoPair : (Try.prog.info? 79).map (fun i => (i.zero, i.size, i.bytes)) = some (some (.agg #[.slice none 0 0, .slice none 0 0]), 2, 48) := by kernel_rfl

section
variable {S : Nat → Prop} {w : World} {base g n cap : Nat} {L : Prs}
theorem pr_len {xs : List (List Value)} {T : Nat → Prop} (hl : xs.length = L.length) (hx : ∀ i (h1 : i < xs.length) (h2 : i < L.length), prE.R T w xs[i] L[i]) : ∀ x ∈ xs, x.length = 2 := by
  intro x hxm
  obtain ⟨i, hi, rfl⟩ := List.getElem_of_mem hxm
  exact prE.len (hx i hi (by omega))
theorem OwnPr.cell (h : OwnPr S w base (.slice (some ⟨g, 0, none⟩) n cap) L) (hn : n = L.length) (i : Nat) (hi : i < L.length) :
    ∃ a c a' c', w.cell? ⟨g, i * 2, none⟩ = some (.slice a L[i].1.length c) ∧ w.cell? ⟨g, i * 2 + 1, none⟩ = some (.slice a' L[i].2.length c') ∧ Ints (Off S (.slice (some ⟨g, 0, none⟩) n cap)) w a c L[i].1 ∧ Ints (Off S (.slice (some ⟨g, 0, none⟩) n cap)) w a' c' L[i].2 := by
  subst hn
  obtain ⟨xs, ho, hl, hx⟩ := h
  have hi' : i < xs.length := by omega
  have h1 := pr_len hl hx
  obtain ⟨us, ts, he, ⟨a, c, rfl, hI⟩, ⟨a', c', rfl, hI'⟩⟩ := hx i hi' hi
  refine ⟨a, c, a', c', ?_, ?_, hI, hI'⟩
  · rw [ho.cellAt (i * 2) (by show i * 2 < L.length * 2; omega)]
    have := flatten_get h1 i hi' 0 (by rw [he]; simp)
    rw [Nat.add_zero] at this
    rw [this]; simp [he]
  · rw [ho.cellAt (i * 2 + 1) (by show i * 2 + 1 < L.length * 2; omega)]
    have := flatten_get h1 i hi' 1 (by rw [he]; simp)
    rw [this]; simp [he]
theorem OwnPr.take (h : OwnPr S w base (.slice (some ⟨g, 0, none⟩) n cap) L) (hn : n = L.length) {k : Nat} (hk : k ≤ n) : OwnPr S w base (.slice (some ⟨g, 0, none⟩) k cap) (L.take k) := by
  subst hn
  obtain ⟨xs, ho, hl, hx⟩ := h
  have h1 := pr_len hl hx
  have hlk : (L.take k).length = k := by simp; omega
  have hfl : (xs.take k).flatten = xs.flatten.take (k * 2) := by
    clear ho hx hl hk hlk
    induction xs generalizing k with
    | nil => simp
    | cons x r ih =>
      have hx2 := h1 x (by simp)
      cases k with
      | zero => simp
      | succ k => rw [List.take_succ_cons, List.flatten_cons, List.flatten_cons, ih (fun z hz => h1 z (by simp [hz])), show (k + 1) * 2 = x.length + k * 2 by omega, List.take_length_add_append]
  refine ⟨xs.take k, ?_, by simp [hl], fun i g1 g2 => ?_⟩
  · rw [hlk, hfl]
    obtain ⟨e1, e2⟩ := ho
    have hs : prE.size = 2 := rfl
    rw [hs] at e1 e2 ⊢
    refine ⟨by rw [List.length_take, e1]; omega, ?_⟩
    rcases e2 with ⟨e2, -⟩ | ⟨g', cap', cur, e3, e4, e5, e6, e7, e8, e9⟩
    · cases e2
    · cases e3
      refine .inr ⟨g, cap, cur, rfl, e4, e5, by omega, e7, e8, ?_⟩
      rw [← e9, List.take_take, Nat.min_eq_left (by omega)]
  · simp only [List.getElem_take]
    exact hx i (by simp at g1; omega) (by simp at g2; omega)
end

/-- the places of the arguments -/
def apos (s : Sg) (t : List Int) (m : Nat) : Nat := 1 + ((argsW s t).take m).flatten.length
theorem apos_zero (s : Sg) (t : List Int) : apos s t 0 = 1 := rfl
theorem args_at {s : Sg} {n : Int} {x : List Int} (h : W1 s (n :: x)) {m : Nat} (hm : m < arW s n) (hl : m < (argsW s (n :: x)).length) :
    skw s 1 ((n :: x).drop (apos s (n :: x) m)) = some ((n :: x).drop (apos s (n :: x) (m + 1))) ∧ apos s (n :: x) m < apos s (n :: x) (m + 1) ∧ apos s (n :: x) (m + 1) ≤ (n :: x).length ∧
      ((n :: x).drop (apos s (n :: x) m)).take (apos s (n :: x) (m + 1) - apos s (n :: x) m) = (argsW s (n :: x))[m] := by
  obtain ⟨h1, h2, h3, -⟩ := h.args
  obtain ⟨A, hA⟩ : ∃ A, argsW s (n :: x) = A := ⟨_, rfl⟩
  rw [hA] at h1 h2 h3
  simp only [apos, hA]
  have hd : ∀ k, (n :: x).drop (1 + (A.take k).flatten.length) = (A.drop k).flatten := fun k => by
    rw [Nat.add_comm, List.drop_succ_cons, ← h2]
    conv => lhs; rw [← List.take_append_drop k A]
    rw [List.flatten_append]
    have : ((A.take k ++ A.drop k).take k) = A.take k := by rw [List.take_append_drop]
    rw [this, List.drop_left]
  have ht : (A.take (m + 1)).flatten.length = (A.take m).flatten.length + (A[m]'(by omega)).length := by
    rw [List.take_succ_eq_append_getElem (by omega), List.flatten_append, List.length_append]; simp
  have hdm : (A.drop m).flatten = A[m]'(by omega) ++ (A.drop (m + 1)).flatten := by rw [List.drop_eq_getElem_cons (by omega), List.flatten_cons]
  have hw := h3 _ (List.getElem_mem (by omega : m < A.length))
  have hle : (A.take (m + 1)).flatten.length ≤ x.length := by
    rw [← h2]
    conv => rhs; rw [← List.take_append_drop (m + 1) A]
    rw [List.flatten_append, List.length_append]; omega
  have hwl := hw.len
  refine ⟨?_, by omega, by rw [List.length_cons]; omega, ?_⟩
  · rw [hd, hd, hdm, skw_append s 1 _ _ _ hw]; rfl
  · rw [hd, ht, hdm, show 1 + ((A.take m).flatten.length + (A[m]'(by omega)).length) - (1 + (A.take m).flatten.length) = (A[m]'(by omega)).length by omega, List.take_left]
theorem args_all {s : Sg} {t : List Int} (h : W1 s t) {n : Int} (hn : t.headD 0 = n) : (argsW s t).length = arW s n ∧ n < s.length ∧ ∀ m (hm : m < (argsW s t).length), skw s 1 (t.drop (apos s t m)) = some (t.drop (apos s t (m + 1))) ∧ apos s t m < apos s t (m + 1) ∧ apos s t (m + 1) ≤ t.length ∧
    (t.drop (apos s t m)).take (apos s t (m + 1) - apos s t m) = (argsW s t)[m] := by
  cases t with
  | nil => exact (h.ne rfl).elim
  | cons k x =>
    simp only [List.headD_cons] at hn
    subst hn
    exact ⟨h.args.1, h.args.2.2.2, fun m hm => args_at h (by rw [← h.args.1]; exact hm) hm⟩
theorem drop_len {t : List Int} {k : Nat} (h : k ≤ t.length) : t.length - (t.drop k).length = k := by rw [List.length_drop]; omega

set_option maxHeartbeats 1000000 in
theorem lafter_any {S1 S2 : Nat → Prop} (a1 a2 : Option Addr) (c1 c2 : Nat) (s : Sg) (t : List Int) (p : Nat) (r : List Int) (w : World) (h1 : Sign S1 w a1 c1 s) (h2 : Ints S2 w a2 c2 t) (hok : okSign s = true) (hp : skw s 1 (t.drop p) = some r) :
    Calls Try.prog 43 #[.agg #[.slice a1 s.length c1], .slice a2 t.length c2, .int .i64 p] w fun e w' => e = .returned (.int .i64 (t.length - r.length : Nat)) ∧ Below w.heap.size w w' := by
  have cf := fun W hb => after_any a1 a2 c1 c2 s t p r W (h1.below (w' := W) hb) (h2.below hb) hok hp
  have cfH := Lib.hid cf
  clear cf h1 h2 hp
  go_enter Try.func43, Try.ntmps43
  go_wp2_with fail
  refine (cfH.out _ (below1 _ _)).mono ?_
  rintro e w1 ⟨rfl, rfl⟩
  go_wp2_with fail
  go_ret
  exact ⟨rfl, below1 _ _⟩

end Go.Proofs.Ytgkddhakhapjlaa

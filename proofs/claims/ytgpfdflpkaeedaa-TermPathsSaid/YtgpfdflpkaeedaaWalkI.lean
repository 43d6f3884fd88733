/- Walks: Canonical of the reference, IsCanonical, Shape, of both. -/
import Derived.Test.YtgpfdflpkaeedaaWalkH
namespace Go.Proofs.Ytgpfdflpkaeedaa
open Go Go.RowKit Go.Maps

def retE (r : List Int × Int) (w : World) (e : Ending) (w' : World) : Prop := ∃ v, e = .returned (.tuple #[v, .int .i64 r.2]) ∧ OwnI w' w.heap.size v r.1 ∧ Below w.heap.size w w'
theorem bcall {w w1 w2 : World} (h : Below w.heap.size w w1) (hb : Below w1.heap.size w1 w2) : Below w.heap.size w w2 := h.trans (hb.mono h.size)
def canonE (s : Sg) (t : List Int) : List Int × Int := errE s t (canon t)
def flatE (s : Sg) (t : List Int) : List Int × Int := errE s t (flat t)
def isCanonT (s : Sg) (t : List Int) : Bool := okT s t && decide (canon t = t)

theorem CanonicalE {S1 S2 : Nat → Prop} (a1 a2 : Option Addr) (c1 c2 : Nat) (s : Sg) (t : List Int) (w : World) (h1 : Sign S1 w a1 c1 s) (h2 : Ints S2 w a2 c2 t) :
    Calls Try.prog 17 #[.slice a1 s.length c1, .slice a2 t.length c2] w (retE (canonE s t) w) := by
  refine (Canonical_any a1 a2 c1 c2 s t w h1 h2).mono ?_
  rintro e w' ⟨v, n, rfl, hb, hn, hy⟩
  cases hx : okT s t with
  | false =>
    obtain ⟨rfl, rfl⟩ := hn hx
    rw [canonE, errE_no hx]
    exact ⟨_, rfl, .nil _ _ _ _ _, hb⟩
  | true =>
    obtain ⟨rfl, ho⟩ := hy hx
    rw [canonE, errE_ok hx]
    exact ⟨_, rfl, ho, hb⟩

set_option maxHeartbeats 1000000 in
theorem rCanonicalE {S1 S2 : Nat → Prop} (a1 a2 : Option Addr) (c1 c2 : Nat) (s : Sg) (t : List Int) (w : World) (h1 : Sign S1 w a1 c1 s) (h2 : Ints S2 w a2 c2 t) :
    Calls Try.prog 18 #[.slice a1 s.length c1, .slice a2 t.length c2] w (retE (canonE s t) w) := by
  have m2 := h2.le
  have v1 := rValid_any a1 a2 c1 c2 s t w h1 h2
  obtain ⟨x, hx⟩ : ∃ x, okT s t = x := ⟨_, rfl⟩
  rw [hx] at v1
  have v1H := Lib.hid v1
  clear v1
  cases x with
  | false =>
    rw [canonE, errE_no hx]
    clear hx
    go_enter Try.func18, Try.ntmps18
    go_wp2_with (go_at_call 26; refine v1H.out.mono ?_; rintro e w1 ⟨rfl, hd⟩)
    go_ret2
    exact ⟨_, rfl, .nil _ _ _ _ _, hd.below _⟩
  | true =>
    have hl1 := okT_lim hx
    have hn1 := okT_ne hx
    have ht1 := okT_tame hx
    rw [canonE, errE_ok hx]
    have c1 := fun W (hb : Below w.heap.size w W) => Renamed_any a2 c2 t W (h2.below hb) hl1 ht1 hn1
    have c1H := Lib.hid c1
    clear hx c1
    go_enter Try.func18, Try.ntmps18
    go_wp2_with (first | (go_at_call 26; refine v1H.out.mono ?_; rintro e w1 ⟨rfl, hd⟩) | (go_at_call 50; refine (c1H.out w1 (hd.below _)).mono ?_; rintro e w2 ⟨v, rfl, ho, hb2⟩))
    go_ret2
    exact ⟨_, rfl, ho.baseMono (hd.below 0).size, bcall (hd.below _) hb2⟩

set_option maxHeartbeats 1000000 in
theorem IsCanonical_any {S1 S2 : Nat → Prop} (a1 a2 : Option Addr) (c1 c2 : Nat) (s : Sg) (t : List Int) (w : World) (h1 : Sign S1 w a1 c1 s) (h2 : Ints S2 w a2 c2 t) :
    Calls Try.prog 20 #[.slice a1 s.length c1, .slice a2 t.length c2] w fun e w' => e = .returned (.bool (isCanonT s t)) ∧ Below w.heap.size w w' := by
  have m2 := h2.le
  have v1 := Valid_any a1 a2 c1 c2 s t w h1 h2
  obtain ⟨x, hx⟩ : ∃ x, okT s t = x := ⟨_, rfl⟩
  rw [hx] at v1
  have v1H := Lib.hid v1
  clear v1
  cases x with
  | false =>
    have hf : isCanonT s t = false := by unfold isCanonT; rw [hx]; rfl
    have hfH := Lib.hid hf
    clear hx hf
    go_enter Try.func20, Try.ntmps20
    go_wp2_with (go_at_call 16; refine v1H.out.mono ?_; rintro e w1 ⟨rfl, hb1⟩)
    go_ret
    exact ⟨ret_bool hfH.out.symm, hb1⟩
  | true =>
    have hf : isCanonT s t = decide (canon t = t) := by unfold isCanonT; rw [hx]; rfl
    have hfH := Lib.hid hf
    have hl1 := okT_lim hx
    have hn1 := okT_ne hx
    have c1 := fun W (hb : Below w.heap.size w W) => canonical_any a2 c2 t W (h2.below hb) hl1 hn1
    have c1H := Lib.hid c1
    clear hx c1 hf
    go_enter Try.func20, Try.ntmps20
    go_wp2_with (first | (go_at_call 16; refine v1H.out.mono ?_; rintro e w1 ⟨rfl, hb1⟩) | (go_at_call 49; refine (c1H.out w1 hb1).mono ?_; rintro e w2 ⟨v, rfl, ho, hb2⟩; obtain ⟨a3, c3, rfl, hI⟩ := OwnI.ints ho) | (go_at_call 48; refine (Equal_any a3 a2 c3 c2 _ _ _ hI (h2.below (bcall hb1 hb2))).mono ?_; rintro e w3 ⟨rfl, n3, rfl⟩))
    go_ret
    exact ⟨ret_bool hfH.out.symm, below_drewN (bcall hb1 hb2) _⟩

set_option maxHeartbeats 1000000 in
theorem rIsCanonical_any {S1 S2 : Nat → Prop} (a1 a2 : Option Addr) (c1 c2 : Nat) (s : Sg) (t : List Int) (w : World) (h1 : Sign S1 w a1 c1 s) (h2 : Ints S2 w a2 c2 t) :
    Calls Try.prog 21 #[.slice a1 s.length c1, .slice a2 t.length c2] w fun e w' => e = .returned (.bool (isCanonT s t)) ∧ Below w.heap.size w w' := by
  have m2 := h2.le
  have v1 := rValid_any a1 a2 c1 c2 s t w h1 h2
  obtain ⟨x, hx⟩ : ∃ x, okT s t = x := ⟨_, rfl⟩
  rw [hx] at v1
  have v1H := Lib.hid v1
  clear v1
  cases x with
  | false =>
    have hf : isCanonT s t = false := by unfold isCanonT; rw [hx]; rfl
    have hfH := Lib.hid hf
    clear hx hf
    go_enter Try.func21, Try.ntmps21
    go_wp2_with (go_at_call 26; refine v1H.out.mono ?_; rintro e w1 ⟨rfl, hd⟩)
    go_ret
    exact ⟨ret_bool hfH.out.symm, hd.below _⟩
  | true =>
    have hf : isCanonT s t = decide (canon t = t) := by unfold isCanonT; rw [hx]; rfl
    have hfH := Lib.hid hf
    have hl1 := okT_lim hx
    have hn1 := okT_ne hx
    have ht1 := okT_tame hx
    have c1 := fun W (hb : Below w.heap.size w W) => Renamed_any a2 c2 t W (h2.below hb) hl1 ht1 hn1
    have c1H := Lib.hid c1
    clear hx c1 hf
    go_enter Try.func21, Try.ntmps21
    go_wp2_with (first | (go_at_call 26; refine v1H.out.mono ?_; rintro e w1 ⟨rfl, hd⟩; have hb1 := hd.below w.heap.size) | (go_at_call 50; refine (c1H.out w1 hb1).mono ?_; rintro e w2 ⟨v, rfl, ho, hb2⟩; obtain ⟨a3, c3, rfl, hI⟩ := OwnI.ints ho) | (go_at_call 19; refine (Same_any a3 a2 c3 c2 _ _ _ hI (h2.below (bcall hb1 hb2))).mono ?_; rintro e w3 ⟨rfl, n3, rfl⟩))
    go_ret
    exact ⟨ret_bool hfH.out.symm, below_drewN (bcall hb1 hb2) _⟩

def shRel (t : List Int) (w : World) (B g cap : Nat) (i : Value) (wr : World) : Prop :=
  ∃ k : Nat, i = .int .i64 k ∧ k ≤ t.length ∧ OwnI wr B (.slice (some ⟨g, 0, none⟩) t.length cap) (doneTo (fun n => if n < 0 then -1 else n) t k) ∧ Below B w wr
theorem flat_range {x : Int} (h : inRange x) : inRange (if x < 0 then -1 else x) := by unfold inRange at *; split <;> omega

set_option maxHeartbeats 1000000 in
theorem ShapeE {S1 S2 : Nat → Prop} (a1 a2 : Option Addr) (c1 c2 : Nat) (s : Sg) (t : List Int) (w : World) (h1 : Sign S1 w a1 c1 s) (h2 : Ints S2 w a2 c2 t) :
    Calls Try.prog 22 #[.slice a1 s.length c1, .slice a2 t.length c2] w (retE (flatE s t) w) := by
  have m2 := h2.le
  have v1 := Valid_any a1 a2 c1 c2 s t w h1 h2
  obtain ⟨x, hx⟩ : ∃ x, okT s t = x := ⟨_, rfl⟩
  rw [hx] at v1
  have v1H := Lib.hid v1
  clear v1 h1
  cases x with
  | false =>
    rw [flatE, errE_no hx]
    clear hx
    go_enter Try.func22, Try.ntmps22
    go_wp2_with (go_at_call 16; refine v1H.out.mono ?_; rintro e w1 ⟨rfl, hb1⟩)
    go_ret2
    exact ⟨_, rfl, .nil _ _ _ _ _, hb1⟩
  | true =>
    have hl1 := okT_lim hx
    have hn1 := okT_ne hx
    rw [flatE, errE_ok hx]
    clear hx
    go_enter Try.func22, Try.ntmps22
    go_wp2_with fail
    refine v1H.out.mono ?_
    rintro e w1 ⟨rfl, hb1⟩
    have h3 := h2.below hb1
    go_wp2_with fail
    refine (Clone_any a2 c2 t w1 h3 hl1).mono ?_
    rintro e w2 ⟨v, rfl, ho, hb2⟩
    obtain ⟨g, cap, rfl, hg1, hg2⟩ := ho.form hn1
    go_wp2_with fail
    go_loopw [17] (fun i wr => shRel t w1 w1.heap.size g cap i wr) (fun i _ => t.length - (intOf i).toNat)
    case atStart => exact ⟨0, rfl, Nat.zero_le _, by rw [doneTo_zero]; exact ho, hb2⟩
    case round =>
      obtain ⟨k, rfl, hk, ho, hB⟩ := hrel
      by_cases hlt : k < t.length
      · obtain ⟨b, o, rfl, -, q, hrg⟩ := h3.int k hlt
        have hb : b < w1.heap.size := World.block_lt_of_cell? w1 _ q
        have p1 := (hB.cell (p := ⟨b, o + k, none⟩) hb).trans q
        clear q
        have hset := doneTo_set hlt (f := fun n => if n < 0 then -1 else n)
        have hmx := flat_get t[k]
        obtain ⟨x, hx⟩ : ∃ x, t[k] = x := ⟨_, rfl⟩
        rw [hx] at p1 hrg hset hmx
        clear hx
        obtain ⟨hc1, hf1⟩ := ho.cellInt (by rw [doneTo_length]) k (by rw [doneTo_length]; exact hlt)
        obtain ⟨ho2, hg3⟩ := ho.setInt (by rw [doneTo_length]) k _ (flat_range hrg)
        rw [hset] at ho2
        simp only [] at hmx
        by_cases h0 : x < 0
        · rw [if_pos h0] at ho2 hg3
          have hoH := Lib.hid ho2
          have hBH := Lib.hid (hB.grown hg3 hB.size (fun j e => by cases e; omega))
          clear ho ho2 hset hmx hg3 h2 h3
          have hnlt : ¬ x > -1 := by omega
          go_wp2_with fail
          have hif : (if x < -1 then (-1 : Int) else x) = -1 := by split <;> omega
          rw [hif]
          go_roundw
          case rel => exact ⟨k + 1, by go_num, by omega, hoH.out, hBH.out⟩
          case measure => simp [intOf]; omega
        · rw [if_neg h0] at ho2 hg3
          have hoH := Lib.hid ho2
          have hBH := Lib.hid (hB.grown hg3 hB.size (fun j e => by cases e; omega))
          clear ho ho2 hset hmx hg3 h2 h3
          go_wp2_with fail
          all_goals
            go_roundw
            case rel => exact ⟨k + 1, by go_num, by omega, hoH.out, hBH.out⟩
            case measure => simp [intOf]; omega
      · rw [doneTo_all _ _ _ (by omega)] at ho
        have hoH := Lib.hid (ho.baseMono (base' := w.heap.size) hb1.size)
        clear ho
        go_wp2_with fail
        go_ret2
        exact ⟨_, rfl, hoH.out, bcall hb1 hB⟩

set_option maxHeartbeats 1000000 in
theorem Flat_any {S : Nat → Prop} (a : Option Addr) (c : Nat) (t : List Int) (w : World) (h : Ints S w a c t) (hl : t.length ≤ lim) (hne : t ≠ []) :
    Calls Try.prog 54 #[.slice a t.length c] w (retOwn w (flat t)) := by
  have m := h.le
  obtain ⟨v', w2, hrun, ho, hg, -, -⟩ := (OwnL.made intE (fun _ => False) w w.heap.size 3 (Nat.le_refl _)).append_run (P := Try.prog) (t := 25) (ty := 25) Try.underlying25 infoInt rfl (h.below (below1 w (.cells #[] 3))) (fun _ _ _ h => h) (by unfold lim at hl; simp; omega) (by unfold lim at hl; unfold big; simp; omega) (by simp)
  have hB : Below w.heap.size w w2 := (below1 w (.cells #[] 3)).grown hg (by simp) (fun k e => by simp [Value.ownBlock] at e; omega)
  rw [List.nil_append] at ho
  obtain ⟨g, cap, rfl, hg1, hg2⟩ := ho.form hne
  have hrunH := Lib.hid hrun
  clear hrun hg
  go_enter Try.func54, Try.ntmps54
  go_wp2_with (at_builtin; refine wpList_append_run rfl _ _ _ rfl rfl rfl hrunH.out ?_)
  go_loopw [4] (fun i wr => shRel t w w.heap.size g cap i wr) (fun i _ => t.length - (intOf i).toNat)
  case atStart => exact ⟨0, rfl, Nat.zero_le _, by rw [doneTo_zero]; exact ho, hB⟩
  case round =>
    obtain ⟨k, rfl, hk, ho, hB⟩ := hrel
    by_cases hlt : k < t.length
    · have hget := doneTo_get hlt (f := fun n => if n < 0 then -1 else n)
      have hset := doneTo_set hlt (f := fun n => if n < 0 then -1 else n)
      have hsame := doneTo_set_same hlt (f := fun n => if n < 0 then -1 else n)
      obtain ⟨hc1, hf1⟩ := ho.cellInt (by rw [doneTo_length]) k (by rw [doneTo_length]; exact hlt)
      rw [hget] at hc1
      obtain ⟨x, hx⟩ : ∃ x, t[k] = x := ⟨_, rfl⟩
      rw [hx] at hc1 hset hsame
      clear hget hx
      by_cases h0 : x < 0
      · obtain ⟨ho2, hg3⟩ := ho.setInt (by rw [doneTo_length]) k (-1) (by unfold inRange; omega)
        simp only [if_pos h0] at hset
        rw [hset] at ho2
        have hoH := Lib.hid ho2
        have hBH := Lib.hid (hB.grown hg3 hB.size (fun j e => by cases e; omega))
        clear ho ho2 hset hsame hg3 h
        go_wp2_with fail
        go_roundw
        case rel => exact ⟨k + 1, by go_num, by omega, hoH.out, hBH.out⟩
        case measure => simp [intOf]; omega
      · simp only [if_neg h0] at hset
        rw [hsame] at hset
        have hsH := Lib.hid hset
        clear hset hsame h
        go_wp2_with fail
        go_roundw
        case rel => exact ⟨k + 1, by go_num, by omega, by rw [← hsH.out]; exact ho, hB⟩
        case measure => simp [intOf]; omega
    · rw [doneTo_all _ _ _ (by omega)] at ho
      go_wp2_with fail
      go_ret
      exact ⟨_, rfl, ho, hB⟩

set_option maxHeartbeats 1000000 in
theorem rShapeE {S1 S2 : Nat → Prop} (a1 a2 : Option Addr) (c1 c2 : Nat) (s : Sg) (t : List Int) (w : World) (h1 : Sign S1 w a1 c1 s) (h2 : Ints S2 w a2 c2 t) :
    Calls Try.prog 23 #[.slice a1 s.length c1, .slice a2 t.length c2] w (retE (flatE s t) w) := by
  have m2 := h2.le
  have v1 := rValid_any a1 a2 c1 c2 s t w h1 h2
  obtain ⟨x, hx⟩ : ∃ x, okT s t = x := ⟨_, rfl⟩
  rw [hx] at v1
  have v1H := Lib.hid v1
  clear v1
  cases x with
  | false =>
    rw [flatE, errE_no hx]
    clear hx
    go_enter Try.func23, Try.ntmps23
    go_wp2_with (go_at_call 26; refine v1H.out.mono ?_; rintro e w1 ⟨rfl, hd⟩)
    go_ret2
    exact ⟨_, rfl, .nil _ _ _ _ _, hd.below _⟩
  | true =>
    have hl1 := okT_lim hx
    have hn1 := okT_ne hx
    rw [flatE, errE_ok hx]
    have c1 := fun W (hb : Below w.heap.size w W) => Flat_any a2 c2 t W (h2.below hb) hl1 hn1
    have c1H := Lib.hid c1
    clear hx c1
    go_enter Try.func23, Try.ntmps23
    go_wp2_with (first | (go_at_call 26; refine v1H.out.mono ?_; rintro e w1 ⟨rfl, hd⟩) | (go_at_call 54; refine (c1H.out w1 (hd.below _)).mono ?_; rintro e w2 ⟨v, rfl, ho, hb2⟩))
    go_ret2
    exact ⟨_, rfl, ho.baseMono (hd.below 0).size, bcall (hd.below _) hb2⟩
end Go.Proofs.Ytgpfdflpkaeedaa

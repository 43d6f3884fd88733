/- Walks: Counts, of both; Vars of the reference; slices.Contains. -/
import Derived.Test.YtgpfdflpkaeedaaWalkV
import Derived.Test.YtgpfdflpkaeedaaWalkI
namespace Go.Proofs.Ytgpfdflpkaeedaa
open Go Go.RowKit Go.Maps

set_option maxHeartbeats 1000000 in
theorem Index_any {S : Nat → Prop} (a : Option Addr) (c : Nat) (l : List Int) (x : Int) (w : World) (h : Ints S w a c l) :
    Calls Try.prog 84 #[.slice a l.length c, .int .i64 x] w fun e w' => ∃ n : Int, e = .returned (.int .i64 n) ∧ -1 ≤ n ∧ decide (0 ≤ n) = decide (x ∈ l) ∧ w = w' := by
  have m := h.le
  go_enter Try.func84, Try.ntmps84
  go_wp2_with fail
  go_loop [8] (fun i => ∃ k : Nat, k ≤ l.length ∧ i = .int .i64 k ∧ x ∉ l.take k) (fun i => l.length - (intOf i).toNat)
  case atStart => exact ⟨0, by omega, rfl, by simp⟩
  case round =>
    obtain ⟨k, hk, rfl, hn⟩ := hrel
    have hnH := Lib.hid hn
    clear hn
    by_cases hlt : k < l.length
    · obtain ⟨b, o, rfl, -, q, -⟩ := h.int k hlt
      by_cases hx : x = l[k]
      · have hb : (x == l[k]) = true := by simpa using hx
        have hm : x ∈ l := by rw [hx]; exact List.getElem_mem hlt
        have hmH := Lib.hid hm
        clear hx h hm
        go_wp2_with fail
        go_ret
        exact ⟨k, rfl, by omega, by simp [hmH.out], rfl⟩
      · have hb : (x == l[k]) = false := by simpa using hx
        have hbf : (l[k] == x) = false := by simp; exact fun e => hx e.symm
        have hst := Lib.hid (has_step hlt hnH.out hbf)
        clear hx h hbf
        go_wp2_with fail
        go_round
        case rel => exact ⟨k + 1, by omega, by go_num, hst.out⟩
        case measure => simp [intOf]; omega
    · clear h
      go_wp2_with fail
      go_ret
      refine ⟨-1, rfl, by omega, ?_, rfl⟩
      have := hnH.out
      rw [List.take_of_length_le (by omega)] at this
      simp [this]
set_option maxHeartbeats 1000000 in
theorem Contains_any {S : Nat → Prop} (a : Option Addr) (c : Nat) (l : List Int) (x : Int) (w : World) (h : Ints S w a c l) :
    Calls Try.prog 61 #[.slice a l.length c, .int .i64 x] w fun e w' => e = .returned (.bool (decide (x ∈ l))) ∧ w = w' := by
  have ci := Lib.hid (Index_any a c l x w h)
  clear h
  go_enter Try.func61, Try.ntmps61
  go_wp2_with (go_at_call 84; refine ci.out.mono ?_; rintro e w' ⟨n, rfl, hn, hn2, rfl⟩; have hn2H := Lib.hid hn2; clear hn2)
  go_ret
  exact ⟨ret_bool hn2H.out, rfl⟩

def varsE (s : Sg) (t : List Int) : List Int × Int := errE s t (varsV t)
set_option maxHeartbeats 1000000 in
theorem rVars_any {S1 S2 : Nat → Prop} (a1 a2 : Option Addr) (c1 c2 : Nat) (s : Sg) (t : List Int) (w : World) (h1 : Sign S1 w a1 c1 s) (h2 : Ints S2 w a2 c2 t) :
    Calls Try.prog 30 #[.slice a1 s.length c1, .slice a2 t.length c2] w (retE (varsE s t) w) := by
  have m2 := h2.le
  have v1 := rValid_any a1 a2 c1 c2 s t w h1 h2
  obtain ⟨x, hx⟩ : ∃ x, okT s t = x := ⟨_, rfl⟩
  rw [hx] at v1
  have v1H := Lib.hid v1
  clear v1
  cases x with
  | false =>
    rw [varsE, errE_no hx]
    clear hx
    go_enter Try.func30, Try.ntmps30
    go_wp2_with (go_at_call 26; refine v1H.out.mono ?_; rintro e w1 ⟨rfl, hd⟩)
    go_ret2
    exact ⟨_, rfl, .nil _ _ _ _ _, hd.below _⟩
  | true =>
    have hl1 := okT_lim hx
    have ht1 := okT_tame hx
    rw [varsE, errE_ok hx]
    have c1 := fun W (hb : Below w.heap.size w W) => Variables_any a2 c2 t W (h2.below hb) hl1 ht1
    have c1H := Lib.hid c1
    clear hx c1
    go_enter Try.func30, Try.ntmps30
    go_wp2_with (first | (go_at_call 26; refine v1H.out.mono ?_; rintro e w1 ⟨rfl, hd⟩) | (go_at_call 62; refine (c1H.out w1 (hd.below _)).mono ?_; rintro e w2 ⟨v, rfl, ho, hb2⟩))
    go_ret2
    exact ⟨_, rfl, ho.baseMono (hd.below 0).size, bcall (hd.below _) hb2⟩

/-! ### Counts -/
def cntL (n : Nat) (t : List Int) : List Int := (List.range n).map (fun (j : Nat) => ((t.count ((j : Nat) : Int) : Nat) : Int))
theorem cntL_length (n : Nat) (t : List Int) : (cntL n t).length = n := by simp [cntL]
theorem cntL_nil (n : Nat) : cntL n [] = List.replicate n 0 := by
  apply List.ext_getElem
  · simp [cntL]
  · intro i h1 h2; simp [cntL]
theorem cntL_get {n k : Nat} {t : List Int} (h : k < n) : (cntL n t)[k]'(by rw [cntL_length]; exact h) = ((t.count (k : Int) : Nat) : Int) := by simp [cntL]
theorem cntL_pos {n x k : Nat} {t : List Int} (hk : k < t.length) (hx : t[k] = (x : Int)) (_hn : x < n) : (cntL n (t.take k)).set x (((t.take k).count (x : Int) : Nat) + 1) = cntL n (t.take (k + 1)) := by
  rw [List.take_succ_eq_append_getElem hk]
  apply List.ext_getElem
  · simp [cntL]
  · intro i h1 h2
    rw [List.length_set, cntL_length] at h1
    rw [List.getElem_set, cntL_get h1, cntL_get h1]
    by_cases hi : x = i
    · subst hi
      rw [if_pos rfl, List.count_append, hx]; simp
    · rw [if_neg hi, List.count_append, hx]
      have : ([(x : Int)] : List Int).count (i : Int) = 0 := by rw [List.count_eq_zero]; simp; omega
      rw [this]; simp
theorem cntL_neg {n k : Nat} {t : List Int} (hk : k < t.length) (hx : t[k] < 0) : cntL n (t.take (k + 1)) = cntL n (t.take k) := by
  rw [List.take_succ_eq_append_getElem hk]
  apply List.ext_getElem
  · simp [cntL]
  · intro i h1 h2
    rw [cntL_length] at h1
    rw [cntL_get h1, cntL_get h1, List.count_append]
    have : ([t[k]] : List Int).count (i : Int) = 0 := by rw [List.count_eq_zero]; simp; omega
    rw [this]; simp
theorem okT_codes {s : Sg} {t : List Int} (h : okT s t = true) : ∀ x ∈ t, x < 0 ∨ (0 ≤ x ∧ x < s.length) := by
  intro x hx
  have := skip_codes s 1 t (okT_parts h).2.2.2 x hx
  simp [codeOk] at this
  omega
def cntE (s : Sg) (t : List Int) : List Int × Int := errE s t (cntL s.length t)
def cntRel (n : Nat) (t : List Int) (w : World) (B g cap : Nat) (i : Value) (wr : World) : Prop := ∃ k : Nat, i = .int .i64 k ∧ k ≤ t.length ∧ OwnI wr B (.slice (some ⟨g, 0, none⟩) n cap) (cntL n (t.take k)) ∧ Below B w wr
theorem makeZeros {W : World} (n : Nat) (hn : n ≤ 100) : (Instr.makeSlice 24 (.int .i64 (n : Int)) (.int .i64 (n : Int))).run Try.prog W = .ok (.slice (some ⟨W.heap.size, 0, none⟩) n n) (W.alloc (.cells (Array.replicate n (.int .i64 0)) 3)) := by
  obtain ⟨i, hi, hz0, hz1, hz2⟩ := info_parts infoInt
  have := run_make (P := Try.prog) W 24 3 i (.int .i64 0) Try.underlying24 hi hz0 .i64 .i64 n n (by omega) (by omega) (by rw [hz2]; omega) (by omega)
  rw [this, hz1, Int.toNat_natCast, Nat.mul_one]
  have hm : madeCells (Value.int .i64 0).cells n = Array.replicate n (.int .i64 0) := by
    apply Array.ext
    · simp [madeCells]
    · intro i h1 h2; simp [madeCells, Value.cells, Nat.mod_one]
  rw [hm]
set_option maxRecDepth 20000 in
set_option maxHeartbeats 2000000 in
theorem Counts_any {S1 S2 : Nat → Prop} (a1 a2 : Option Addr) (c1 c2 : Nat) (s : Sg) (t : List Int) (w : World) (h1 : Sign S1 w a1 c1 s) (h2 : Ints S2 w a2 c2 t) :
    Calls Try.prog 32 #[.slice a1 s.length c1, .slice a2 t.length c2] w (retE (cntE s t) w) := by
  have m2 := h2.le
  have m1 := h1.le
  have v1 := Valid_any a1 a2 c1 c2 s t w h1 h2
  obtain ⟨x, hx⟩ : ∃ x, okT s t = x := ⟨_, rfl⟩
  rw [hx] at v1
  have v1H := Lib.hid v1
  clear v1
  cases x with
  | false =>
    rw [cntE, errE_no hx]
    clear hx
    go_enter Try.func32, Try.ntmps32
    go_wp2_with (go_at_call 16; refine v1H.out.mono ?_; rintro e w1 ⟨rfl, hd⟩)
    go_ret2
    exact ⟨_, rfl, .nil _ _ _ _ _, hd⟩
  | true =>
    rw [cntE, errE_ok hx]
    have hco := okT_codes hx
    have hl60 := (okT_parts hx).2.2.1
    have hs12 := (okSign_len (okT_parts hx).1).2
    obtain ⟨n, hn⟩ : ∃ n, List.length s = n := ⟨_, rfl⟩
    rw [hn] at hco hs12 v1H m1 ⊢
    have hcoH := Lib.hid hco
    clear hx hco
    have hms := fun W => makeZeros (W := W) n (by omega)
    go_enter Try.func32, Try.ntmps32
    go_wp2_with (go_at_call 16; refine v1H.out.mono ?_; rintro e w1 ⟨rfl, hd⟩; have hb : Below w.heap.size w w1 := hd)
    have ho : OwnI (w1.alloc (.cells (Array.replicate n (.int .i64 0)) 3)) w.heap.size (.slice (some ⟨w1.heap.size, 0, none⟩) n n) (cntL n []) := by
      have h0 := OwnL.lit (S := fun _ => False) w1 (cntL n []) 3 (by rw [cntL_nil]; intro x hx; rw [List.eq_of_mem_replicate hx]; unfold inRange; omega) (by rw [cntL_length]; unfold maxLen; omega)
      rw [show ((cntL n []).map (Value.int .i64)).toArray = Array.replicate n (.int .i64 0) by rw [cntL_nil]; simp, cntL_length] at h0
      exact h0.baseMono hb.size
    have hB0 : Below w.heap.size w (w1.alloc (.cells (Array.replicate n (.int .i64 0)) 3)) := hb.trans ((below1 _ _).mono hb.size)
    have hgs := hb.size
    have hoH := Lib.hid ho
    have hB0H := Lib.hid hB0
    clear hms ho hB0 hb hd v1H
    go_loopw [18] (fun i wr => cntRel n t w w.heap.size w1.heap.size n i wr) (fun i _ => t.length - (intOf i).toNat)
    case atStart => exact ⟨0, rfl, Nat.zero_le _, hoH.out, hB0H.out⟩
    case round =>
      obtain ⟨k, rfl, hk, ho, hB⟩ := hrel
      by_cases hlt : k < t.length
      · obtain ⟨b, o, rfl, -, q, -⟩ := h2.int k hlt
        have q' := (hB.cell (p := ⟨b, o + k, none⟩) (World.block_lt_of_cell? _ _ q)).trans q
        rcases hcoH.out t[k] (List.getElem_mem hlt) with hx | hx
        · have he := Lib.hid (cntL_neg (n := n) hlt hx)
          have hge : decide ((0 : Int) ≤ t[k]) = false := by simp; omega
          have hoK := Lib.hid ho
          have hBK := Lib.hid hB
          clear ho hB q h1 h2 hoH hB0H
          go_wp2_with fail
          go_roundw
          case rel => exact ⟨k + 1, by go_num, by omega, by rw [he.out]; exact hoK.out, hBK.out⟩
          case measure => simp [intOf]; omega
        · obtain ⟨m, hm⟩ := Int.eq_ofNat_of_zero_le hx.1
          have hmn : m < n := by omega
          have he := cntL_pos hlt hm hmn
          obtain ⟨q1, hf1⟩ := ho.cellInt (by rw [cntL_length]) m (by rw [cntL_length]; exact hmn)
          rw [cntL_get hmn] at q1
          have hcl : (t.take k).count (m : Int) ≤ (t.take k).length := List.count_le_length
          rw [List.length_take] at hcl
          obtain ⟨N1, hN1⟩ : ∃ N1, (t.take k).count (m : Int) = N1 := ⟨_, rfl⟩
          rw [hN1] at he q1 hcl
          have hN60 : N1 ≤ 60 := by omega
          have hst := ho.setInt (by rw [cntL_length]) m ((N1 : Int) + 1) (by unfold inRange; omega)
          rw [he] at hst
          have hoK := Lib.hid hst.1
          have hBK := Lib.hid (hB.grown hst.2 hB.size (fun j e => by simp at e; omega))
          rw [hm] at q'
          clear ho hB q h1 h2 hoH hB0H he hst hcl hN1 hx hm
          go_wp2_with fail
          go_roundw
          case rel => exact ⟨k + 1, by go_num, by omega, hoK.out, hBK.out⟩
          case measure => simp [intOf]; omega
      · rw [List.take_of_length_le (by omega)] at ho
        have hoK := Lib.hid ho
        have hBK := Lib.hid hB
        clear ho hB h1 h2 hoH hB0H
        go_wp2_with fail
        go_ret2
        exact ⟨_, rfl, hoK.out, hBK.out⟩
set_option maxRecDepth 20000 in
set_option maxHeartbeats 2000000 in
theorem rCounts_any {S1 S2 : Nat → Prop} (a1 a2 : Option Addr) (c1 c2 : Nat) (s : Sg) (t : List Int) (w : World) (h1 : Sign S1 w a1 c1 s) (h2 : Ints S2 w a2 c2 t) :
    Calls Try.prog 33 #[.slice a1 s.length c1, .slice a2 t.length c2] w (retE (cntE s t) w) := by
  have m2 := h2.le
  have m1 := h1.le
  have v1 := rValid_any a1 a2 c1 c2 s t w h1 h2
  obtain ⟨x, hx⟩ : ∃ x, okT s t = x := ⟨_, rfl⟩
  rw [hx] at v1
  have v1H := Lib.hid v1
  clear v1
  cases x with
  | false =>
    rw [cntE, errE_no hx]
    clear hx
    go_enter Try.func33, Try.ntmps33
    go_wp2_with (go_at_call 26; refine v1H.out.mono ?_; rintro e w1 ⟨rfl, hd⟩)
    go_ret2
    exact ⟨_, rfl, .nil _ _ _ _ _, (hd.below _)⟩
  | true =>
    rw [cntE, errE_ok hx]
    have hco := okT_codes hx
    have hl60 := (okT_parts hx).2.2.1
    have hs12 := (okSign_len (okT_parts hx).1).2
    obtain ⟨n, hn⟩ : ∃ n, List.length s = n := ⟨_, rfl⟩
    rw [hn] at hco hs12 v1H m1 ⊢
    have hcoH := Lib.hid hco
    clear hx hco
    have hms := fun W => makeZeros (W := W) n (by omega)
    go_enter Try.func33, Try.ntmps33
    go_wp2_with (go_at_call 26; refine v1H.out.mono ?_; rintro e w1 ⟨rfl, hd⟩; have hb : Below w.heap.size w w1 := (hd.below _))
    have ho : OwnI (w1.alloc (.cells (Array.replicate n (.int .i64 0)) 3)) w.heap.size (.slice (some ⟨w1.heap.size, 0, none⟩) n n) (cntL n []) := by
      have h0 := OwnL.lit (S := fun _ => False) w1 (cntL n []) 3 (by rw [cntL_nil]; intro x hx; rw [List.eq_of_mem_replicate hx]; unfold inRange; omega) (by rw [cntL_length]; unfold maxLen; omega)
      rw [show ((cntL n []).map (Value.int .i64)).toArray = Array.replicate n (.int .i64 0) by rw [cntL_nil]; simp, cntL_length] at h0
      exact h0.baseMono hb.size
    have hB0 : Below w.heap.size w (w1.alloc (.cells (Array.replicate n (.int .i64 0)) 3)) := hb.trans ((below1 _ _).mono hb.size)
    have hgs := hb.size
    have hoH := Lib.hid ho
    have hB0H := Lib.hid hB0
    clear hms ho hB0 hb hd v1H
    go_loopw [7] (fun i wr => cntRel n t w w.heap.size w1.heap.size n i wr) (fun i _ => t.length - (intOf i).toNat)
    case atStart => exact ⟨0, rfl, Nat.zero_le _, hoH.out, hB0H.out⟩
    case round =>
      obtain ⟨k, rfl, hk, ho, hB⟩ := hrel
      by_cases hlt : k < t.length
      · obtain ⟨b, o, rfl, -, q, -⟩ := h2.int k hlt
        have q' := (hB.cell (p := ⟨b, o + k, none⟩) (World.block_lt_of_cell? _ _ q)).trans q
        rcases hcoH.out t[k] (List.getElem_mem hlt) with hx | hx
        · have he := Lib.hid (cntL_neg (n := n) hlt hx)
          have hge : decide ((0 : Int) ≤ t[k]) = false := by simp; omega
          have hoK := Lib.hid ho
          have hBK := Lib.hid hB
          clear ho hB q h1 h2 hoH hB0H
          go_wp2_with fail
          go_roundw
          case rel => exact ⟨k + 1, by go_num, by omega, by rw [he.out]; exact hoK.out, hBK.out⟩
          case measure => simp [intOf]; omega
        · obtain ⟨m, hm⟩ := Int.eq_ofNat_of_zero_le hx.1
          have hmn : m < n := by omega
          have he := cntL_pos hlt hm hmn
          obtain ⟨q1, hf1⟩ := ho.cellInt (by rw [cntL_length]) m (by rw [cntL_length]; exact hmn)
          rw [cntL_get hmn] at q1
          have hcl : (t.take k).count (m : Int) ≤ (t.take k).length := List.count_le_length
          rw [List.length_take] at hcl
          obtain ⟨N1, hN1⟩ : ∃ N1, (t.take k).count (m : Int) = N1 := ⟨_, rfl⟩
          rw [hN1] at he q1 hcl
          have hN60 : N1 ≤ 60 := by omega
          have hst := ho.setInt (by rw [cntL_length]) m ((N1 : Int) + 1) (by unfold inRange; omega)
          rw [he] at hst
          have hoK := Lib.hid hst.1
          have hBK := Lib.hid (hB.grown hst.2 hB.size (fun j e => by simp at e; omega))
          rw [hm] at q'
          clear ho hB q h1 h2 hoH hB0H he hst hcl hN1 hx hm
          go_wp2_with fail
          go_roundw
          case rel => exact ⟨k + 1, by go_num, by omega, hoK.out, hBK.out⟩
          case measure => simp [intOf]; omega
      · rw [List.take_of_length_le (by omega)] at ho
        have hoK := Lib.hid ho
        have hBK := Lib.hid hB
        clear ho hB h1 h2 hoH hB0H
        go_wp2_with fail
        go_ret2
        exact ⟨_, rfl, hoK.out, hBK.out⟩
end Go.Proofs.Ytgpfdflpkaeedaa

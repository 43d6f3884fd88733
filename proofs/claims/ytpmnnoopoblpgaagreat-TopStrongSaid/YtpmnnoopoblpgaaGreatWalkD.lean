/- Walks: ValidSign, of the program and of the reference. -/
import Derived.Test.YtpmnnoopoblpgaaGreatWalkC
import Derived.Test.YtpmnnoopoblpgaaGreatMaps
namespace Go.Proofs.YtpmnnoopoblpgaaGreat
open Go Go.RowKit Go.Maps

theorem zBool (w : World) : (zeroValue 4).run Tryz.prog w = .ok (.bool false) w := by kernel_rfl
theorem zInt (w : World) : (zeroValue 3).run Tryz.prog w = .ok (.int .i64 0) w := by kernel_rfl
theorem big_max {n : Nat} (h : n ≤ big) : n ≤ maxLen := by unfold big at h; unfold maxLen; omega

def nm (s : Sg) (k : Nat) : List ByteArray := (s.take k).map (fun e => e.1)
/-- the first k entries are well formed and of different names -/
def goodTo (s : Sg) (k : Nat) : Prop := (s.take k).all entOk = true ∧ (nm s k).Nodup
theorem goodTo_zero (s : Sg) : goodTo s 0 := by simp [goodTo, nm]
theorem goodTo_succ {s : Sg} {k : Nat} (h : goodTo s k) (hk : k < s.length) (he : entOk s[k] = true) (hn : s[k].1 ∉ nm s k) : goodTo s (k + 1) := by
  obtain ⟨h1, h2⟩ := h
  unfold goodTo nm at *
  rw [List.take_succ_eq_append_getElem hk]
  refine ⟨by rw [List.all_append, h1]; simp [he], ?_⟩
  rw [List.map_append, List.nodup_append]
  refine ⟨h2, by simp, ?_⟩
  intro a ha b hb hab
  simp at hb
  subst hb; subst hab
  exact hn ha
theorem bad_ent {s : Sg} {k : Nat} (hk : k < s.length) (he : entOk s[k] = false) : okSign s = false := by
  have : s.all entOk = false := by rw [List.all_eq_false]; exact ⟨s[k], List.getElem_mem hk, by simp [he]⟩
  simp [okSign, this]
theorem bad_dup {s : Sg} {k : Nat} (hk : k < s.length) (hn : s[k].1 ∈ nm s k) : okSign s = false := by
  unfold nm at hn
  have : ¬ (s.map (·.1)).Nodup := by
    intro h
    rw [← List.take_append_drop k s, List.map_append, List.nodup_append] at h
    refine h.2.2 _ hn s[k].1 ?_ rfl
    rw [List.drop_eq_getElem_cons hk, List.map_cons]; exact List.mem_cons_self ..
  simp [okSign, this]
theorem good_all {s : Sg} {k : Nat} (hk : s.length ≤ k) (h : goodTo s k) : okSign s = (decide (1 ≤ s.length) && decide (s.length ≤ 12) && decide ((s.getD 0 default).2 = 2)) := by
  obtain ⟨h1, h2⟩ := h
  unfold nm at h2
  rw [List.take_of_length_le hk] at h1 h2
  simp [okSign, h1, h2]
theorem entOk_eq (x : ByteArray × Int) : entOk x = (nameOk x.1 && (decide (0 ≤ x.2) && decide (x.2 ≤ 3))) := rfl

def metF (s : Sg) (k : Nat) (x : ByteArray) : Bool := (nm s k).any (fun y => decide (y = x))
theorem metF_true {s : Sg} {k : Nat} {x : ByteArray} (h : metF s k x = true) : x ∈ nm s k := by
  simp only [metF, List.any_eq_true, decide_eq_true_eq] at h
  obtain ⟨y, hy, rfl⟩ := h; exact hy
theorem metF_false {s : Sg} {k : Nat} {x : ByteArray} (h : metF s k x = false) : x ∉ nm s k := by
  simp only [metF, List.any_eq_false, decide_eq_true_eq] at h
  exact fun hx => h x hx rfl
theorem metF_succ {s : Sg} {k : Nat} (hk : k < s.length) : (fun z => if z = s[k].1 then true else metF s k z) = metF s (k + 1) := by
  funext z
  unfold metF nm
  rw [List.take_succ_eq_append_getElem hk, List.map_append, List.any_append]
  by_cases h : z = s[k].1
  · simp [h]
  · rw [if_neg h]; simp; exact fun e => (h e.symm).elim

def vsRel (s : Sg) (w0 : World) (i : Value) (wr : World) : Prop :=
  ∃ k : Nat, i = .int .i64 k ∧ k ≤ s.length ∧ goodTo s k ∧ BMap Tryz.prog 9 4 wr w0.heap.size k (metF s k) ∧ Below w0.heap.size w0 wr

set_option maxHeartbeats 1000000 in
theorem ValidSign_any {S : Nat → Prop} (a : Option Addr) (c : Nat) (s : Sg) (w : World) (h : Sign S w a c s) :
    Calls Tryz.prog 85 #[.slice a s.length c] w fun e w' => e = .returned (.bool (okSign s)) ∧ Below w.heap.size w w' := by
  have m := h.le
  have hmm := @run_makeMap Tryz.prog
  go_enter Tryz.func85, Tryz.ntmps85
  go_wp2_with fail
  go_loopw [9] (fun i wr => vsRel s w i wr) (fun i _ => s.length - (intOf i).toNat)
  case atStart => exact ⟨0, rfl, Nat.zero_le _, goodTo_zero s, (funext (fun x => by simp [metF, nm]) : metF s 0 = fun _ => false) ▸ BMap.made w, below1 _ _⟩
  case round =>
    obtain ⟨k, rfl, hk, hg, hm, hB⟩ := hrel
    by_cases hlt : k < s.length
    · obtain ⟨b, o, rfl, -, q1, q2, hsz, hrg⟩ := h.sym k hlt
      have hb : b < w.heap.size := World.block_lt_of_cell? w _ q1
      have p1 := (hB.cell (p := ⟨b, o + k * 2, none⟩) hb).trans q1
      have p2 := (hB.cell (p := ⟨b, o + k * 2 + 1, none⟩) hb).trans q2
      clear q1 q2
      obtain ⟨x, hx⟩ : ∃ x, s[k].1 = x := ⟨_, rfl⟩
      obtain ⟨n, hn⟩ : ∃ n, s[k].2 = n := ⟨_, rfl⟩
      rw [hx] at p1 hsz
      rw [hn] at p2 hrg
      have hxH := Lib.hid hx
      have hnH := Lib.hid hn
      have hgH := Lib.hid hg
      have hw0 := hm.lt
      clear hx hn hg h
      obtain ⟨ok, hok⟩ : ∃ ok, nameOk x = ok := ⟨_, rfl⟩
      cases ok with
      | false =>
        have hfin := Lib.hid (bad_ent hlt (by rw [entOk_eq, hxH.out, hok]; rfl))
        have hokH := Lib.hid hok
        clear hok
        go_wp2_with (go_at_call 140; refine (letters_any _ _ hsz).mono ?_; rw [hokH.out]; rintro e w1 ⟨rfl, hb1⟩)
        go_ret
        exact ⟨ret_bool hfin.out.symm, below_step hB (Nat.le_of_lt hw0) hb1⟩
      | true =>
        have hokH := Lib.hid hok
        clear hok
        have hlk : ∀ w1, Below (wr.alloc (.cells #[.string x, .int .i64 n] 115)).heap.size (wr.alloc (.cells #[.string x, .int .i64 n] 115)) w1 → BMap Tryz.prog 9 4 w1 w.heap.size k (metF s k) :=
          fun w1 hb1 => (hm.below (B := wr.heap.size) (below1 _ _) hw0).below hb1 (by simp; omega)
        have hlkH := Lib.hid hlk
        clear hlk
        obtain ⟨mt, hmt⟩ : ∃ mt, metF s k x = mt := ⟨_, rfl⟩
        cases mt with
        | true =>
          have hfin := Lib.hid (bad_dup hlt (by rw [hxH.out]; exact metF_true hmt))
          have hmtH := Lib.hid hmt
          clear hmt
          go_wp2_with (go_at_call 140; refine (letters_any _ _ hsz).mono ?_; rw [hokH.out]; rintro e w1 ⟨rfl, hb1⟩; have hl1 := (hlkH.out w1 hb1).look (tm := 88) Tryz.underlying88 Tryz.underlying9 Tryz.underlying4 (zBool w1) x (big_max hsz); rw [hmtH.out] at hl1; have x0 : w1.cell? ⟨wr.heap.size, 0, none⟩ = some (.string x) := (hb1.cell (by simp)).trans (by go_simp))
          go_ret
          exact ⟨ret_bool hfin.out.symm, below_step hB (Nat.le_of_lt hw0) hb1⟩
        | false =>
          have hni : s[k].1 ∉ nm s k := by rw [hxH.out]; exact metF_false hmt
          have hniH := Lib.hid hni
          have hmtH := Lib.hid hmt
          clear hmt hni
          obtain ⟨ra, hra⟩ : ∃ ra, (decide (0 ≤ n) && decide (n ≤ 3)) = ra := ⟨_, rfl⟩
          cases ra with
          | false =>
            have hfin := Lib.hid (bad_ent hlt (by rw [entOk_eq, hnH.out, hra]; simp))
            have hraH := Lib.hid hra
            clear hra
            go_wp2_with (first | (go_at_call 140; refine (letters_any _ _ hsz).mono ?_; rw [hokH.out]; rintro e w1 ⟨rfl, hb1⟩; have hl1 := (hlkH.out w1 hb1).look (tm := 88) Tryz.underlying88 Tryz.underlying9 Tryz.underlying4 (zBool w1) x (big_max hsz); rw [hmtH.out] at hl1; have x0 : w1.cell? ⟨wr.heap.size, 0, none⟩ = some (.string x) := (hb1.cell (by simp)).trans (by go_simp); have x1 : w1.cell? ⟨wr.heap.size, 1, none⟩ = some (.int .i64 n) := (hb1.cell (by simp)).trans (by go_simp)) | (go_at_call 141; refine (within_any _ _ _ _).mono ?_; rw [hraH.out]; rintro e w' ⟨rfl, rfl⟩))
            go_ret
            exact ⟨ret_bool hfin.out.symm, below_step hB (Nat.le_of_lt hw0) hb1⟩
          | true =>
            have hent : entOk s[k] = true := by rw [entOk_eq, hxH.out, hnH.out, hra, hokH.out]; rfl
            have hgs := Lib.hid (goodTo_succ hgH.out hlt hent hniH.out)
            have hraH := Lib.hid hra
            clear hra hent
            go_wp2_with (first | (go_at_call 140; refine (letters_any _ _ hsz).mono ?_; rw [hokH.out]; rintro e w1 ⟨rfl, hb1⟩; have hl1 := (hlkH.out w1 hb1).look (tm := 88) Tryz.underlying88 Tryz.underlying9 Tryz.underlying4 (zBool w1) x (big_max hsz); rw [hmtH.out] at hl1; have x0 : w1.cell? ⟨wr.heap.size, 0, none⟩ = some (.string x) := (hb1.cell (by simp)).trans (by go_simp); have x1 : w1.cell? ⟨wr.heap.size, 1, none⟩ = some (.int .i64 n) := (hb1.cell (by simp)).trans (by go_simp); obtain ⟨w2, hu1, hu2, hu3⟩ := (hlkH.out w1 hb1).store (tm := 88) Tryz.underlying88 Tryz.underlying9 Tryz.underlying4 (by unfold maxLen; omega) x (big_max hsz) true) | (go_at_call 141; refine (within_any _ _ _ _).mono ?_; rw [hraH.out]; rintro e w' ⟨rfl, rfl⟩))
            go_roundw
            case rel => 
              have hb2 := below_step hB (Nat.le_of_lt hw0) hb1
              exact ⟨k + 1, by go_num, by omega, hgs.out, by rw [← metF_succ hlt, hxH.out]; exact hu2, hb2.grown hu3 (Nat.le_trans (by simp) hb1.size |> Nat.le_trans hB.size) (fun j e => by cases e; exact Nat.le_refl _)⟩
            case measure => simp [intOf]; omega
    · have hfin := Lib.hid (good_all (by omega) hg)
      by_cases h12 : 1 ≤ s.length ∧ s.length ≤ 12
      · have hr : (decide (1 ≤ (s.length : Int)) && decide ((s.length : Int) ≤ 12)) = true := by simp; omega
        have hl0 : 0 < s.length := by omega
        obtain ⟨b, o, rfl, -, q1, q2, -, -⟩ := h.sym 0 hl0
        have hb : b < w.heap.size := World.block_lt_of_cell? w _ q1
        have p2 := (hB.cell (p := ⟨b, o + 0 * 2 + 1, none⟩) hb).trans q2
        rw [Nat.zero_mul, Nat.add_zero] at p2
        have hgd : (s.getD 0 default).2 = s[0].2 := by rw [List.getD_eq_getElem?_getD, List.getElem?_eq_getElem hl0]; rfl
        have hgdH := Lib.hid hgd
        have h12H := Lib.hid h12
        clear q1 q2 hg hgd h12 h
        go_wp2_with (go_at_call 141; refine (within_any _ _ _ _).mono ?_; rw [hr]; rintro e w' ⟨rfl, rfl⟩)
        go_ret
        refine ⟨ret_bool ?_, hB⟩
        rw [hfin.out, hgdH.out, decide_eq_true h12H.out.1, decide_eq_true h12H.out.2]
        rfl
      · have hr : (decide (1 ≤ (s.length : Int)) && decide ((s.length : Int) ≤ 12)) = false := by simp; omega
        have hfin2 : okSign s = false := by rw [hfin.out]; simp; omega
        have hfin2H := Lib.hid hfin2
        clear hg h12 h hfin2
        go_wp2_with (go_at_call 141; refine (within_any _ _ _ _).mono ?_; rw [hr]; rintro e w' ⟨rfl, rfl⟩)
        go_ret
        exact ⟨ret_bool hfin2H.out.symm, hB⟩
end Go.Proofs.YtpmnnoopoblpgaaGreat

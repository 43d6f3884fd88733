/- The proof of a statement, some of its texts joined in build order: part I. -/
import Derived.Test.YtnhaoalcpbefoaaDoorMsG
import Derived.Test.YtnhaoalcpbefoaaDoorMsF
import Derived.BigQuiet
/- Walks: lemmaryref03.letter, head. -/
namespace Go.Proofs.YtnhaoalcpbefoaaDoor
open Go Go.RowKit Go.Maps

theorem headW_sym {s : Sg} {w : List UInt8} {j : Nat} (hj : j < s.length) (h : ∀ m, m < j → nmL s (m : Int) ≠ w) (he : nmL s (j : Int) = w) : headW s w = some (j : Int) := by
  have : (List.range s.length).find? (fun i : Nat => decide (nmL s (i : Int) = w)) = some j := by
    rw [List.find?_range_eq_some]
    exact ⟨by simpa using he, by simpa using hj, fun m hm => by simpa using h m hm⟩
  unfold headW
  rw [this]
theorem headW_no {s : Sg} {w : List UInt8} (h : ∀ m, m < s.length → nmL s (m : Int) ≠ w) : headW s w = ((List.range 12).find? (fun v => decide (w = 120 :: Lib.decDigits v))).map (fun v => -(v : Int) - 1) := by
  have : (List.range s.length).find? (fun i : Nat => decide (nmL s (i : Int) = w)) = none := by
    rw [List.find?_eq_none]
    intro i hi
    simpa using h i (List.mem_range.1 hi)
  unfold headW
  rw [this]
theorem headW_vr {s : Sg} {w : List UInt8} {v : Nat} (h : ∀ m, m < s.length → nmL s (m : Int) ≠ w) (hv : v < 12) (h2 : ∀ m, m < v → w ≠ 120 :: Lib.decDigits m) (he : w = 120 :: Lib.decDigits v) : headW s w = some (-(v : Int) - 1) := by
  have : (List.range 12).find? (fun v => decide (w = 120 :: Lib.decDigits v)) = some v := by
    rw [List.find?_range_eq_some]
    exact ⟨by simpa using he, by simpa using hv, fun m hm => by simpa using h2 m hm⟩
  rw [headW_no h, this]; rfl
theorem headW_none {s : Sg} {w : List UInt8} (h : ∀ m, m < s.length → nmL s (m : Int) ≠ w) (h2 : ∀ m, m < 12 → w ≠ 120 :: Lib.decDigits m) : headW s w = none := by
  have : (List.range 12).find? (fun v => decide (w = 120 :: Lib.decDigits v)) = none := by
    rw [List.find?_eq_none]
    intro i hi
    simpa using h2 i (List.mem_range.1 hi)
  rw [headW_no h, this]; rfl
theorem letter_aux (n : Nat) (w : World) (z1 z2 z3 z4 z5 z6 : Bool) (e1 : decide ((97 : Int) ≤ n) = z1) (e2 : decide ((n : Int) ≤ 122) = z2) (e3 : decide ((65 : Int) ≤ n) = z3) (e4 : decide ((n : Int) ≤ 90) = z4) (e5 : decide ((48 : Int) ≤ n) = z5) (e6 : decide ((n : Int) ≤ 57) = z6) (hz : (z1, z2, z3, z4, z5, z6) ∈ [(false, true, false, true, false, true), (false, true, false, true, true, true), (false, true, false, true, true, false), (false, true, true, true, true, false), (false, true, true, false, true, false), (true, true, true, false, true, false), (true, false, true, false, true, false)]) :
    Calls Tryd.prog 59 #[.int .u8 (n : Int)] w fun e w' => e = .returned (.bool (((z1 && z2) || (z3 && z4)) || (z5 && z6))) ∧ w = w' := by
  simp only [List.mem_cons, Prod.mk.injEq, List.not_mem_nil, or_false] at hz
  rcases hz with ⟨rfl, rfl, rfl, rfl, rfl, rfl⟩ | ⟨rfl, rfl, rfl, rfl, rfl, rfl⟩ | ⟨rfl, rfl, rfl, rfl, rfl, rfl⟩ | ⟨rfl, rfl, rfl, rfl, rfl, rfl⟩ | ⟨rfl, rfl, rfl, rfl, rfl, rfl⟩ | ⟨rfl, rfl, rfl, rfl, rfl, rfl⟩ | ⟨rfl, rfl, rfl, rfl, rfl, rfl⟩
  all_goals go_enter Tryd.func59, Tryd.ntmps59
  all_goals go_wp2_with fail
  all_goals go_ret
  all_goals exact ⟨rfl, rfl⟩
theorem letter_any (c : UInt8) (w : World) : Calls Tryd.prog 59 #[.int .u8 (c.toNat : Int)] w fun e w' => e = .returned (.bool (isW c)) ∧ w = w' := by
  obtain ⟨n, hn⟩ : ∃ n, c.toNat = n := ⟨_, rfl⟩
  have hR : isW c = (((decide (97 ≤ n) && decide (n ≤ 122)) || (decide (65 ≤ n) && decide (n ≤ 90))) || (decide (48 ≤ n) && decide (n ≤ 57))) := by
    unfold isW isLet; rw [hn]
  rw [hn, hR]
  have hI : n < 48 ∨ (48 ≤ n ∧ n ≤ 57) ∨ (57 < n ∧ n < 65) ∨ (65 ≤ n ∧ n ≤ 90) ∨ (90 < n ∧ n < 97) ∨ (97 ≤ n ∧ n ≤ 122) ∨ 122 < n := by omega
  rcases hI with hI | hI | hI | hI | hI | hI | hI
  · rw [show decide (97 ≤ n) = false from decide_eq_false (by omega), show decide (n ≤ 122) = true from decide_eq_true (by omega), show decide (65 ≤ n) = false from decide_eq_false (by omega), show decide (n ≤ 90) = true from decide_eq_true (by omega), show decide (48 ≤ n) = false from decide_eq_false (by omega), show decide (n ≤ 57) = true from decide_eq_true (by omega)]
    exact letter_aux n w false true false true false true (decide_eq_false (by omega)) (decide_eq_true (by omega)) (decide_eq_false (by omega)) (decide_eq_true (by omega)) (decide_eq_false (by omega)) (decide_eq_true (by omega)) (by decide)
  · rw [show decide (97 ≤ n) = false from decide_eq_false (by omega), show decide (n ≤ 122) = true from decide_eq_true (by omega), show decide (65 ≤ n) = false from decide_eq_false (by omega), show decide (n ≤ 90) = true from decide_eq_true (by omega), show decide (48 ≤ n) = true from decide_eq_true (by omega), show decide (n ≤ 57) = true from decide_eq_true (by omega)]
    exact letter_aux n w false true false true true true (decide_eq_false (by omega)) (decide_eq_true (by omega)) (decide_eq_false (by omega)) (decide_eq_true (by omega)) (decide_eq_true (by omega)) (decide_eq_true (by omega)) (by decide)
  · rw [show decide (97 ≤ n) = false from decide_eq_false (by omega), show decide (n ≤ 122) = true from decide_eq_true (by omega), show decide (65 ≤ n) = false from decide_eq_false (by omega), show decide (n ≤ 90) = true from decide_eq_true (by omega), show decide (48 ≤ n) = true from decide_eq_true (by omega), show decide (n ≤ 57) = false from decide_eq_false (by omega)]
    exact letter_aux n w false true false true true false (decide_eq_false (by omega)) (decide_eq_true (by omega)) (decide_eq_false (by omega)) (decide_eq_true (by omega)) (decide_eq_true (by omega)) (decide_eq_false (by omega)) (by decide)
  · rw [show decide (97 ≤ n) = false from decide_eq_false (by omega), show decide (n ≤ 122) = true from decide_eq_true (by omega), show decide (65 ≤ n) = true from decide_eq_true (by omega), show decide (n ≤ 90) = true from decide_eq_true (by omega), show decide (48 ≤ n) = true from decide_eq_true (by omega), show decide (n ≤ 57) = false from decide_eq_false (by omega)]
    exact letter_aux n w false true true true true false (decide_eq_false (by omega)) (decide_eq_true (by omega)) (decide_eq_true (by omega)) (decide_eq_true (by omega)) (decide_eq_true (by omega)) (decide_eq_false (by omega)) (by decide)
  · rw [show decide (97 ≤ n) = false from decide_eq_false (by omega), show decide (n ≤ 122) = true from decide_eq_true (by omega), show decide (65 ≤ n) = true from decide_eq_true (by omega), show decide (n ≤ 90) = false from decide_eq_false (by omega), show decide (48 ≤ n) = true from decide_eq_true (by omega), show decide (n ≤ 57) = false from decide_eq_false (by omega)]
    exact letter_aux n w false true true false true false (decide_eq_false (by omega)) (decide_eq_true (by omega)) (decide_eq_true (by omega)) (decide_eq_false (by omega)) (decide_eq_true (by omega)) (decide_eq_false (by omega)) (by decide)
  · rw [show decide (97 ≤ n) = true from decide_eq_true (by omega), show decide (n ≤ 122) = true from decide_eq_true (by omega), show decide (65 ≤ n) = true from decide_eq_true (by omega), show decide (n ≤ 90) = false from decide_eq_false (by omega), show decide (48 ≤ n) = true from decide_eq_true (by omega), show decide (n ≤ 57) = false from decide_eq_false (by omega)]
    exact letter_aux n w true true true false true false (decide_eq_true (by omega)) (decide_eq_true (by omega)) (decide_eq_true (by omega)) (decide_eq_false (by omega)) (decide_eq_true (by omega)) (decide_eq_false (by omega)) (by decide)
  · rw [show decide (97 ≤ n) = true from decide_eq_true (by omega), show decide (n ≤ 122) = false from decide_eq_false (by omega), show decide (65 ≤ n) = true from decide_eq_true (by omega), show decide (n ≤ 90) = false from decide_eq_false (by omega), show decide (48 ≤ n) = true from decide_eq_true (by omega), show decide (n ≤ 57) = false from decide_eq_false (by omega)]
    exact letter_aux n w true false true false true false (decide_eq_true (by omega)) (decide_eq_false (by omega)) (decide_eq_true (by omega)) (decide_eq_false (by omega)) (decide_eq_true (by omega)) (decide_eq_false (by omega)) (by decide)
set_option maxHeartbeats 2000000 in
theorem rhead_any {S : Nat → Prop} (a : Option Addr) (c : Nat) (s : Sg) (b : ByteArray) (w : World) (h : Sign S w a c s) :
    Calls Tryd.prog 60 #[.slice a s.length c, .string b] w fun e w' => e = .returned (.tuple #[.int .i64 ((headW s b.data.toList).getD 0), .bool (headW s b.data.toList).isSome]) ∧ w = w' := by
  have m1 := h.le
  have hH := Lib.hid h
  clear h
  go_enter Tryd.func60, Tryd.ntmps60
  go_wp2_with fail
  go_loopw [6] (fun i wr => ∃ j : Nat, i = .int .i64 j ∧ j ≤ s.length ∧ (∀ m, m < j → nmL s (m : Int) ≠ b.data.toList) ∧ wr = w) (fun i _ => s.length - (intOf i).toNat)
  case atStart => exact ⟨0, rfl, Nat.zero_le _, fun m hm => by omega, rfl⟩
  case round =>
    obtain ⟨j, rfl, hj, hno, rfl⟩ := hrel
    by_cases hlt : j < s.length
    · obtain ⟨bS, oS, rfl, -, y0, -, -, -⟩ := hH.out.sym j hlt
      rw [nm_cell hlt] at y0
      by_cases he : nmL s (j : Int) = b.data.toList
      · have hR := Lib.hid (headW_sym hlt hno he)
        have hbb : toB (nmL s (j : Int)) = b := by rw [he]; rfl
        rw [hbb] at y0
        clear hno he hbb
        go_wp2_with fail
        go_ret2
        rw [hR.out]
        exact ⟨rfl, by trivial⟩
      · obtain ⟨X, hX⟩ : ∃ X, toB (nmL s (j : Int)) = X := ⟨_, rfl⟩
        rw [hX] at y0
        have hq : (X.toList == b.toList) = false := by
          rw [ByteArray.toList_eq, ByteArray.toList_eq, beq_eq_false_iff_ne, ← hX]
          exact he
        have hno2 := Lib.hid (show ∀ m, m < j + 1 → nmL s (m : Int) ≠ b.data.toList from fun m hm => by
          by_cases h : m < j
          · exact hno m h
          · have : m = j := by omega
            subst this; exact he)
        clear hno he hX
        go_wp2_with fail
        go_roundw
        case rel => exact ⟨j + 1, by go_num, hlt, hno2.out, by trivial⟩
        case measure => simp [intOf]; omega
    · have hnH := Lib.hid (show ∀ m, m < s.length → nmL s (m : Int) ≠ b.data.toList from fun m hm => hno m (by omega))
      clear hno
      go_wp2_with fail
      go_loopw [7] (fun i w2 => ∃ v : Nat, i = .int .i64 v ∧ v ≤ 12 ∧ (∀ m, m < v → b.data.toList ≠ 120 :: Lib.decDigits m) ∧ w2 = wr) (fun i _ => 12 - (intOf i).toNat)
      case atStart => exact ⟨0, rfl, Nat.zero_le _, fun m hm => by omega, by trivial⟩
      case round =>
        obtain ⟨v, rfl, hv, hvo, rfl⟩ := hrel
        by_cases hlt2 : v < 12
        · have hd := digN_any v (by omega)
          have hlen := dec_len (v := v) (by omega)
          obtain ⟨D, hD⟩ : ∃ D : ByteArray, (⟨(Lib.decDigits v).toArray⟩ : ByteArray) = D := ⟨_, rfl⟩
          have hDs : D.size ≤ 2 := by rw [← hD]; exact hlen
          have s1 : (9223372036854775807 < 1 + D.size) = False := eq_false (by omega)
          have hcat : ((⟨#[120]⟩ : ByteArray) ++ D).data.toList = 120 :: Lib.decDigits v := by rw [← hD]; rfl
          rw [hD] at hd
          obtain ⟨E, hE⟩ : ∃ E, (⟨#[120]⟩ : ByteArray) ++ D = E := ⟨_, rfl⟩
          by_cases he : b.data.toList = 120 :: Lib.decDigits v
          · have hR := Lib.hid (headW_vr hnH.out hlt2 hvo he)
            have hbb : b = E := ba_ext3 (by rw [he, ← hE, hcat])
            have hw1 : IntKind.i64.wrap (-(v : Int)) = -(v : Int) := by rw [IntWalk.i64_in _ (by omega)]
            have hw2 : IntKind.i64.wrap (-(v : Int) - 1) = -(v : Int) - 1 := by rw [IntWalk.i64_in _ (by omega)]
            clear hvo he hcat hD hlen
            subst hbb
            go_wp2_with (go_at_call 42; (with_reducible refine (hd _).mono ?_); rintro e w2 ⟨rfl, rfl⟩)
            go_ret2
            rw [hR.out]
            exact ⟨rfl, by trivial⟩
          · have hq : (b.toList == E.toList) = false := by
              rw [ByteArray.toList_eq, ByteArray.toList_eq, beq_eq_false_iff_ne, ← hE, hcat]
              exact he
            have hvo2 := Lib.hid (show ∀ m, m < v + 1 → b.data.toList ≠ 120 :: Lib.decDigits m from fun m hm => by
              by_cases h : m < v
              · exact hvo m h
              · have : m = v := by omega
                subst this; exact he)
            clear hvo he hcat hD hlen
            go_wp2_with (go_at_call 42; (with_reducible refine (hd _).mono ?_); rintro e w2 ⟨rfl, rfl⟩)
            go_roundw
            case rel => exact ⟨v + 1, by go_num, hlt2, hvo2.out, by trivial⟩
            case measure => simp [intOf]; omega
        · have hR := Lib.hid (headW_none hnH.out (fun m hm => hvo m (by omega)))
          clear hvo
          go_wp2_with fail
          go_ret2
          rw [hR.out]
          exact ⟨rfl, by trivial⟩
end Go.Proofs.YtnhaoalcpbefoaaDoor

/- Walks: lemmaryref03.heads. -/
namespace Go.Proofs.YtnhaoalcpbefoaaDoor
open Go Go.RowKit Go.Maps

theorem str_ix {b : ByteArray} {j : Nat} (hj : j < b.size) (W : World) : (Instr.index 9 (.string b) (.int .i64 (j : Int))).run Tryd.prog W = .ok (.int .u8 ((b[j]'hj).toNat : Int)) W := by
  rw [run_index_string W 9 b .i64 (j : Int) Tryd.underlying9, dif_pos ⟨by omega, by simpa using hj⟩]
  simp
theorem hd_push {B : Nat} {w wr : World} {out : Value} {l : List Int} (h : OwnI wr B out l) (hl : l.length ≤ 1000) (hB : B ≤ wr.heap.size) (hb : Below B w wr) (x : Int) (hx : inRange x) :
    ∃ aO cO aN cN w', out = .slice aO l.length cO ∧ RowKit.Hid ((Builtin.append_ #[25, 25] 25 #[.slice aO l.length cO, .slice (some ⟨wr.heap.size, 0, none⟩) 1 1]).run Tryd.prog (wr.alloc (.cells #[.int .i64 x] 3)) = .ok (.slice aN (l.length + 1) cN) w') ∧ RowKit.Hid (OwnI w' B (.slice aN (l.length + 1) cN) (l ++ [x]) ∧ Below B w w') := by
  obtain ⟨aO, cO, rfl, -⟩ := OwnI.ints h
  obtain ⟨v', w', hrun, ho, hg, -⟩ := OwnL.push (P := Tryd.prog) (t := 25) (ty := 25) h Tryd.underlying25 infoInt rfl (vs := [.int .i64 x]) (x := x) ⟨rfl, hx⟩ (by omega) (by unfold big; omega) hB
  have hol := OwnL.lt h
  obtain ⟨aN, cN, hvN, -⟩ := OwnI.ints ho
  rw [show (l ++ [x]).length = l.length + 1 by simp] at hvN
  subst hvN
  exact ⟨aO, cO, aN, cN, w', rfl, Lib.hid hrun, Lib.hid ⟨ho, hb.grown hg hB (fun i e => (hol i e).1)⟩⟩
theorem ne40 {ch : UInt8} (h : ¬ ch = 40) : ((ch.toNat : Int) == 40) = false := by
  rw [beq_eq_false_iff_ne]
  intro e
  apply h
  apply UInt8.toNat_inj.1
  show ch.toNat = 40
  omega
def hdRet (M : Option (List Int)) (w : World) (e : Ending) (w' : World) : Prop :=
  (∃ o v, M = some o ∧ e = .returned (.tuple #[v, .bool true]) ∧ OwnI w' w.heap.size v o ∧ Below w.heap.size w w') ∨ (M = none ∧ e = .returned (.tuple #[.slice none 0 0, .bool false]) ∧ Below w.heap.size w w')
def hdRel (s : Sg) (k : Nat) (text : ByteArray) (M : Option (List Int)) (w : World) (out wd i : Value) (wr : World) : Prop :=
  ∃ (j : Nat) (u : List UInt8) (o : List Int), i = .int .i64 j ∧ wd = .string (toB u) ∧ OwnI wr w.heap.size out o ∧ Below w.heap.size w wr ∧ o.length ≤ 60 ∧ u.length ≤ 8 ∧
    ((j ≤ text.size ∧ hgo s k (text.data.toList.drop j) u o = M ∧ ((j = 0 ∧ u = []) ∨ (∃ h : j - 1 < text.size, 0 < j ∧ (u = [] ↔ isW (text[j - 1]'h) = false)))) ∨ (j = text.size + 1 ∧ M = some o))
theorem headW_rng {s : Sg} {u : List UInt8} {n : Int} (hs : s.length ≤ 9223372036854775807) (h : headW s u = some n) : inRange n := by
  unfold headW at h
  split at h
  · rename_i i hi
    have h2 := List.mem_range.1 (List.mem_of_find?_eq_some hi)
    have h3 := Option.some.inj h
    unfold inRange
    omega
  · obtain ⟨v, hv, h3⟩ := Option.map_eq_some_iff.1 h
    obtain ⟨m, hm, he⟩ := Option.bind_eq_some_iff.1 hv
    have h2 := List.mem_range.1 (List.mem_of_find?_eq_some hm)
    have he2 := Option.some.inj he
    unfold inRange
    omega
theorem drop_cons3 {t : ByteArray} {i : Nat} (h : i < t.size) : t.data.toList.drop i = (t[i]'h) :: t.data.toList.drop (i + 1) := by
  have h2 : i < t.data.toList.length := by rw [Array.length_toList]; exact h
  rw [List.drop_eq_getElem_cons h2]; rfl
theorem ext_one {t : ByteArray} {i : Nat} (h : i < t.size) : t.extract i (i + 1) = toB [t[i]'h] := by
  apply ba_ext3
  rw [ByteArray.data_extract, Array.toList_extract, List.extract_eq_take_drop, drop_cons3 h]
  simp [toB]
set_option maxRecDepth 20000 in
set_option maxHeartbeats 8000000 in
theorem rheads_any {S : Nat → Prop} (a : Option Addr) (c : Nat) (s : Sg) (k : Nat) (text : ByteArray) (w : World) (h : Sign S w a c s) (hts : text.size ≤ 65536) :
    Calls Tryd.prog 32 #[.slice a s.length c, .int .i64 (k : Int), .string text] w (hdRet (hgo s k text.data.toList [] []) w) := by
  have m1 := h.le
  obtain ⟨M, hM⟩ : ∃ M, hgo s k text.data.toList [] [] = M := ⟨_, rfl⟩
  rw [hM]
  have hH := Lib.hid h
  have hMH := Lib.hid hM
  clear h hM
  go_enter Tryd.func32, Tryd.ntmps32
  go_wp2_with fail
  go_loopw [8, 9, 10] (fun out wd i wr => hdRel s k text M w out wd i wr) (fun _ _ i _ => text.size + 1 - (intOf i).toNat)
  case atStart => exact ⟨0, [], [], rfl, rfl, OwnL.nil _ _ _ _ _, .refl _ _, by decide, by decide, .inl ⟨Nat.zero_le _, hMH.out, .inl ⟨rfl, rfl⟩⟩⟩
  case round =>
    obtain ⟨j, u, o, rfl, rfl, hO, hB, ho60, hu8, hst⟩ := hrel
    rcases hst with ⟨hj, hgoE, hlast⟩ | ⟨rfl, hMo⟩
    · by_cases hlt : j < text.size
      · have hix := str_ix hlt
        rw [drop_cons3 hlt] at hgoE
        have hext := ext_one hlt
        have hnext : ∀ u2 : List UInt8, (u2 = [] ↔ isW (text[j]'hlt) = false) → ((j + 1 = 0 ∧ u2 = []) ∨ (∃ h : j + 1 - 1 < text.size, 0 < j + 1 ∧ (u2 = [] ↔ isW (text[j + 1 - 1]'h) = false))) := fun u2 h => .inr ⟨hlt, Nat.succ_pos _, h⟩
        obtain ⟨ch, hch⟩ : ∃ ch, text[j]'hlt = ch := ⟨_, rfl⟩
        simp only [hch] at hix hgoE hext hnext
        clear hch
        have hlet := letter_any ch
        cases hW : isW ch with
        | true =>
          rw [hW] at hlet
          rw [hgo, if_pos hW] at hgoE
          obtain ⟨X, hX⟩ : ∃ X, text.extract j (j + 1) = X := ⟨_, rfl⟩
          have hXs : X.size = 1 := by rw [← hX, hext, toB_size]; rfl
          have hcat : toB u ++ X = toB (u ++ [ch]) := by rw [← hX, hext, toB_append]
          have hus := toB_size u
          obtain ⟨U, hU⟩ : ∃ U, toB u = U := ⟨_, rfl⟩
          rw [hU] at hcat hus
          rw [hU]
          have s1 : (9223372036854775807 < U.size + X.size) = False := eq_false (by omega)
          have s2 : (9223372036854775807 < U.size + 1) = False := eq_false (by omega)
          have hw1 : IntKind.i64.wrap ((j : Int) + 1) = (j : Int) + 1 := by rw [IntWalk.i64_in _ (by omega)]
          by_cases h8 : 8 < u.length + 1
          · rw [if_pos h8] at hgoE
            have hr := Lib.hid (show hdRet M w (.returned (.tuple #[.slice none 0 0, .bool false])) wr from .inr ⟨hgoE.symm, rfl, hB⟩)
            have hg1 : decide ((8 : Int) < ((U.size : Int) + (X.size : Int))) = true := decide_eq_true (by omega)
            clear hO hB hgoE hlast hnext hcat hext hU hW
            go_wp2_with (go_at_call 59; (with_reducible refine (hlet _).mono ?_); rintro e w2 ⟨rfl, rfl⟩)
            go_ret2
            exact hr.out
          · rw [if_neg h8] at hgoE
            have hr := Lib.hid (show hdRel s k text M w _ (.string (U ++ X)) (.int .i64 ((j : Int) + 1)) wr from ⟨j + 1, u ++ [ch], o, rfl, congrArg Value.string hcat, hO, hB, ho60, by rw [List.length_append, List.length_singleton]; omega, .inl ⟨hlt, hgoE, hnext _ (by simp [hW])⟩⟩)
            have hg1 : decide ((8 : Int) < ((U.size : Int) + (X.size : Int))) = false := decide_eq_false (by omega)
            clear hO hB hgoE hlast hnext hcat hext hU hW
            go_wp2_with (go_at_call 59; (with_reducible refine (hlet _).mono ?_); rintro e w2 ⟨rfl, rfl⟩)
            go_roundw
            case rel => exact hr.out
            case measure => simp [intOf] <;> omega
        | false =>
          rw [hW] at hlet
          rw [hgo, if_neg (by rw [hW]; decide)] at hgoE
          have hW0 := hW
          have hw1 : IntKind.i64.wrap ((j : Int) + 1) = (j : Int) + 1 := by rw [IntWalk.i64_in _ (by omega)]
          clear hext
          by_cases hu : u = []
          · subst hu
            rw [show flushW s [] o = some o by unfold flushW; rw [if_pos rfl]] at hgoE
            simp only [and_true] at hgoE
            rw [show toB [] = ⟨#[]⟩ from rfl]
            by_cases hk : k = 2
            · have hk2 : ((k : Int) == 2) = true := by rw [hk]; rfl
              have hkH := Lib.hid hk
              clear hk
              by_cases h40 : ch = 40
              · have hc40 : ((ch.toNat : Int) == 40) = true := by rw [h40]; rfl
                have h40H := Lib.hid h40
                clear h40
                rw [show (if (k = 2 ∧ ch = 40) then o ++ [0] else o) = o ++ [0] from if_pos ⟨hkH.out, h40H.out⟩] at hgoE
                rcases hlast with ⟨hje, -⟩ | ⟨hjp, hj1, hjw⟩
                · have hj0 : ((j : Int) == 0) = true := by rw [hje]; rfl
                  clear hje
                  obtain ⟨aO, cO, aN, cN, w', rfl, hrun, hnew⟩ := hd_push hO (by omega) hB.size hB (0) (by unfold inRange; decide)
                  simp only [List.length_append, List.length_singleton] at hgoE
                  by_cases h60 : 60 < o.length + 1
                  · rw [if_pos h60] at hgoE
                    have hr := Lib.hid (show hdRet M w (.returned (.tuple #[.slice none 0 0, .bool false])) w' from .inr ⟨hgoE.symm, rfl, hnew.out.2⟩)
                    have hg1 : decide ((60 : Int) < (o.length : Int) + 1) = true := decide_eq_true (by omega)
                    clear hO hB hgoE
                    (try clear hlast)
                    go_wp2_with (first | (go_at_call 59; (first | (with_reducible refine (hlet _).mono ?_) | (with_reducible refine (hlet2 _).mono ?_)); rintro e w2 ⟨rfl, rfl⟩) | (at_builtin; refine wpList_append_run rfl _ _ _ rfl rfl rfl hrun.out ?_))
                    go_ret2
                    exact hr.out
                  · rw [if_neg h60] at hgoE
                    have hr := Lib.hid (show hdRel s k text M w (.slice aN (o.length + 1) cN) (.string ⟨#[]⟩) (.int .i64 ((j : Int) + 1)) w' from ⟨j + 1, [], o ++ [0], rfl, rfl, hnew.out.1, hnew.out.2, by rw [List.length_append, List.length_singleton]; omega, by decide, .inl ⟨hlt, hgoE, hnext _ (by simp [hW0])⟩⟩)
                    have hg1 : decide ((60 : Int) < (o.length : Int) + 1) = false := decide_eq_false (by omega)
                    clear hO hB hgoE
                    (try clear hlast)
                    go_wp2_with (first | (go_at_call 59; (first | (with_reducible refine (hlet _).mono ?_) | (with_reducible refine (hlet2 _).mono ?_)); rintro e w2 ⟨rfl, rfl⟩) | (at_builtin; refine wpList_append_run rfl _ _ _ rfl rfl rfl hrun.out ?_))
                    go_roundw
                    case rel => exact hr.out
                    case measure => simp [intOf] <;> omega
                · have hjw2 := hjw.1 rfl
                  have hj0 : ((j : Int) == 0) = false := by rw [beq_eq_false_iff_ne]; omega
                  have hw2 : IntKind.i64.wrap ((j : Int) - 1) = (j : Int) - 1 := by rw [IntWalk.i64_in _ (by omega)]
                  have hix2 := str_ix hjp
                  rw [show ((j - 1 : Nat) : Int) = (j : Int) - 1 by omega] at hix2
                  have hjb1 : (0 : Int) ≤ (j : Int) - 1 := by omega
                  have hjb2 : (j : Int) - 1 < (text.size : Int) := by omega
                  obtain ⟨cl, hcl⟩ : ∃ cl, text[j - 1]'hjp = cl := ⟨_, rfl⟩
                  simp only [hcl] at hix2 hjw2
                  have hlet2 := letter_any cl
                  rw [hjw2] at hlet2
                  clear hjw hjw2
                  obtain ⟨aO, cO, aN, cN, w', rfl, hrun, hnew⟩ := hd_push hO (by omega) hB.size hB (0) (by unfold inRange; decide)
                  simp only [List.length_append, List.length_singleton] at hgoE
                  by_cases h60 : 60 < o.length + 1
                  · rw [if_pos h60] at hgoE
                    have hr := Lib.hid (show hdRet M w (.returned (.tuple #[.slice none 0 0, .bool false])) w' from .inr ⟨hgoE.symm, rfl, hnew.out.2⟩)
                    have hg1 : decide ((60 : Int) < (o.length : Int) + 1) = true := decide_eq_true (by omega)
                    clear hO hB hgoE
                    (try clear hlast)
                    go_wp2_with (first | (go_at_call 59; (first | (with_reducible refine (hlet _).mono ?_) | (with_reducible refine (hlet2 _).mono ?_)); rintro e w2 ⟨rfl, rfl⟩) | (at_builtin; refine wpList_append_run rfl _ _ _ rfl rfl rfl hrun.out ?_))
                    go_ret2
                    exact hr.out
                  · rw [if_neg h60] at hgoE
                    have hr := Lib.hid (show hdRel s k text M w (.slice aN (o.length + 1) cN) (.string ⟨#[]⟩) (.int .i64 ((j : Int) + 1)) w' from ⟨j + 1, [], o ++ [0], rfl, rfl, hnew.out.1, hnew.out.2, by rw [List.length_append, List.length_singleton]; omega, by decide, .inl ⟨hlt, hgoE, hnext _ (by simp [hW0])⟩⟩)
                    have hg1 : decide ((60 : Int) < (o.length : Int) + 1) = false := decide_eq_false (by omega)
                    clear hO hB hgoE
                    (try clear hlast)
                    go_wp2_with (first | (go_at_call 59; (first | (with_reducible refine (hlet _).mono ?_) | (with_reducible refine (hlet2 _).mono ?_)); rintro e w2 ⟨rfl, rfl⟩) | (at_builtin; refine wpList_append_run rfl _ _ _ rfl rfl rfl hrun.out ?_))
                    go_roundw
                    case rel => exact hr.out
                    case measure => simp [intOf] <;> omega
              · have hc40 := ne40 h40
                rw [show (if (k = 2 ∧ ch = 40) then o ++ [0] else o) = o from if_neg (fun e => h40 e.2)] at hgoE
                rw [if_neg (show ¬ 60 < o.length by omega)] at hgoE
                obtain ⟨aO, cO, rfl, -⟩ := OwnI.ints hO
                have hg1 : decide ((60 : Int) < (o.length : Int)) = false := decide_eq_false (by omega)
                have hr := Lib.hid (show hdRel s k text M w (.slice aO o.length cO) (.string ⟨#[]⟩) (.int .i64 ((j : Int) + 1)) wr from ⟨j + 1, [], o, rfl, rfl, hO, hB, ho60, by decide, .inl ⟨hlt, hgoE, hnext _ (by simp [hW0])⟩⟩)
                clear hO hB hgoE
                (try clear hlast)
                go_wp2_with (first | (go_at_call 59; (first | (with_reducible refine (hlet _).mono ?_) | (with_reducible refine (hlet2 _).mono ?_)); rintro e w2 ⟨rfl, rfl⟩))
                go_roundw
                case rel => exact hr.out
                case measure => simp [intOf] <;> omega
            · have hk2 : ((k : Int) == 2) = false := by rw [beq_eq_false_iff_ne]; omega
              rw [show (if (k = 2 ∧ ch = 40) then o ++ [0] else o) = o from if_neg (fun e => hk e.1)] at hgoE
              rw [if_neg (show ¬ 60 < o.length by omega)] at hgoE
              obtain ⟨aO, cO, rfl, -⟩ := OwnI.ints hO
              have hg1 : decide ((60 : Int) < (o.length : Int)) = false := decide_eq_false (by omega)
              have hr := Lib.hid (show hdRel s k text M w (.slice aO o.length cO) (.string ⟨#[]⟩) (.int .i64 ((j : Int) + 1)) wr from ⟨j + 1, [], o, rfl, rfl, hO, hB, ho60, by decide, .inl ⟨hlt, hgoE, hnext _ (by simp [hW0])⟩⟩)
              clear hO hB hgoE
              (try clear hlast)
              go_wp2_with (first | (go_at_call 59; (first | (with_reducible refine (hlet _).mono ?_) | (with_reducible refine (hlet2 _).mono ?_)); rintro e w2 ⟨rfl, rfl⟩))
              go_roundw
              case rel => exact hr.out
              case measure => simp [intOf] <;> omega
          · have hUl : (toB u).toList = u := by rw [ByteArray.toList_eq]; rfl
            have hhd := fun W (hb : Below w.heap.size w W) => rhead_any a c s (toB u) W (hH.out.below hb)
            rw [show (toB u).data.toList = u from rfl] at hhd
            have hhd := hhd _ hB
            obtain ⟨U, hU⟩ : ∃ U, toB u = U := ⟨_, rfl⟩
            rw [hU] at hUl hhd ⊢
            have hne : (U.toList == ([] : List UInt8)) = false := by rw [hUl, beq_eq_false_iff_ne]; exact hu
            clear hUl hU
            cases hh : headW s u with
            | none =>
              rw [show flushW s u o = none by unfold flushW; rw [if_neg hu, hh]; rfl] at hgoE
              rw [hh] at hhd
              have hr := Lib.hid (show hdRet M w (.returned (.tuple #[.slice none 0 0, .bool false])) wr from .inr ⟨hgoE.symm, rfl, hB⟩)
              clear hO hB hgoE hh
              (try clear hlast)
              go_wp2_with (first | (go_at_call 59; (first | (with_reducible refine (hlet _).mono ?_) | (with_reducible refine (hlet2 _).mono ?_)); rintro e w2 ⟨rfl, rfl⟩) | (go_at_call 60; (with_reducible refine hhd.mono ?_); rintro e w2 ⟨rfl, rfl⟩))
              go_ret2
              exact hr.out
            | some n =>
              have hnr := headW_rng m1 hh
              rw [show flushW s u o = some (o ++ [n]) by unfold flushW; rw [if_neg hu, hh]; rfl] at hgoE
              rw [hh] at hhd
              clear hh
              simp only [hu, and_false, if_false] at hgoE
              have hjl : ∃ h : j - 1 < text.size, 0 < j ∧ isW (text[j - 1]'h) = true := by
                rcases hlast with ⟨_, e⟩ | ⟨hjp, hj1, hjw⟩
                · exact (hu e).elim
                · refine ⟨hjp, hj1, ?_⟩
                  cases hz : isW (text[j - 1]'hjp) with
                  | true => rfl
                  | false => exact (hu (hjw.2 hz)).elim
              by_cases hk : k = 2
              · have hk2 : ((k : Int) == 2) = true := by rw [hk]; rfl
                have hkH := Lib.hid hk
                clear hk
                by_cases h40 : ch = 40
                · have hc40 : ((ch.toNat : Int) == 40) = true := by rw [h40]; rfl
                  have h40H := Lib.hid h40
                  clear h40
                  obtain ⟨hjp, hj1, hjw⟩ := hjl
                  have hj0 : ((j : Int) == 0) = false := by rw [beq_eq_false_iff_ne]; omega
                  have hw2 : IntKind.i64.wrap ((j : Int) - 1) = (j : Int) - 1 := by rw [IntWalk.i64_in _ (by omega)]
                  have hix2 := str_ix hjp
                  rw [show ((j - 1 : Nat) : Int) = (j : Int) - 1 by omega] at hix2
                  have hjb1 : (0 : Int) ≤ (j : Int) - 1 := by omega
                  have hjb2 : (j : Int) - 1 < (text.size : Int) := by omega
                  obtain ⟨cl, hcl⟩ : ∃ cl, text[j - 1]'hjp = cl := ⟨_, rfl⟩
                  simp only [hcl] at hix2 hjw
                  have hlet2 := letter_any cl
                  rw [hjw] at hlet2
                  clear hjw
                  obtain ⟨aO, cO, aN, cN, w', rfl, hrun, hnew⟩ := hd_push hO (by omega) hB.size hB (n) hnr
                  simp only [List.length_append, List.length_singleton] at hgoE
                  by_cases h60 : 60 < o.length + 1
                  · rw [if_pos h60] at hgoE
                    have hr := Lib.hid (show hdRet M w (.returned (.tuple #[.slice none 0 0, .bool false])) w' from .inr ⟨hgoE.symm, rfl, hnew.out.2⟩)
                    have hg1 : decide ((60 : Int) < (o.length : Int) + 1) = true := decide_eq_true (by omega)
                    clear hO hB hgoE
                    (try clear hlast)
                    go_wp2_with (first | (go_at_call 59; (first | (with_reducible refine (hlet _).mono ?_) | (with_reducible refine (hlet2 _).mono ?_)); rintro e w2 ⟨rfl, rfl⟩) | (go_at_call 60; (with_reducible refine hhd.mono ?_); rintro e w2 ⟨rfl, rfl⟩) | (at_builtin; refine wpList_append_run rfl _ _ _ rfl rfl rfl hrun.out ?_))
                    go_ret2
                    exact hr.out
                  · rw [if_neg h60] at hgoE
                    have hr := Lib.hid (show hdRel s k text M w (.slice aN (o.length + 1) cN) (.string ⟨#[]⟩) (.int .i64 ((j : Int) + 1)) w' from ⟨j + 1, [], o ++ [n], rfl, rfl, hnew.out.1, hnew.out.2, by rw [List.length_append, List.length_singleton]; omega, by decide, .inl ⟨hlt, hgoE, hnext _ (by simp [hW0])⟩⟩)
                    have hg1 : decide ((60 : Int) < (o.length : Int) + 1) = false := decide_eq_false (by omega)
                    clear hO hB hgoE
                    (try clear hlast)
                    go_wp2_with (first | (go_at_call 59; (first | (with_reducible refine (hlet _).mono ?_) | (with_reducible refine (hlet2 _).mono ?_)); rintro e w2 ⟨rfl, rfl⟩) | (go_at_call 60; (with_reducible refine hhd.mono ?_); rintro e w2 ⟨rfl, rfl⟩) | (at_builtin; refine wpList_append_run rfl _ _ _ rfl rfl rfl hrun.out ?_))
                    go_roundw
                    case rel => exact hr.out
                    case measure => simp [intOf] <;> omega
                · have hc40 := ne40 h40
                  clear hjl
                  obtain ⟨aO, cO, aN, cN, w', rfl, hrun, hnew⟩ := hd_push hO (by omega) hB.size hB (n) hnr
                  simp only [List.length_append, List.length_singleton] at hgoE
                  by_cases h60 : 60 < o.length + 1
                  · rw [if_pos h60] at hgoE
                    have hr := Lib.hid (show hdRet M w (.returned (.tuple #[.slice none 0 0, .bool false])) w' from .inr ⟨hgoE.symm, rfl, hnew.out.2⟩)
                    have hg1 : decide ((60 : Int) < (o.length : Int) + 1) = true := decide_eq_true (by omega)
                    clear hO hB hgoE
                    (try clear hlast)
                    go_wp2_with (first | (go_at_call 59; (first | (with_reducible refine (hlet _).mono ?_) | (with_reducible refine (hlet2 _).mono ?_)); rintro e w2 ⟨rfl, rfl⟩) | (go_at_call 60; (with_reducible refine hhd.mono ?_); rintro e w2 ⟨rfl, rfl⟩) | (at_builtin; refine wpList_append_run rfl _ _ _ rfl rfl rfl hrun.out ?_))
                    go_ret2
                    exact hr.out
                  · rw [if_neg h60] at hgoE
                    have hr := Lib.hid (show hdRel s k text M w (.slice aN (o.length + 1) cN) (.string ⟨#[]⟩) (.int .i64 ((j : Int) + 1)) w' from ⟨j + 1, [], o ++ [n], rfl, rfl, hnew.out.1, hnew.out.2, by rw [List.length_append, List.length_singleton]; omega, by decide, .inl ⟨hlt, hgoE, hnext _ (by simp [hW0])⟩⟩)
                    have hg1 : decide ((60 : Int) < (o.length : Int) + 1) = false := decide_eq_false (by omega)
                    clear hO hB hgoE
                    (try clear hlast)
                    go_wp2_with (first | (go_at_call 59; (first | (with_reducible refine (hlet _).mono ?_) | (with_reducible refine (hlet2 _).mono ?_)); rintro e w2 ⟨rfl, rfl⟩) | (go_at_call 60; (with_reducible refine hhd.mono ?_); rintro e w2 ⟨rfl, rfl⟩) | (at_builtin; refine wpList_append_run rfl _ _ _ rfl rfl rfl hrun.out ?_))
                    go_roundw
                    case rel => exact hr.out
                    case measure => simp [intOf] <;> omega
              · have hk2 : ((k : Int) == 2) = false := by rw [beq_eq_false_iff_ne]; omega
                clear hjl
                obtain ⟨aO, cO, aN, cN, w', rfl, hrun, hnew⟩ := hd_push hO (by omega) hB.size hB (n) hnr
                simp only [List.length_append, List.length_singleton] at hgoE
                by_cases h60 : 60 < o.length + 1
                · rw [if_pos h60] at hgoE
                  have hr := Lib.hid (show hdRet M w (.returned (.tuple #[.slice none 0 0, .bool false])) w' from .inr ⟨hgoE.symm, rfl, hnew.out.2⟩)
                  have hg1 : decide ((60 : Int) < (o.length : Int) + 1) = true := decide_eq_true (by omega)
                  clear hO hB hgoE
                  (try clear hlast)
                  go_wp2_with (first | (go_at_call 59; (first | (with_reducible refine (hlet _).mono ?_) | (with_reducible refine (hlet2 _).mono ?_)); rintro e w2 ⟨rfl, rfl⟩) | (go_at_call 60; (with_reducible refine hhd.mono ?_); rintro e w2 ⟨rfl, rfl⟩) | (at_builtin; refine wpList_append_run rfl _ _ _ rfl rfl rfl hrun.out ?_))
                  go_ret2
                  exact hr.out
                · rw [if_neg h60] at hgoE
                  have hr := Lib.hid (show hdRel s k text M w (.slice aN (o.length + 1) cN) (.string ⟨#[]⟩) (.int .i64 ((j : Int) + 1)) w' from ⟨j + 1, [], o ++ [n], rfl, rfl, hnew.out.1, hnew.out.2, by rw [List.length_append, List.length_singleton]; omega, by decide, .inl ⟨hlt, hgoE, hnext _ (by simp [hW0])⟩⟩)
                  have hg1 : decide ((60 : Int) < (o.length : Int) + 1) = false := decide_eq_false (by omega)
                  clear hO hB hgoE
                  (try clear hlast)
                  go_wp2_with (first | (go_at_call 59; (first | (with_reducible refine (hlet _).mono ?_) | (with_reducible refine (hlet2 _).mono ?_)); rintro e w2 ⟨rfl, rfl⟩) | (go_at_call 60; (with_reducible refine hhd.mono ?_); rintro e w2 ⟨rfl, rfl⟩) | (at_builtin; refine wpList_append_run rfl _ _ _ rfl rfl rfl hrun.out ?_))
                  go_roundw
                  case rel => exact hr.out
                  case measure => simp [intOf] <;> omega
      · have hjN : j = text.size := by omega
        subst hjN
        rw [List.drop_of_length_le (by rw [Array.length_toList]; exact Nat.le_refl _), hgo] at hgoE
        have hw1 : IntKind.i64.wrap ((text.size : Int) + 1) = (text.size : Int) + 1 := by rw [IntWalk.i64_in _ (by omega)]
        by_cases hu : u = []
        · subst hu
          rw [show flushW s [] o = some o by unfold flushW; rw [if_pos rfl]] at hgoE
          simp only at hgoE
          rw [if_neg (show ¬ 60 < o.length by omega)] at hgoE
          rw [show toB [] = ⟨#[]⟩ from rfl]
          by_cases hk : k = 2
          · have hk2 : ((k : Int) == 2) = true := by rw [hk]; rfl
            have hkH := Lib.hid hk
            clear hk
            obtain ⟨aO, cO, rfl, -⟩ := OwnI.ints hO
            have hg1 : decide ((60 : Int) < (o.length : Int)) = false := decide_eq_false (by omega)
            have hr := Lib.hid (show hdRel s k text M w (.slice aO o.length cO) (.string ⟨#[]⟩) (.int .i64 ((text.size : Int) + 1)) wr from ⟨text.size + 1, [], o, rfl, rfl, hO, hB, ho60, by decide, .inr ⟨rfl, hgoE.symm⟩⟩)
            clear hO hB hgoE
            (try clear hlast)
            go_wp2_with fail
            go_roundw
            case rel => exact hr.out
            case measure => simp [intOf] <;> omega
          · have hk2 : ((k : Int) == 2) = false := by rw [beq_eq_false_iff_ne]; omega
            obtain ⟨aO, cO, rfl, -⟩ := OwnI.ints hO
            have hg1 : decide ((60 : Int) < (o.length : Int)) = false := decide_eq_false (by omega)
            have hr := Lib.hid (show hdRel s k text M w (.slice aO o.length cO) (.string ⟨#[]⟩) (.int .i64 ((text.size : Int) + 1)) wr from ⟨text.size + 1, [], o, rfl, rfl, hO, hB, ho60, by decide, .inr ⟨rfl, hgoE.symm⟩⟩)
            clear hO hB hgoE
            (try clear hlast)
            go_wp2_with fail
            go_roundw
            case rel => exact hr.out
            case measure => simp [intOf] <;> omega
        · have hUl : (toB u).toList = u := by rw [ByteArray.toList_eq]; rfl
          have hhd := fun W (hb : Below w.heap.size w W) => rhead_any a c s (toB u) W (hH.out.below hb)
          rw [show (toB u).data.toList = u from rfl] at hhd
          have hhd := hhd _ hB
          obtain ⟨U, hU⟩ : ∃ U, toB u = U := ⟨_, rfl⟩
          rw [hU] at hUl hhd ⊢
          have hne : (U.toList == ([] : List UInt8)) = false := by rw [hUl, beq_eq_false_iff_ne]; exact hu
          clear hUl hU
          cases hh : headW s u with
          | none =>
            rw [show flushW s u o = none by unfold flushW; rw [if_neg hu, hh]; rfl] at hgoE
            rw [hh] at hhd
            have hr := Lib.hid (show hdRet M w (.returned (.tuple #[.slice none 0 0, .bool false])) wr from .inr ⟨hgoE.symm, rfl, hB⟩)
            clear hO hB hgoE hh
            (try clear hlast)
            go_wp2_with (first | (go_at_call 60; (with_reducible refine hhd.mono ?_); rintro e w2 ⟨rfl, rfl⟩))
            go_ret2
            exact hr.out
          | some n =>
            have hnr := headW_rng m1 hh
            rw [show flushW s u o = some (o ++ [n]) by unfold flushW; rw [if_neg hu, hh]; rfl] at hgoE
            rw [hh] at hhd
            clear hh
            simp only at hgoE
            by_cases hk : k = 2
            · have hk2 : ((k : Int) == 2) = true := by rw [hk]; rfl
              have hkH := Lib.hid hk
              clear hk
              obtain ⟨aO, cO, aN, cN, w', rfl, hrun, hnew⟩ := hd_push hO (by omega) hB.size hB (n) hnr
              simp only [List.length_append, List.length_singleton] at hgoE
              by_cases h60 : 60 < o.length + 1
              · rw [if_pos h60] at hgoE
                have hr := Lib.hid (show hdRet M w (.returned (.tuple #[.slice none 0 0, .bool false])) w' from .inr ⟨hgoE.symm, rfl, hnew.out.2⟩)
                have hg1 : decide ((60 : Int) < (o.length : Int) + 1) = true := decide_eq_true (by omega)
                clear hO hB hgoE
                (try clear hlast)
                go_wp2_with (first | (go_at_call 60; (with_reducible refine hhd.mono ?_); rintro e w2 ⟨rfl, rfl⟩) | (at_builtin; refine wpList_append_run rfl _ _ _ rfl rfl rfl hrun.out ?_))
                go_ret2
                exact hr.out
              · rw [if_neg h60] at hgoE
                have hr := Lib.hid (show hdRel s k text M w (.slice aN (o.length + 1) cN) (.string ⟨#[]⟩) (.int .i64 ((text.size : Int) + 1)) w' from ⟨text.size + 1, [], o ++ [n], rfl, rfl, hnew.out.1, hnew.out.2, by rw [List.length_append, List.length_singleton]; omega, by decide, .inr ⟨rfl, hgoE.symm⟩⟩)
                have hg1 : decide ((60 : Int) < (o.length : Int) + 1) = false := decide_eq_false (by omega)
                clear hO hB hgoE
                (try clear hlast)
                go_wp2_with (first | (go_at_call 60; (with_reducible refine hhd.mono ?_); rintro e w2 ⟨rfl, rfl⟩) | (at_builtin; refine wpList_append_run rfl _ _ _ rfl rfl rfl hrun.out ?_))
                go_roundw
                case rel => exact hr.out
                case measure => simp [intOf] <;> omega
            · have hk2 : ((k : Int) == 2) = false := by rw [beq_eq_false_iff_ne]; omega
              obtain ⟨aO, cO, aN, cN, w', rfl, hrun, hnew⟩ := hd_push hO (by omega) hB.size hB (n) hnr
              simp only [List.length_append, List.length_singleton] at hgoE
              by_cases h60 : 60 < o.length + 1
              · rw [if_pos h60] at hgoE
                have hr := Lib.hid (show hdRet M w (.returned (.tuple #[.slice none 0 0, .bool false])) w' from .inr ⟨hgoE.symm, rfl, hnew.out.2⟩)
                have hg1 : decide ((60 : Int) < (o.length : Int) + 1) = true := decide_eq_true (by omega)
                clear hO hB hgoE
                (try clear hlast)
                go_wp2_with (first | (go_at_call 60; (with_reducible refine hhd.mono ?_); rintro e w2 ⟨rfl, rfl⟩) | (at_builtin; refine wpList_append_run rfl _ _ _ rfl rfl rfl hrun.out ?_))
                go_ret2
                exact hr.out
              · rw [if_neg h60] at hgoE
                have hr := Lib.hid (show hdRel s k text M w (.slice aN (o.length + 1) cN) (.string ⟨#[]⟩) (.int .i64 ((text.size : Int) + 1)) w' from ⟨text.size + 1, [], o ++ [n], rfl, rfl, hnew.out.1, hnew.out.2, by rw [List.length_append, List.length_singleton]; omega, by decide, .inr ⟨rfl, hgoE.symm⟩⟩)
                have hg1 : decide ((60 : Int) < (o.length : Int) + 1) = false := decide_eq_false (by omega)
                clear hO hB hgoE
                (try clear hlast)
                go_wp2_with (first | (go_at_call 60; (with_reducible refine hhd.mono ?_); rintro e w2 ⟨rfl, rfl⟩) | (at_builtin; refine wpList_append_run rfl _ _ _ rfl rfl rfl hrun.out ?_))
                go_roundw
                case rel => exact hr.out
                case measure => simp [intOf] <;> omega
    · obtain ⟨aO, cO, rfl, -⟩ := OwnI.ints hO
      have hr := Lib.hid (show hdRet M w (.returned (.tuple #[.slice aO o.length cO, .bool true])) wr from .inl ⟨o, _, hMo, rfl, hO, hB⟩)
      clear hO hB hMo
      go_wp2_with fail
      go_ret2
      exact hr.out
end Go.Proofs.YtnhaoalcpbefoaaDoor

/- Walks: lemmaryref03.Read. -/
namespace Go.Proofs.YtnhaoalcpbefoaaDoor
open Go Go.RowKit Go.Maps

theorem findR_no {s : Sg} {k : Nat} {b : List UInt8} (h : hgo s k b [] [] = none) : findR s k b = ([], 2) := by unfold findR; rw [h]
theorem findR_some {s : Sg} {k : Nat} {b : List UInt8} {o : List Int} (h : hgo s k b [] [] = some o) : findR s k b = if okT s o = true ∧ txt k s o = b then (o, 0) else ([], 2) := by unfold findR; rw [h]
set_option maxRecDepth 20000 in
set_option maxHeartbeats 4000000 in
theorem rTRead_any {S1 : Nat → Prop} (a1 : Option Addr) (c1 : Nat) (s : Sg) (k : Int) (text : ByteArray) (w : World) (h1 : Sign S1 w a1 c1 s) :
    Calls Tryd.prog 13 #[.slice a1 s.length c1, .int .i64 k, .string text] w fun e w' => ∃ v, e = .returned (.tuple #[v, .int .i64 (readE s k text.data.toList).2]) ∧ OwnI w' w.heap.size v (readE s k text.data.toList).1 ∧ Below w.heap.size w w' := by
  have m1 := h1.le
  have v1 := Lib.hid (rValidSign_any a1 c1 s w h1)
  have v2 := Lib.hid (fun W => rtongues_any k W)
  cases hx : okSign s with
  | false =>
    rw [hx] at v1
    have hR := Lib.hid (show readE s k text.data.toList = ([], 1) by rw [readE, if_neg (by simp [hx])])
    clear h1 hx
    go_enter Tryd.func13, Tryd.ntmps13
    go_wp2_with fail
    refine v1.out.mono ?_
    rintro e w1 ⟨rfl, hd1⟩
    go_wp2_with fail
    go_ret2
    rw [hR.out]
    exact ⟨_, rfl, OwnL.nil _ _ _ _ _, hd1.below _⟩
  | true =>
  rw [hx] at v1
  cases hm : (decide (1 ≤ k) && decide (k ≤ 3)) with
  | false =>
    rw [hm] at v2
    have hR := Lib.hid (show readE s k text.data.toList = ([], 7) by rw [readE, if_pos hx, if_neg (by simp [hm])])
    clear h1 hx hm
    go_enter Tryd.func13, Tryd.ntmps13
    go_wp2_with fail
    refine v1.out.mono ?_
    rintro e w1 ⟨rfl, hd1⟩
    go_wp2_with fail
    refine (v2.out _).mono ?_
    rintro e w2 ⟨rfl, rfl⟩
    go_wp2_with fail
    go_ret2
    rw [hR.out]
    exact ⟨_, rfl, OwnL.nil _ _ _ _ _, hd1.below _⟩
  | true =>
  rw [hm] at v2
  have hsz : text.data.toList.length = text.size := by rw [Array.length_toList]; rfl
  by_cases h65 : text.size ≤ 65536
  · have hR0 : readE s k text.data.toList = findR s k.toNat text.data.toList := by rw [readE, if_pos hx, if_pos hm, if_pos (by rw [hsz]; exact h65)]
    have hk : 1 ≤ k ∧ k ≤ 3 := by simpa using hm
    obtain ⟨n, rfl⟩ : ∃ n : Nat, k = (n : Int) := ⟨k.toNat, by omega⟩
    rw [Int.toNat_natCast] at hR0
    rw [hR0]
    have hgt : decide ((65536 : Int) < (text.size : Int)) = false := decide_eq_false (by omega)
    have h1H := Lib.hid h1
    have hd := Lib.hid (fun W (hb : Below w.heap.size w W) => rheads_any a1 c1 s n text W (h1.below hb) h65)
    have hnk : n = 1 ∨ n = 2 ∨ n = 3 := by omega
    have hnH := Lib.hid hnk
    have hxH := Lib.hid hx
    clear h1 hx hm hR0 hsz hk hnk
    go_enter Tryd.func13, Tryd.ntmps13
    go_wp2_with fail
    refine v1.out.mono ?_
    rintro e w1 ⟨rfl, hd1⟩
    have hb1 := Lib.hid (hd1.below w.heap.size)
    clear hd1
    go_wp2_with fail
    refine (v2.out _).mono ?_
    rintro e w2 ⟨rfl, rfl⟩
    go_wp2_with fail
    (with_reducible refine (hd.out _ hb1.out).mono ?_)
    rintro e w3 (⟨o, v, hM, rfl, hO, hb3⟩ | ⟨hM, rfl, hb3⟩)
    · have hFH := Lib.hid (findR_some hM)
      obtain ⟨aO, cO, rfl, hI⟩ := OwnI.ints hO
      have hB3 := bcall hb1.out hb3
      have vv := rValid_any a1 aO c1 cO s o w3 (h1H.out.below hB3) hI
      have hOH := Lib.hid (OwnL.baseMono hO hb1.out.size)
      have hIH := Lib.hid hI
      have hB3H := Lib.hid hB3
      cases hok : okT s o with
      | false =>
        rw [hok] at vv
        have hokH := Lib.hid hok
        clear hO hI hM hb3 hB3 hok
        go_wp2_with (first | (go_at_call 26; (with_reducible refine vv.mono ?_); rintro e w4 ⟨rfl, hd4⟩))
        go_ret2
        rw [hFH.out, if_neg (by simp [hokH.out])]
        exact ⟨_, rfl, OwnL.nil _ _ _ _ _, bcall hB3H.out (hd4.below _)⟩
      | true =>
        rw [hok] at vv
        have hokH := Lib.hid hok
        obtain ⟨hs, -, hl, hsk⟩ := okT_parts hok
        have hpt : partAt s (o.drop 0) = o := by
          rw [List.drop_zero]; unfold partAt; rw [hsk]; simp
        have ct := Lib.hid (fun W (hb : Below w3.heap.size w3 W) => (show Calls Tryd.prog 28 #[.slice a1 s.length c1, .int .i64 n, .slice aO o.length cO, .int .i64 0] W (toldRet W (txt n s o)) by
          have := rtold_any n hnH.out a1 aO c1 cO s o hs hl o.length 0 [] W (Nat.sub_le _ _) hsk (h1H.out.below (bcall hB3H.out hb)) (hIH.out.below hb)
          rw [hpt] at this
          exact this))
        have hOL := Lib.hid (fun W (hb : Below w3.heap.size w3 W) => OwnL.call hOH.out hb)
        by_cases hte : txt n s o = text.data.toList
        · have hte2 : toB (txt n s o) = text := by rw [hte]; exact ba_ext3 rfl
          have hteH := Lib.hid hte
          have ct2 := Lib.hid (fun W hb => (ct.out W hb).mono fun e w' (h : toldRet W (txt n s o) e w') => (show e = .returned (.string text) ∧ Below W.heap.size W w' from hte2 ▸ h))
          clear hO hI hM hb3 hB3 hok hs hl hsk hpt hte hte2 ct
          go_wp2_with (first | (go_at_call 26; (with_reducible refine vv.mono ?_); rintro e w4 ⟨rfl, hd4⟩; have hb4 := Lib.hid (hd4.below w3.heap.size); clear hd4) | (go_at_call 28; (with_reducible refine (ct2.out _ hb4.out).mono ?_); rintro e w5 ⟨rfl, hb5⟩; have hb5H := Lib.hid (bcall hb4.out hb5); clear hb5))
          go_ret2
          rw [hFH.out, if_pos ⟨hokH.out, hteH.out⟩]
          exact ⟨_, rfl, hOL.out _ hb5H.out, bcall hB3H.out hb5H.out⟩
        · obtain ⟨Y, hY⟩ : ∃ Y, toB (txt n s o) = Y := ⟨_, rfl⟩
          have hyl : (Y.toList == text.toList) = false := by
            rw [ByteArray.toList_eq, ByteArray.toList_eq, beq_eq_false_iff_ne, ← hY]
            exact hte
          have hteH := Lib.hid hte
          have ct2 := Lib.hid (fun W hb => (ct.out W hb).mono fun e w' (h : toldRet W (txt n s o) e w') => (show e = .returned (.string Y) ∧ Below W.heap.size W w' from hY ▸ h))
          clear hO hI hM hb3 hB3 hok hs hl hsk hpt hte hY ct
          go_wp2_with (first | (go_at_call 26; (with_reducible refine vv.mono ?_); rintro e w4 ⟨rfl, hd4⟩; have hb4 := Lib.hid (hd4.below w3.heap.size); clear hd4) | (go_at_call 28; (with_reducible refine (ct2.out _ hb4.out).mono ?_); rintro e w5 ⟨rfl, hb5⟩; have hb5H := Lib.hid (bcall hb4.out hb5); clear hb5))
          go_ret2
          rw [hFH.out, if_neg (fun e => hteH.out e.2)]
          exact ⟨_, rfl, OwnL.nil _ _ _ _ _, bcall hB3H.out hb5H.out⟩
    · have hFH := Lib.hid (findR_no hM)
      have hB3H := Lib.hid (bcall hb1.out hb3)
      clear hM hb3
      go_wp2_with fail
      go_ret2
      rw [hFH.out]
      exact ⟨_, rfl, OwnL.nil _ _ _ _ _, hB3H.out⟩
  · have hR := Lib.hid (show readE s k text.data.toList = ([], 3) by rw [readE, if_pos hx, if_pos hm, if_neg (by rw [hsz]; exact h65)])
    have hgt : decide ((65536 : Int) < (text.size : Int)) = true := decide_eq_true (by omega)
    clear h1 hx hm hsz h65
    go_enter Tryd.func13, Tryd.ntmps13
    go_wp2_with fail
    refine v1.out.mono ?_
    rintro e w1 ⟨rfl, hd1⟩
    go_wp2_with fail
    refine (v2.out _).mono ?_
    rintro e w2 ⟨rfl, rfl⟩
    go_wp2_with fail
    go_ret2
    rw [hR.out]
    exact ⟨_, rfl, OwnL.nil _ _ _ _ _, hd1.below _⟩
end Go.Proofs.YtnhaoalcpbefoaaDoor

/- Walks: the iterator over the parts of a term. -/
import Derived.Test.YtjiffkpgadjodaaWalkZ
import Derived.Test.YtjiffkpgadjodaaWalkN
import Derived.Test.YtjiffkpgadjodaaWalkX
import Derived.Test.YtjiffkpgadjodaaLeaves
import Derived.Test.YtjiffkpgadjodaaMath9
namespace Go.Proofs.Ytjiffkpgadjodaa
open Go Go.RowKit Go.Shelf

attribute [local go_sem] Oper.semAt_some

theorem RoundIn.wideAny {m m' : Nat} {P : Program} {l : Nat} {f : FuncId} {tmps : Array Value} {assign body : Code} {w : World} {R : Ending → World → Prop}
    (h : RoundIn Fence.wide m P l f tmps assign body w R) : RoundIn Fence.wide m' P l f tmps assign body w R := ⟨h.1, fun c cs _ => h.2 c cs (room_wide _)⟩
theorem YieldAt.wideAny {m : Nat} (m' : Nat) {P : Program} {l : Nat} {args : Array Value} {W : World} {R : Ending → World → Prop} (h : YieldAt Fence.wide m P l args W R) : YieldAt Fence.wide m' P l args W R := by
  obtain ⟨fn, tmps, assign, body, hy, hR⟩ := h
  exact ⟨fn, tmps, assign, body, hy, RoundIn.wideAny hR⟩

/-- a path and a part, as they are handed over -/
structure El where
  ap : Option Addr
  cp : Nat
  p : List Int
  au : Option Addr
  cu : Nat
  u : List Int
def El.enc (x : El) : Array Value := #[.slice x.ap x.p.length x.cp, .slice x.au x.u.length x.cu]
def El.pt (x : El) : List Int × List Int := (x.p, x.u)
def ElR (x : El) (W : World) : Prop := Ints (fun _ => True) W x.ap x.cp x.p ∧ Ints (fun _ => True) W x.au x.cu x.u ∧ x.p.length ≤ 60 ∧ x.u.length ≤ 60

/-- append of a number to a list that is full -/
theorem app_full {S : Nat → Prop} {w : World} {a : Option Addr} {l : List Int} (h : Ints S w a l.length l) (hn : l = [] → a = none) (x : Int) (hx : inRange x) (hl : l.length ≤ 1000) :
    ∃ v w', RowKit.Hid (runApp (.slice a l.length l.length) (.slice (some ⟨w.heap.size, 0, none⟩) 1 1) (w.alloc (.cells #[.int .i64 x] 3)) = .ok v w') ∧ RowKit.Hid (OwnI w' w.heap.size v (l ++ [x])) ∧ RowKit.Hid (Below w.heap.size w w') := by
  have hb1 := below1 w (.cells #[.int .i64 x] 3)
  have hI := lit1 (w := w) x hx
  by_cases hne : l = []
  · subst hne
    obtain rfl := hn rfl
    obtain ⟨v, w', r, o, -, b⟩ := app24 (base := w.heap.size) (OwnL.nil intE (fun _ => False) _ _ 3) hI (by simp) hb1.size
    exact ⟨v, w', Lib.hid r, Lib.hid o, Lib.hid (hb1.trans b)⟩
  · obtain ⟨i, hi, hz0, hz1, hz2⟩ := info_parts infoInt
    have h' := h.below hb1
    obtain ⟨b, off, rfl, -, -, hc⟩ := h'.dat hne
    obtain ⟨v, w', r, o, g⟩ := run_append_arg_grows (P := Try.prog) (w.alloc (.cells #[.int .i64 x] 3)) 24 24 3 i (.int .i64 0) 1 8 Try.underlying24 hi hz0 hz1 hz2 rfl (by decide)
      ⟨b, off, none⟩ l.length l.length (l.map (.int .i64)) (by simp) (fun j u hu => by
        rw [List.getElem?_map] at hu
        cases hj : l[j]? with
        | none => rw [hj] at hu; cases hu
        | some y =>
          rw [hj] at hu
          cases hu
          obtain ⟨hjl, rfl⟩ := List.getElem?_eq_some_iff.1 hj
          obtain ⟨b2, off2, he, -, q, -⟩ := h'.int j hjl
          cases he
          rw [Addr.add_lit]; exact q)
      ⟨w.heap.size, 0, none⟩ 1 1 [.int .i64 x] (by simp) (fun j u hu => by
        cases j with
        | zero => cases hu; rw [Addr.add_lit, World.cell?_alloc_at _ _ _ _ rfl]; rfl
        | succ j => simp at hu) (by omega) (by unfold maxLen; omega) (by omega)
    rw [World.size_alloc] at o
    refine ⟨v, w', Lib.hid r, Lib.hid ((OwnL.of_row (S := fun _ => False) (l := l ++ [x]) (by simpa using o) (fun y hy => ?_)).baseMono (Nat.le_succ _)), Lib.hid (hb1.trans ((Below.refl _ _).grown g (by simp) (fun k e => by cases e)))⟩
    rcases List.mem_append.1 hy with h6 | h6
    · exact h.rng y h6
    · simp at h6; rw [h6]; exact hx

/-- what lies in memory while the parts are told -/
structure PB (B0 l yb sb wb : Nat) (a1 : Option Addr) (c1 : Nat) (s : Sg) (W : World) : Prop where
  row : RowLt B0 W
  cy : W.cell? ⟨yb, 0, none⟩ = some (.func (.yield l) #[] #[])
  ys : Safe B0 W yb
  cs : W.cell? ⟨sb, 0, none⟩ = some (.slice a1 s.length c1)
  ss : Safe B0 W sb
  cw : W.cell? ⟨wb, 0, none⟩ = some (.func (.func 33) #[] #[.pointer (some ⟨yb, 0, none⟩), .pointer (some ⟨sb, 0, none⟩), .pointer (some ⟨wb, 0, none⟩)])
  ws : Safe B0 W wb
  sg : Sign (Safe B0 W) W a1 c1 s
theorem PB.leaves {B0 l yb sb wb : Nat} {a1 : Option Addr} {c1 : Nat} {s : Sg} {W W' : World} (h : PB B0 l yb sb wb a1 c1 s W) (k : Leaves B0 W W') : PB B0 l yb sb wb a1 c1 s W' :=
  ⟨k.lt h.row, k.cell h.ys h.cy, k.safe h.ys, k.cell h.ss h.cs, k.safe h.ss, k.cell h.ws h.cw, k.safe h.ws, k.sl h.sg⟩

def pwRel (s : Sg) (f : Nat) (p u : List Int) (m B0 : Nat) (J : List El → World → Prop) (pre : List El) (W2 : World) (i : Value) (wr : World) : Prop :=
  ∃ (k : Nat) (ys : List El), i = .int .i64 k ∧ k ≤ m ∧ ys.map El.pt = PK s f p u k ∧ J (pre ++ ys) wr ∧ Leaves B0 W2 wr
set_option maxRecDepth 100000 in
set_option maxHeartbeats 8000000 in
theorem partsWalk_in (l yb sb wb B0 N : Nat) (a1 : Option Addr) (c1 : Nat) (s : Sg) (J Jx : List El → World → Prop) (hab : ∀ pre W W', J pre W → Below W.heap.size W W' → J pre W')
    (hY : ∀ m pre x W, J pre W → ElR x W → pre.length < N → YieldAt Fence.wide m Try.prog l x.enc W fun e W' => (e = .returned (.bool true) ∧ J (pre ++ [x]) W' ∧ Leaves B0 W W') ∨ (e = .returned (.bool false) ∧ Jx (pre ++ [x]) W' ∧ Leaves B0 W W')) :
    ∀ (f n : Nat) (u p : List Int) (ap au : Option Addr) (cp cu : Nat) (pre : List El) (W : World), okT s u = true → u.length ≤ f → p.length + u.length ≤ 60 → PB B0 l yb sb wb a1 c1 s W → Ints (Safe B0 W) W ap cp p → (p = [] → ap = none) → Ints (Safe B0 W) W au cu u → J pre W → pre.length + u.length ≤ N →
      CallsIn Fence.wide n Try.prog 33 #[.slice ap p.length cp, .slice au u.length cu, .pointer (some ⟨yb, 0, none⟩), .pointer (some ⟨sb, 0, none⟩), .pointer (some ⟨wb, 0, none⟩)] W fun e W' =>
        (e = .returned (.bool true) ∧ ∃ ys : List El, ys.map El.pt = (PL s f u).map (fun e => (p ++ e.1, e.2)) ∧ J (pre ++ ys) W' ∧ Leaves B0 W W') ∨ (e = .returned (.bool false) ∧ (∃ q, Jx q W') ∧ Leaves B0 W W')
  | 0, n, u, p, ap, au, cp, cu, pre, W, hok, hf, _, _, _, _, _, _, _ => by have := (okT_parts hok).2.1; omega
  | f + 1, n, u, p, ap, au, cp, cu, pre, W, hok, hf, h60, hPB, hp, hpn, hu, hJ, hN => by
    have hro : Fence.wide.round = none := rfl
    have m1 := hp.cap
    have m2 := hp.max
    unfold big at m2
    have m3 := hu.le
    have h1u := (okT_parts hok).2.1
    have hspec := argsT_spec hok
    have hy0 := hY (n - 1) pre ⟨ap, cp, p, au, cu, u⟩ W hJ ⟨hp.any, hu.any, by simp only; omega, by simp only; omega⟩ (by omega)
    obtain ⟨fn, tmps, assign, body, hy, hR⟩ := hy0
    dsimp only [El.enc] at hy
    have hc1 := hPB.cy
    have ih := partsWalk_in l yb sb wb B0 N a1 c1 s J Jx hab hY f
    obtain ⟨L, hL⟩ : ∃ L, argsT s u = L := ⟨_, rfl⟩
    have ihH := Lib.hid ih
    have hokH := Lib.hid hok
    have hYH := Lib.hid hY
    have habH := Lib.hid hab
    have hspecH := Lib.hid hspec
    have hpnH := Lib.hid hpn
    have hLH := Lib.hid hL
    have hNH := Lib.hid hN
    have hpK := Lib.hid hp
    have huK := Lib.hid hu
    have hPBK := Lib.hid hPB
    clear ih hok hY hab hspec hpn hL hN hp hu hPB hJ
    refine callsIn_of_wp Try.func33 rfl trivial ?_ hro
    simp only [Try.ntmps33, List.size_toArray, List.length_cons, List.length_nil, Nat.reduceAdd, Nat.reduceSub, Array.replicate_succ, Array.replicate_zero, List.push_toArray, List.append_toArray, List.nil_append, List.cons_append]
    gi_wp2
    refine ⟨fun h => (by cases h), ?_⟩
    refine hR.mono ?_
    clear hR hy
    rintro e W1 (⟨rfl, hJ1, hk1⟩ | ⟨rfl, hJx1, hk1⟩)
    · have hP1 := hPBK.out.leaves hk1
      have ca := args_in a1 au c1 cu s u W1 hP1.sg (hk1.sl huK.out) hokH.out
      have hcs := hP1.cs
      rw [hLH.out] at ca
      have caH := Lib.hid ca
      have hP1H := Lib.hid hP1
      have hJ1H := Lib.hid hJ1
      clear ca hP1 hJ1 hc1
      gi_wp2_with fail
      refine ⟨trivial, fun h => (by cases h), (callsIn_wide.2 caH.out).mono ?_⟩
      rintro e W2 ⟨v, rfl, ho, hb2⟩
      obtain ⟨a4, c4, rfl, hT0⟩ := ho.sl
      clear ho caH
      have mT := hT0.le
      gi_wp2_with fail
      have hk2 : Leaves B0 W1 W2 := .of_below hP1H.out.row.1 hb2
      have hT : Terms (Safe B0 W2) W2 a4 c4 L := (Terms.cellsAt hT0).weak (fun b hb => by
        rcases hb.1 with h6 | h6
        · exact .fresh hP1H.out.row hb2 h6 hb.2
        · exact hk2.safe h6.1)
      have hJ2 := habH.out _ _ _ hJ1H.out hb2
      have hP2H := Lib.hid (hP1H.out.leaves hk2)
      have hp2H := Lib.hid (hk2.sl (hk1.sl hpK.out))
      have hTH := Lib.hid hT
      have hkH := Lib.hid (hk1.trans hk2)
      have hJ2H := Lib.hid hJ2
      clear hT hT0 hJ2 hJ1H hP1H hk1 hk2 hb2 hcs hPBK hpK huK
      gi_loopw [19] (fun i wr => pwRel s f p u L.length B0 J pre W2 i wr) (fun i _ => L.length - (intOf i).toNat)
      case atStart => exact ⟨0, [⟨ap, cp, p, au, cu, u⟩], rfl, Nat.zero_le _, by rw [PK_zero]; rfl, hJ2H.out, .refl _ _⟩
      case round =>
        obtain ⟨k, ys, rfl, hk, hys, hJs, hlv⟩ := hrel
        have hysH := Lib.hid hys
        have hJsH := Lib.hid hJs
        have hlvH := Lib.hid hlv
        clear hys hJs hlv
        by_cases hkL : k < L.length
        · obtain ⟨b, o, au', cu', rfl, hSb, q1, hIa⟩ := (hlvH.out.sl hTH.out).sub k hkL
          have hP3 := hP2H.out.leaves hlvH.out
          have hcw := hP3.cw
          have hP3H := Lib.hid hP3
          have hIaH := Lib.hid hIa
          have hSbH := Lib.hid hSb
          clear hP3 hIa hSb
          have hua : okT s L[k] = true := hspecH.out.2.2 _ (by rw [hLH.out]; exact List.getElem_mem hkL)
          have hfl : 1 + L.flatten.length = u.length := by
            have h6 := congrArg List.length hspecH.out.2.1
            rw [hLH.out, List.length_cons] at h6; omega
          have hle : (L.take k).flatten.length + L[k].length ≤ L.flatten.length := by
            have := take_flatten_succ hkL
            have := len_take_flatten (L := L) (q := k + 1); omega
          have hyl : ys.length = 1 + (L.take k).flatten.length := by
            have h6 := congrArg List.length hysH.out
            rw [List.length_map, PK_len hokH.out (by omega), hLH.out] at h6; exact h6
          have hpp := (hlvH.out.sl hp2H.out)
          have hpf : Ints (Safe B0 wr) wr ap p.length p := ⟨Nat.le_refl _, by unfold big; omega, fun e => ⟨(hpp.nil e).1, by rw [(hpp.nil e).1]; rfl⟩, hpp.dat⟩
          have hkr : inRange (k : Int) := by unfold inRange; omega
          obtain ⟨v5, w4, r1, o5, b5⟩ := app_full (w := wr.drew) (hpf.same (fun _ _ _ => rfl)) hpnH.out (k : Int) hkr (by omega)
          have hBd : Below wr.heap.size wr wr.drew := (Below.refl _ _).drew
          have hb4 : Below wr.heap.size wr w4 := hBd.trans b5.out
          obtain ⟨a5, c5, rfl, hI5⟩ := OwnI.ints o5.out
          have hl4 : Leaves B0 wr w4 := .of_below hP3H.out.row.1 hb4
          have hI5s : Ints (Safe B0 w4) w4 a5 c5 (p ++ [(k : Int)]) := (Ints.cellsAt hI5).weak (fun b hb => .fresh hP3H.out.row hb4 hb.1 hb.2)
          have hcall := ihH.out 0 L[k] (p ++ [(k : Int)]) a5 au' c5 cu' (pre ++ ys) w4 hua (by omega) (by simp; omega) (hP3H.out.leaves hl4) hI5s (fun e => by simp at e) (hl4.sl hIaH.out) (habH.out _ _ _ hJsH.out hb4) (by have := hNH.out; simp; omega)
          rw [show (p ++ [(k : Int)]).length = p.length + 1 from by simp] at hcall
          have hcallH := Lib.hid (callsIn_wide.1 hcall)
          have hC4 : w4.cell? ⟨wb, 0, none⟩ = wr.cell? ⟨wb, 0, none⟩ := World.cell?_of_block (w := wr) (hb4.block wb hP3H.out.ws.2.2.lt)
          rw [hcw] at hC4
          have hl4H := Lib.hid hl4
          clear hcall hI5s hI5 hpf hpp hBd hle hyl hfl hua o5 b5 hl4 hb4
          gi_wp2
          refine wpIn_wide.2 ?_
          refine wp_region_held_drew (S := fun w' => w'.cell? ⟨wb, 0, none⟩ = some (.func (.func 33) #[] #[.pointer (some ⟨yb, 0, none⟩), .pointer (some ⟨sb, 0, none⟩), .pointer (some ⟨wb, 0, none⟩)])) (by kernel_rfl) hcw (fun hS => ?_)
          refine region_take 0 (some 24) (v := ?_) rfl rfl (by kernel_rfl) (by kernel_rfl) (by kernel_rfl) (fun _ _ _ h => h) rfl ?_ hS ?_
          rotate_left
          · (intro w9 hS9; go_simp; try (with_reducible rfl))
          simp only [Act.put, List.setIfInBounds_toArray, List.set_cons_zero, List.set_cons_succ]
          refine region_take 1 (some 25) (v := ?_) rfl rfl (by kernel_rfl) (by kernel_rfl) (by kernel_rfl) (fun _ _ _ h => h) rfl ?_ hS ?_
          rotate_left
          · (intro w9 hS9; go_simp; try (with_reducible rfl))
          simp only [Act.put, List.setIfInBounds_toArray, List.set_cons_zero, List.set_cons_succ]
          refine region_take 2 (some 26) (v := ?_) rfl rfl (by kernel_rfl) (by kernel_rfl) (by kernel_rfl) (fun _ _ _ h => h) rfl ?_ hS ?_
          rotate_left
          · (intro w9 hS9; go_simp; try (with_reducible rfl))
          simp only [Act.put, List.setIfInBounds_toArray, List.set_cons_zero, List.set_cons_succ]
          refine region_take 3 (some 27) (v := ?_) rfl rfl (by kernel_rfl) (by kernel_rfl) (by kernel_rfl) (fun _ _ _ h => h) rfl ?_ hS ?_
          rotate_left
          · (intro w9 hS9; go_simp; try (with_reducible rfl))
          simp only [Act.put, List.setIfInBounds_toArray, List.set_cons_zero, List.set_cons_succ]
          refine region_take 4 (some 28) (v := ?_) rfl rfl (by kernel_rfl) (by kernel_rfl) (by kernel_rfl) (fun _ _ _ h => h) rfl ?_ hS ?_
          rotate_left
          · (intro w9 hS9; go_simp; try (with_reducible rfl))
          simp only [Act.put, List.setIfInBounds_toArray, List.set_cons_zero, List.set_cons_succ]
          refine region_take 5 (some 29) (v := ?_) rfl rfl (by kernel_rfl) (by kernel_rfl) (by kernel_rfl) (fun _ _ _ h => h) rfl ?_ hS ?_
          rotate_left
          · (intro w9 hS9; go_simp; try (with_reducible rfl))
          simp only [Act.put, List.setIfInBounds_toArray, List.set_cons_zero, List.set_cons_succ]
          refine region_take 6 (some 30) (v := ?_) rfl rfl (by kernel_rfl) (by kernel_rfl) (by kernel_rfl) (fun _ _ _ h => h) rfl ?_ hS ?_
          rotate_left
          · (intro w9 hS9; go_simp; try (with_reducible rfl))
          simp only [Act.put, List.setIfInBounds_toArray, List.set_cons_zero, List.set_cons_succ]
          refine region_take 7 (some 31) (v := ?_) rfl rfl (by kernel_rfl) (by kernel_rfl) (by kernel_rfl) (fun _ _ _ h => h) rfl ?_ hS ?_
          rotate_left
          · (intro w9 hS9; go_simp; try (with_reducible rfl))
          simp only [Act.put, List.setIfInBounds_toArray, List.set_cons_zero, List.set_cons_succ]
          refine region_take 10 (some 34) (v := ?_) rfl rfl (by kernel_rfl) (by kernel_rfl) (by kernel_rfl) (fun _ _ _ h => h) rfl ?_ hS ?_
          rotate_left
          · (intro w9 hS9; go_simp; try (with_reducible rfl))
          simp only [Act.put, List.setIfInBounds_toArray, List.set_cons_zero, List.set_cons_succ]
          refine region_call 8 rfl (by kernel_rfl) (fun K hK => ?_)
          go_simp
          refine hK.out _ _ (cell_later (below1 wr _).drew hcw) ?_
          clear hK hS
          intro hS
          refine region_call 9 rfl (by kernel_rfl) (fun K hK => ?_)
          refine ite_yes rfl ?_
          refine oper_append_run (.tmp 30) (.tmp 32) _ rfl rfl rfl r1.out ?_
          refine hK.out _ _ hC4 ?_
          clear hK hS
          intro hS
          refine region_call 11 rfl (by kernel_rfl) (fun K hK => ?_)
          go_simp
          (with_reducible refine hcallH.out.mono ?_)
          rintro e W5 (⟨rfl, ys2, hy2, hJ5, hl5⟩ | ⟨rfl, hx5, hl5⟩)
          · refine hK.out _ _ (hl5.cell (hl4H.out.safe hP3H.out.ws) hC4) ?_
            clear hK hS
            intro hS
            refine region_take 12 (some 36) (v := ?_) rfl rfl (by kernel_rfl) (by kernel_rfl) (by kernel_rfl) (fun _ _ _ h => h) rfl ?_ hS ?_
            rotate_left
            · (intro w9 hS9; go_simp; try (with_reducible rfl))
            simp only [Act.put, List.setIfInBounds_toArray, List.set_cons_zero, List.set_cons_succ]
            refine wpAnyH_done (by kernel_rfl) ?_ _
            gi_wp2
            go_roundw
            case rel => exact ⟨k + 1, ys ++ ys2, by go_num, by omega, by rw [PK_succ (by rw [hLH.out]; exact hkL), List.map_append, hysH.out, hy2]; simp only [hLH.out], by rw [← List.append_assoc]; exact hJ5, hlvH.out.trans (hl4H.out.trans hl5)⟩
            case measure => simp [intOf]; omega
          · refine hK.out _ _ (hl5.cell (hl4H.out.safe hP3H.out.ws) hC4) ?_
            clear hK hS
            intro hS
            refine region_take 12 (some 36) (v := ?_) rfl rfl (by kernel_rfl) (by kernel_rfl) (by kernel_rfl) (fun _ _ _ h => h) rfl ?_ hS ?_
            rotate_left
            · (intro w9 hS9; go_simp; try (with_reducible rfl))
            simp only [Act.put, List.setIfInBounds_toArray, List.set_cons_zero, List.set_cons_succ]
            refine wpAnyH_done (by kernel_rfl) ?_ _
            gi_wp2
            go_ret
            exact .inr ⟨rfl, hx5, hkH.out.trans (hlvH.out.trans (hl4H.out.trans hl5))⟩
        · obtain rfl : k = L.length := by omega
          gi_wp2
          go_ret
          have hys := hysH.out
          rw [PK_all (by rw [hLH.out]; exact Nat.le_refl _)] at hys
          exact .inl ⟨rfl, ys, hys, hJsH.out, hkH.out.trans hlvH.out⟩
    · clear hc1
      gi_wp2
      go_ret
      exact .inr ⟨rfl, ⟨_, hJx1⟩, hk1⟩
end Go.Proofs.Ytjiffkpgadjodaa

/- The proof of a statement, some of its texts joined in build order: part X. -/
import Derived.Shelf.Sort.Plain
import Derived.Shelf.Slices.CompactI
import Derived.Shelf.Slices.In.SortNone
import Derived.Test.YtfcbdlfanmddbaaGreatDoorWalkA
import Derived.Test.YtfcbdlfanmddbaaGreatDoorMsN
import Derived.Test.YtfcbdlfanmddbaaGreatDoorWalkF
import Derived.Lib.OwnBridge
import Derived.Test.YtfcbdlfanmddbaaGreatDoorMsA
import Derived.Test.YtfcbdlfanmddbaaGreatDoorMsT
/- The library's contracts of slices.Sort and slices.Compact at numbers, laid at the program (by the shelf's plain mode, numbers by name). -/
namespace Go.Proofs.YtfcbdlfanmddbaaGreatDoor
open Go Go.RowKit Go.Shelf

def sh189_ren : Go.Shelf.Ren := ⟨fun | 189 => 94 | 125 => 129 | 257 => 128 | 128 => 173 | 129 => 174 | 294 => 164 | 295 => 165 | 296 => 166 | 297 => 167 | 298 => 168 | 299 => 169 | 216 => 170 | 300 => 171 | 301 => 172 | 328 => 199 | 329 => 200 | 330 => 201 | 331 => 202 | 332 => 203 | 215 => 204 | 343 => 223 | n => n, fun | 28 => 33 | 3 => 3 | 46 => 150 | 0 => 0 | 51 => 199 | 53 => 201 | 4 => 4 | 183 => 192 | 182 => 191 | 131 => 95 | 5 => 5 | 9 => 9 | 218 => 225 | 222 => 229 | 228 => 247 | 229 => 122 | n => n, fun n => n⟩
theorem sh189 : Go.Proofs.Lays.n189 Tryz.prog sh189_ren := {
  mixed := by kernel_rfl
  f125 := Tryz.func129.trans (congrArg some (by kernel_rfl))
  f128 := Tryz.func173.trans (congrArg some (by kernel_rfl))
  f129 := Tryz.func174.trans (congrArg some (by kernel_rfl))
  f189 := Tryz.func94.trans (congrArg some (by kernel_rfl))
  f215 := Tryz.func204.trans (congrArg some (by kernel_rfl))
  f216 := Tryz.func170.trans (congrArg some (by kernel_rfl))
  f257 := Tryz.func128.trans (congrArg some (by kernel_rfl))
  f294 := Tryz.func164.trans (congrArg some (by kernel_rfl))
  f295 := Tryz.func165.trans (congrArg some (by kernel_rfl))
  f296 := Tryz.func166.trans (congrArg some (by kernel_rfl))
  f297 := Tryz.func167.trans (congrArg some (by kernel_rfl))
  f298 := Tryz.func168.trans (congrArg some (by kernel_rfl))
  f299 := Tryz.func169.trans (congrArg some (by kernel_rfl))
  f300 := Tryz.func171.trans (congrArg some (by kernel_rfl))
  f301 := Tryz.func172.trans (congrArg some (by kernel_rfl))
  f328 := Tryz.func199.trans (congrArg some (by kernel_rfl))
  f329 := Tryz.func200.trans (congrArg some (by kernel_rfl))
  f330 := Tryz.func201.trans (congrArg some (by kernel_rfl))
  f331 := Tryz.func202.trans (congrArg some (by kernel_rfl))
  f332 := Tryz.func203.trans (congrArg some (by kernel_rfl))
  f343 := Tryz.func223.trans (congrArg some (by kernel_rfl))
  t0 := Tryz.underlying0
  a0 := Tryz.isAgg0
  z0 := Tryz.sizeOf0
  v0 := Tryz.zeroValue0
  t3 := Tryz.underlying3
  a3 := Tryz.isAgg3
  z3 := Tryz.sizeOf3
  v3 := Tryz.zeroValue3
  t4 := Tryz.underlying4
  a4 := Tryz.isAgg4
  z4 := Tryz.sizeOf4
  v4 := Tryz.zeroValue4
  t5 := Tryz.underlying5
  a5 := Tryz.isAgg5
  z5 := Tryz.sizeOf5
  v5 := Tryz.zeroValue5
  t9 := Tryz.underlying9
  a9 := Tryz.isAgg9
  z9 := Tryz.sizeOf9
  v9 := Tryz.zeroValue9
  t28 := Tryz.underlying33
  a28 := Tryz.isAgg33
  z28 := Tryz.sizeOf33
  v28 := Tryz.zeroValue33
  t46 := Tryz.underlying150
  a46 := Tryz.isAgg150
  z46 := Tryz.sizeOf150
  v46 := Tryz.zeroValue150
  t51 := Tryz.underlying199
  a51 := Tryz.isAgg199
  z51 := Tryz.sizeOf199
  v51 := Tryz.zeroValue199
  t53 := Tryz.underlying201
  a53 := Tryz.isAgg201
  z53 := Tryz.sizeOf201
  v53 := Tryz.zeroValue201
  t131 := Tryz.underlying95
  a131 := Tryz.isAgg95
  z131 := Tryz.sizeOf95
  v131 := Tryz.zeroValue95
  t182 := Tryz.underlying191
  a182 := Tryz.isAgg191
  z182 := Tryz.sizeOf191
  v182 := Tryz.zeroValue191
  t183 := Tryz.underlying192
  a183 := Tryz.isAgg192
  z183 := Tryz.sizeOf192
  v183 := Tryz.zeroValue192
  t218 := Tryz.underlying225
  a218 := Tryz.isAgg225
  z218 := Tryz.sizeOf225
  v218 := Tryz.zeroValue225
  t222 := Tryz.underlying229
  a222 := Tryz.isAgg229
  z222 := Tryz.sizeOf229
  v222 := Tryz.zeroValue229
  t228 := Tryz.underlying247
  a228 := Tryz.isAgg247
  z228 := Tryz.sizeOf247
  v228 := Tryz.zeroValue247
  t229 := Tryz.underlying122
  a229 := Tryz.isAgg122
  z229 := Tryz.sizeOf122
  v229 := Tryz.zeroValue122 }
def sh20_ren : Go.Shelf.Ren := ⟨fun | 20 => 95 | n => n, fun | 22 => 33 | 3 => 3 | 4 => 4 | 0 => 0 | n => n, fun n => n⟩
theorem sh20 : Go.Proofs.Lays2.n20 Tryz.prog sh20_ren := {
  mixed := by kernel_rfl
  f20 := Tryz.func95.trans (congrArg some (by kernel_rfl))
  t0 := Tryz.underlying0
  a0 := Tryz.isAgg0
  z0 := Tryz.sizeOf0
  v0 := Tryz.zeroValue0
  t3 := Tryz.underlying3
  a3 := Tryz.isAgg3
  z3 := Tryz.sizeOf3
  v3 := Tryz.zeroValue3
  t4 := Tryz.underlying4
  a4 := Tryz.isAgg4
  z4 := Tryz.sizeOf4
  v4 := Tryz.zeroValue4
  t22 := Tryz.underlying33
  a22 := Tryz.isAgg33
  z22 := Tryz.sizeOf33
  v22 := Tryz.zeroValue33
  i3 := by kernel_rfl }
end Go.Proofs.YtfcbdlfanmddbaaGreatDoor

/- slices.Sort and slices.Compact at numbers, off the shelf, on a list of the call's own. -/
namespace Go.Proofs.YtfcbdlfanmddbaaGreatDoor
open Go Go.RowKit

theorem below_grow {B : Nat} {w0 w : World} (h : Below B w0 w) (hB : B ≤ w.heap.size) (os : Array Obj) : Below B w0 (Go.Sort.grow w os) :=
  ⟨h.os, h.tape, h.output, by simpa [Go.Sort.grow] using Nat.le_trans h.size (Nat.le_add_right _ _), fun k hk => by
    rw [← h.block k hk]
    simp only [Go.Sort.grow]
    rw [Array.getElem?_append_left (by omega)]⟩
theorem ownsRow_grow {w : World} {base : Nat} {e : TypeId} {v : Value} {n : Nat} {xs : List Value} (h : w.ownsRow base e 1 v n xs) (os : Array Obj) : (Go.Sort.grow w os).ownsRow base e 1 v n xs := by
  refine ⟨h.1, ?_⟩
  rcases h.2 with h2 | ⟨g, cap, cur, e0, hb, hg, rest⟩
  · exact .inl h2
  · refine .inr ⟨g, cap, cur, e0, hb, ?_, rest⟩
    simp only [Go.Sort.grow]
    rw [Array.getElem?_append_left (Array.getElem?_eq_some_iff.1 hg).1]; exact hg
theorem sortI_any {w : World} {base : Nat} {v : Value} {l : List Int} (h : OwnI w base v l) (hl : l.length ≤ 1000000) (hb : base ≤ w.heap.size) :
    Calls Tryz.prog 94 #[v] w fun e w' => e = .returned (.tuple #[]) ∧ OwnI w' base v (l.mergeSort fun x y => decide (x ≤ y)) ∧ Below base w w' := by
  obtain ⟨ho, hr⟩ := OwnL.row h
  by_cases hv : v = .slice none 0 0
  · subst hv
    have h0 : l = [] := by
      obtain ⟨a, c, e, -⟩ := OwnI.ints h
      simp only [Value.slice.injEq] at e
      exact List.length_eq_zero_iff.1 e.2.1.symm
    subst h0
    refine (Any.slices_Sort_int_none sh189 none 0 w).mono ?_
    rintro e w' ⟨rfl, rfl⟩
    exact ⟨rfl, by simpa using h, Below.refl _ _⟩
  · obtain ⟨g, cap, rfl, hg, hlt, hn, hm, hll, hH⟩ := Lib.holds_of_ownsRow ho hv
    refine (Any.slices_Sort_int sh189 g 0 cap l w hH hlt (by omega)).mono ?_
    rintro e w' ⟨rfl, n, os, rfl⟩
    have hml : (l.mergeSort fun x y => decide (x ≤ y)).length = l.length := List.length_mergeSort _
    have hp := Lib.ownsRow_putRow (q := n) (k := l.length) (ys := l.mergeSort fun x y => decide (x ≤ y)) ho hml (Nat.le_refl _)
    rw [List.take_of_length_le (by omega)] at hp
    have hbb := Lib.below_putRow (enc := Value.int .i64) (q := n) (d := (l.mergeSort fun x y => decide (x ≤ y)).toArray) (Below.refl base w) hg
    refine ⟨rfl, OwnL.of_row ?_ (fun x hx => hr x (List.mem_mergeSort.1 hx)), below_grow hbb (Nat.le_trans hb hbb.size) os⟩
    rw [hml]
    exact ownsRow_grow hp os
theorem compactI_any {w : World} {base : Nat} {v : Value} {l : List Int} (h : OwnI w base v l) (hl : l.length ≤ 1000000) :
    Calls Tryz.prog 95 #[v] w fun e w' => ∃ v', e = .returned v' ∧ OwnI w' base v' (Lib.compact l) ∧ Below base w w' := by
  obtain ⟨ho, hr⟩ := OwnL.row h
  by_cases hv : v = .slice none 0 0
  · subst hv
    have h0 : l = [] := by
      obtain ⟨a, c, e, -⟩ := OwnI.ints h
      simp only [Value.slice.injEq] at e
      exact List.length_eq_zero_iff.1 e.2.1.symm
    subst h0
    refine (Any.slices_Compact_int_empty sh20 none 0 w).mono ?_
    rintro e w' ⟨rfl, rfl⟩
    exact ⟨_, rfl, by simpa [Lib.compact, Lib.compactUpTo] using h, Below.refl _ _⟩
  · obtain ⟨g, cap, rfl, hg, hlt, hn, hm, hll, hH⟩ := Lib.holds_of_ownsRow ho hv
    refine (Any.slices_Compact_int sh20 g 0 cap l w hH (by omega) hn).mono ?_
    rintro e w' ⟨rfl, q, rfl⟩
    have hc := Lib.compact_length_le l
    have hp := Lib.ownsRow_putRow (q := q) (k := (Lib.compact l).length) (ys := Lib.compact l ++ List.replicate (l.length - (Lib.compact l).length) 0) ho (by simp; omega) hc
    rw [List.take_left' rfl] at hp
    have hbb := Lib.below_putRow (enc := Value.int .i64) (q := q) (d := (Lib.compact l ++ List.replicate (l.length - (Lib.compact l).length) 0).toArray) (Below.refl base w) hg
    refine ⟨_, rfl, OwnL.of_row hp (fun x hx => ?_), hbb⟩
    unfold Lib.compact Lib.compactUpTo at hx
    rw [List.mem_map] at hx
    obtain ⟨j, hj, rfl⟩ := hx
    rw [List.mem_filter, List.mem_range] at hj
    have : l.toArray[j]! = l[j] := by rw [getElem!_pos _ _ (by simpa using hj.1)]; simp
    rw [this]
    exact hr _ (List.getElem_mem _)
end Go.Proofs.YtfcbdlfanmddbaaGreatDoor

/- Walks: lemmaryref04.needed, Needed. -/
namespace Go.Proofs.YtfcbdlfanmddbaaGreatDoor
open Go Go.RowKit

set_option maxRecDepth 100000 in
set_option maxHeartbeats 4000000 in
theorem rneeded_any {S : Nat → Prop} {G : Int} (a : Option Addr) (c : Nat) (p : List Stp) (w : World) (h : Steps S w a c p) (ok : okSteps G 0 p = true) (p1 : 1 ≤ p.length) (p2 : p.length ≤ 60) :
    Calls Tryz.prog 93 #[.slice a p.length c] w (retB w (ndL p)) := by
  have hH := Lib.hid h.lt
  have okH := Lib.hid ok
  have hms := fun W => makeFalse (W := W) p.length (by omega)
  obtain ⟨W0, hW0⟩ : ∃ W, w.alloc (.cells (Array.replicate p.length (.bool false)) 4) = W := ⟨_, rfl⟩
  have o0 : OwnB W0 w.heap.size (.slice (some ⟨w.heap.size, 0, none⟩) p.length p.length) (List.replicate p.length false) := by rw [← hW0]; exact OwnB.made w p.length (by omega)
  have b0 : Below w.heap.size w W0 := by rw [← hW0]; exact below1 w _
  obtain ⟨c1, c2⟩ := o0.cell (by simp) (p.length - 1) (by simp; omega)
  obtain ⟨o1, g1⟩ := o0.set (by simp) (p.length - 1) true
  have b1 := b0.grown g1 b0.size (fun k e => by cases e; exact Nat.le_refl _)
  obtain ⟨n, hn⟩ : ∃ n, p.length = n + 1 := ⟨p.length - 1, by omega⟩
  have r0 : ndRel p w (.int .i64 (n : Int)) (W0.setCell ⟨w.heap.size, p.length - 1, none⟩ (.bool true)) := ⟨p.length, _, by rw [hn]; congr 1; omega, Nat.le_refl _, by simp, o1, rfl, b1⟩
  rw [List.getElem_replicate] at c1
  rw [hn, Nat.add_sub_cancel] at c1 c2 r0
  have r0H := Lib.hid r0
  have n60 : n < 60 := by omega
  have e1 : ((n + 1 : Nat) : Int) - 1 = (n : Int) := by omega
  have hnH := Lib.hid hn
  have hl1 : p.length = n + 1 := hn
  clear h ok o0 o1 b0 b1 g1 r0
  rw [hl1] at hms hW0
  rw [show ((n + 1 : Nat) : Int) = (n : Int) + 1 from rfl] at hms
  have hsl : Value.slice a p.length c = .slice a (n + 1) c := by rw [hl1]
  rw [hsl]
  clear hsl hn hl1 p1 p2
  obtain ⟨g, hg⟩ : ∃ g, w.heap.size = g := ⟨_, rfl⟩
  rw [hg] at c1 c2 r0H
  go_enter Tryz.func93, Tryz.ntmps93
  go_wp2_with fail
  try rw [hW0]
  go_wp2_with fail
  go_loopw [4] (fun iV wr => ndRel p w iV wr) (fun iV _ => (intOf iV + 1).toNat)
  case atStart => exact r0H.out
  case round =>
    obtain ⟨k, f, rfl, hk, hf, hO, hnd, hB⟩ := hrel
    have hH := (hH.out.below hB)
    have hpn := hnH.out
    rw [hpn] at hO
    rw [hg] at hO
    cases k with
    | zero =>
      have e0 : (((0 : Nat) : Int) - 1) = -1 := rfl
      rw [e0]
      have hfin : retB w (ndL p) (.returned (.slice (some ⟨g, 0, none⟩) (n + 1) (n + 1))) wr := ⟨_, rfl, by rw [← hnd, ndGo, hg]; exact hO, hB⟩
      have hfinH := Lib.hid hfin
      clear hfin hH hO hnd hB
      go_wp2_with fail
      all_goals go_ret
      all_goals exact hfinH.out
    | succ j =>
      have ej : (((j + 1 : Nat) : Int) - 1) = (j : Int) := by omega
      rw [ej]
      have hj : j < n + 1 := by omega
      obtain ⟨bp, off, hae, hS, r0, r1, r2⟩ := Sl.stp hH j (by omega)
      obtain ⟨c3, c4⟩ := hO.cell (by omega) j (by omega)
      have hright := okS_get p 0 j (by omega) okH.out
      rw [Nat.zero_add] at hright
      rw [ndGo, getD_stp (by omega), show f.getD j false = f[j]'(by omega) by rw [List.getD_eq_getElem?_getD, List.getElem?_eq_getElem (by omega)]; rfl] at hnd
      have hbg : bp ≠ g := by have := hS.2; omega
      subst hae
      obtain ⟨x, hxe⟩ : ∃ x, p[j] = x := ⟨_, rfl⟩
      obtain ⟨is, hise⟩ : ∃ is, f[j]'(by omega) = is := ⟨_, rfl⟩
      rw [hxe] at r0 r1 r2 hright hnd
      rw [hise] at c3 hnd
      obtain ⟨x1, x2, x3⟩ := x
      simp only at r0 r1 r2
      by_cases hyes : is = true ∧ x1 = 2
      · obtain ⟨rfl, rfl⟩ := hyes
        obtain ⟨-, d1, d2, d3, d4⟩ := rightB_detach hright (by simp)
        simp only at d1 d2 d3 d4
        obtain ⟨m, rfl⟩ : ∃ m : Nat, x2 = m := ⟨x2.toNat, by omega⟩
        obtain ⟨k, rfl⟩ : ∃ k : Nat, x3 = k := ⟨x3.toNat, by omega⟩
        rw [ndSt_yes rfl] at hnd
        simp only [Int.toNat_natCast] at hnd
        have hOd : OwnB wr g (.slice (some ⟨g, 0, none⟩) (n + 1) (n + 1)) f := hO
        have hBd : Below g w wr := by rw [← hg]; exact hB
        have hsz : g ≤ wr.heap.size := by rw [← hg]; exact hB.size
        obtain ⟨c5, c6⟩ := hOd.cell (by omega) m (by omega)
        obtain ⟨c7, c8⟩ := hOd.cell (by omega) k (by omega)
        obtain ⟨o1, s1⟩ := hOd.set (by omega) m true
        obtain ⟨o2, s2⟩ := hOd.set (by omega) k true
        obtain ⟨d5, d6⟩ := o1.cell (by simp; omega) k (by simp; omega)
        obtain ⟨d7, d8⟩ := o2.cell (by simp; omega) m (by simp; omega)
        obtain ⟨o3, s3⟩ := o1.set (by simp; omega) k true
        obtain ⟨o4, s4⟩ := o2.set (by simp; omega) m true
        have hcomm : (f.set k true).set m true = (f.set m true).set k true := by
          by_cases e : k = m
          · subst e; rfl
          · rw [List.set_comm _ _ e]
        rw [hcomm] at o4
        have b3 := (hBd.grown s1 hsz (fun k e => by cases e; exact Nat.le_refl _)).grown s3 (Nat.le_trans hsz s1.size) (fun k e => by cases e; exact Nat.le_refl _)
        have b4 := (hBd.grown s2 hsz (fun k e => by cases e; exact Nat.le_refl _)).grown s4 (Nat.le_trans hsz s2.size) (fun k e => by cases e; exact Nat.le_refl _)
        have e3 : ndRel p w (.int .i64 ((j : Int) - 1)) ((wr.setCell ⟨g, m, none⟩ (.bool true)).setCell ⟨g, k, none⟩ (.bool true)).drew := ⟨j, _, rfl, by omega, by simp [hf], by rw [hpn, hg]; exact OwnL.call o3 ((Below.refl _ _).drew), hnd, by rw [hg]; exact b3.drew⟩
        have e4 : ndRel p w (.int .i64 ((j : Int) - 1)) ((wr.setCell ⟨g, k, none⟩ (.bool true)).setCell ⟨g, m, none⟩ (.bool true)).drew := ⟨j, _, rfl, by omega, by simp [hf], by rw [hpn, hg]; exact OwnL.call o4 ((Below.refl _ _).drew), hnd, by rw [hg]; exact b4.drew⟩
        have e3H := Lib.hid e3
        have e4H := Lib.hid e4
        have u1 : wr.cell? ⟨bp, off + j * 3 + 1, none⟩ = some (.int .i64 m) := r1
        have u2 : wr.cell? ⟨bp, off + j * 3 + 2, none⟩ = some (.int .i64 k) := r2.1
        have blt := World.block_lt_of_cell? _ _ u1
        have v1 : (wr.setCell ⟨g, m, none⟩ (.bool true)).cell? ⟨bp, off + j * 3 + 1, none⟩ = some (.int .i64 m) := (World.cell?_of_block (w := wr) (s1.block bp blt (fun e => hbg (by injection e)))).trans u1
        have v2 : (wr.setCell ⟨g, m, none⟩ (.bool true)).cell? ⟨bp, off + j * 3 + 2, none⟩ = some (.int .i64 k) := (World.cell?_of_block (w := wr) (s1.block bp blt (fun e => hbg (by injection e)))).trans u2
        have v3 : (wr.setCell ⟨g, k, none⟩ (.bool true)).cell? ⟨bp, off + j * 3 + 1, none⟩ = some (.int .i64 m) := (World.cell?_of_block (w := wr) (s2.block bp blt (fun e => hbg (by injection e)))).trans u1
        have v4 : (wr.setCell ⟨g, k, none⟩ (.bool true)).cell? ⟨bp, off + j * 3 + 2, none⟩ = some (.int .i64 k) := (World.cell?_of_block (w := wr) (s2.block bp blt (fun e => hbg (by injection e)))).trans u2
        clear hright hxe hise hH hS hO hOd hB hBd hsz hnd o1 o2 o3 o4 s1 s2 s3 s4 hcomm b3 b4 e3 e4 blt
        go_wp2_with fail
        go_region
        all_goals go_wp2_with fail
        all_goals go_roundw
        all_goals first | exact e3H.out | exact e4H.out | (simp [intOf]; done) | (simp [intOf]; omega)
      · rw [ndSt_no (by
          by_cases h1 : is = false
          · exact .inl h1
          · exact .inr fun e => hyes ⟨by simpa using h1, e⟩)] at hnd
        have hrel : ndRel p w (.int .i64 ((j : Int) - 1)) wr := ⟨j, f, rfl, by omega, hf, by rw [hpn, hg]; exact hO, hnd, hB⟩
        have hrelH := Lib.hid hrel
        clear hrel hright hxe hise hH hS hnd hO hB
        cases is with
        | false =>
          clear hyes
          go_wp2_with fail
          all_goals go_roundw
          all_goals first | exact hrelH.out | (simp [intOf]; done) | (simp [intOf]; omega)
        | true =>
          have hx2 : x1 ≠ 2 := fun e => hyes ⟨rfl, e⟩
          clear hyes
          go_wp2_with fail
          all_goals go_roundw
          all_goals first | exact hrelH.out | (simp [intOf]; done) | (simp [intOf]; omega)
def nlR (p : List Stp) (w1 : World) (vL iV : Value) (wr : World) : Prop :=
  ∃ i : Nat, iV = .int .i64 i ∧ i ≤ p.length ∧ OwnI wr w1.heap.size vL (ndTo p i) ∧ Below w1.heap.size w1 wr
set_option maxRecDepth 100000 in
set_option maxHeartbeats 4000000 in
theorem rNeeded_any {S : Nat → Prop} (G : Int) (a : Option Addr) (c : Nat) (p : List Stp) (w : World) (h : Steps S w a c p) :
    Calls Tryz.prog 43 #[.int .i64 G, .slice a p.length c] w (retE (neededE G p) w) := by
  have v1 := rValidProof_any G a c p w h
  cases hv : proofB G p with
  | false =>
    rw [hv] at v1
    have v1H := Lib.hid v1
    have hrH := Lib.hid (show neededE G p = ([], 1) by unfold neededE; rw [hv]; rfl)
    clear v1 h hv
    go_enter Tryz.func43, Tryz.ntmps43
    go_wp2_with fail
    refine v1H.out.mono ?_
    rintro e w1 ⟨rfl, hb1⟩
    go_wp2_with fail
    go_ret2
    rw [hrH.out]
    exact ⟨_, rfl, .nil _ _ _ _ _, hb1⟩
  | true =>
    rw [hv] at v1
    obtain ⟨p1, p2, ok⟩ := proofB_all hv
    have vu := fun W (hb : Below w.heap.size w W) => rneeded_any a c p W (h.below hb) ok p1 p2
    have v1H := Lib.hid v1
    have vuH := Lib.hid vu
    have hrH := Lib.hid (show neededE G p = (ndTo p p.length, 0) by unfold neededE; rw [hv]; rfl)
    have hlH := Lib.hid (ndL_len p)
    obtain ⟨F, hF⟩ : ∃ F, ndL p = F := ⟨_, rfl⟩
    have hFl : F.length = p.length := by rw [← hF]; exact ndL_len p
    have hsuccH := Lib.hid (fun k => ndTo_succ p k)
    rw [hF] at vuH hsuccH
    have hlenH := Lib.hid (fun k => ndTo_len p k)
    clear v1 h hv vu hF
    go_enter Tryz.func43, Tryz.ntmps43
    go_wp2_with fail
    refine v1H.out.mono ?_
    rintro e w0 ⟨rfl, hb0⟩
    go_wp2_with fail
    refine (vuH.out _ hb0).mono ?_
    rintro e w1 ⟨v2, rfl, o2, hb2⟩
    obtain ⟨aF, cF, hvF, hSF⟩ := OwnB.bools o2
    rw [hFl] at hvF
    subst hvF
    have hSFH := Lib.hid hSF
    have hb1H := Lib.hid (bcall hb0 hb2)
    clear o2 hSF hb0 hb2 v1H vuH
    go_wp2_with fail
    go_loopw [7, 8] (fun vL iV wr => nlR p w1 vL iV wr) (fun _ iV _ => p.length - (intOf iV).toNat)
    case atStart => exact ⟨0, rfl, Nat.zero_le _, .nil _ _ _ _ _, Below.refl _ _⟩
    case round =>
      obtain ⟨i, rfl, hi, hO, hB⟩ := hrel
      by_cases hlt : i < p.length
      · obtain ⟨bF, oF, haF, -, c1⟩ := (hSFH.out.below hB).bool i (by omega)
        subst haF
        have hs := hsuccH.out i
        rw [show F.getD i false = F[i]'(by omega) by rw [List.getD_eq_getElem?_getD, List.getElem?_eq_getElem (by omega)]; rfl] at hs
        obtain ⟨is, hise⟩ : ∃ is, F[i]'(by omega) = is := ⟨_, rfl⟩
        rw [hise] at c1 hs
        cases is with
        | false =>
          rw [if_neg (by decide)] at hs
          have hrel : nlR p w1 u7 (.int .i64 ((i : Int) + 1)) wr := ⟨i + 1, by go_num, by omega, by rw [hs]; exact hO, hB⟩
          have hrelH := Lib.hid hrel
          clear hrel hO hB hs hise
          go_wp2_with fail
          all_goals go_roundw
          all_goals first | exact hrelH.out | (simp [intOf]; done) | (simp [intOf]; omega)
        | true =>
          rw [if_pos rfl] at hs
          have hll := hlenH.out i
          obtain ⟨v', W', hrun, ho, hg, -⟩ := OwnL.push (P := Tryz.prog) (t := 33) (ty := 33) hO Tryz.underlying33 infoInt rfl (vs := [.int .i64 (i : Int)]) (x := (i : Int)) ⟨rfl, by unfold inRange; omega⟩ (by omega) (by unfold big; omega) (by have := hB.size; omega)
          rw [← hs] at ho
          have hrel : nlR p w1 v' (.int .i64 ((i : Int) + 1)) W' := ⟨i + 1, by go_num, by omega, ho, hB.grown hg (by have := hB.size; omega) (fun k e => (OwnL.lt hO k e).1)⟩
          have hrelH := Lib.hid hrel
          clear hrel hO hB hs hise ho hg hll
          go_wp2_with (at_builtin; refine wpList_append_run rfl _ _ _ rfl rfl rfl hrun ?_)
          all_goals go_roundw
          all_goals first | exact hrelH.out | (simp [intOf]; done) | (simp [intOf]; omega)
      · obtain rfl : i = p.length := by omega
        have hOH := Lib.hid hO
        have hBH := Lib.hid hB
        clear hO hB
        go_wp2_with fail
        all_goals go_ret2
        all_goals rw [hrH.out]
        all_goals exact ⟨_, rfl, OwnL.baseMono hOH.out hb1H.out.size, bcall hb1H.out hBH.out⟩
end Go.Proofs.YtfcbdlfanmddbaaGreatDoor

/- Walks: lemmaryref04.sums with counts; lemmaryref04.Count, Height. -/
namespace Go.Proofs.YtfcbdlfanmddbaaGreatDoor
open Go Go.RowKit

def sumC (p : List Stp) (w : World) (vL iV : Value) (wr : World) : Prop :=
  ∃ i : Nat, iV = .int .i64 i ∧ i ≤ p.length ∧ OwnI wr w.heap.size vL (upL cntF ((trees p).take i)) ∧ Below w.heap.size w wr
set_option maxRecDepth 100000 in
set_option maxHeartbeats 4000000 in
theorem sumC_any {S : Nat → Prop} {G : Int} (a : Option Addr) (c : Nat) (p : List Stp) (w : World) (h : Steps S w a c p) (ok : okSteps G 0 p = true) (p2 : p.length ≤ 60) :
    Calls Tryz.prog 74 #[.slice a p.length c, .int .i64 1, .int .i64 1000000000000000] w (retOwn w (upL cntF (trees p))) := by
  have hl := trees_len p
  have hH := Lib.hid h
  have okH := Lib.hid ok
  have hlH := Lib.hid hl
  clear h ok hl
  go_enter Tryz.func74, Tryz.ntmps74
  go_wp2_with fail
  go_loopw [7, 8] (fun vL iV wr => sumC p w vL iV wr) (fun _ iV _ => p.length - (intOf iV).toNat)
  case atStart => exact ⟨0, rfl, Nat.zero_le _, .nil _ _ _ _ _, Below.refl _ _⟩
  case round =>
    obtain ⟨i, rfl, hi, hO, hB⟩ := hrel
    by_cases hlt : i < p.length
    · have ok := okH.out
      have hl := hlH.out
      have hS := hH.out.below hB
      obtain ⟨bp, off, hae, -, r0, r1, r2⟩ := Sl.stp hS i hlt
      have hright := okS_get p 0 i hlt ok
      rw [Nat.zero_add] at hright
      have htr := trees_at ok i hlt
      have hsucc := upL_succ (bt := cntF) (ts := trees p) (i := i) (by omega)
      obtain ⟨x, hxe⟩ : ∃ x, p[i] = x := ⟨_, rfl⟩
      rw [hxe] at r0 r1 r2 hright htr
      obtain ⟨x1, x2, x3⟩ := x
      simp only at r0 r1 r2
      have hlen := upL_len cntF (trees p) i (by omega)
      have hpush : ∀ (W : World) (y : Int), Below wr.heap.size wr W → y = upT cntF ((trees p).getD i (.g 0)) → ∃ v' W', RowKit.Hid ((Builtin.append_ #[33, 33] 33 #[u7, .slice (some ⟨W.heap.size, 0, none⟩) 1 1]).run Tryz.prog (W.alloc (.cells #[.int .i64 y] 3)) = .ok v' W') ∧ RowKit.Hid (sumC p w v' (.int .i64 ((i : Int) + 1)) W') := by
        intro W y hW hy
        have hyr : inRange y := by have := cntF_R ((trees p).getD i (.g 0)); unfold upR at this; unfold inRange; omega
        obtain ⟨v', W', hrun, ho, hg, -⟩ := OwnL.push (P := Tryz.prog) (t := 33) (ty := 33) (OwnL.call hO hW) Tryz.underlying33 infoInt rfl (vs := [.int .i64 y]) (x := y) ⟨rfl, hyr⟩ (by omega) (by unfold big; omega) (by have := hB.size; have := hW.size; omega)
        subst hy
        rw [← hsucc] at ho
        exact ⟨v', W', Lib.hid hrun, Lib.hid ⟨i + 1, by go_num, by omega, ho, (bcall hB hW).grown hg (by have := hB.size; have := hW.size; omega) (fun k e => (OwnL.lt hO k e).1)⟩⟩
      have hpushH := Lib.hid hpush
      subst hae
      by_cases h1 : x1 = 1
      · subst h1
        have hy : (1 : Int) = upT cntF ((trees p).getD i (.g 0)) := by rw [htr]; unfold trS; simp [upT]
        obtain ⟨v', W', k1, k2⟩ := hpush wr 1 (Below.refl _ _) hy
        have rrun := k1.out
        clear hpush hpushH hO hB hS hright htr hsucc hxe k1 hy
        go_wp2_with (at_builtin; refine wpList_append_run rfl _ _ _ rfl rfl rfl rrun ?_)
        all_goals go_roundw
        all_goals first | exact k2.out | (simp [intOf]; omega)
      · obtain ⟨d0, d1, d2, d3, d4⟩ := rightB_detach hright (by simpa using h1)
        simp only at d0 d1 d2 d3 d4
        subst d0
        obtain ⟨m, rfl⟩ : ∃ m : Nat, x2 = m := ⟨x2.toNat, by omega⟩
        obtain ⟨k, rfl⟩ : ∃ k : Nat, x3 = k := ⟨x3.toNat, by omega⟩
        obtain ⟨aL, cL, hvL, hI⟩ := OwnI.ints hO
        obtain ⟨bl, ol, ha1, -, z1, -⟩ := hI.int m (by omega)
        obtain ⟨bl2, ol2, ha2, -, z2, -⟩ := hI.int k (by omega)
        subst ha1
        cases ha2
        rw [upL_get (by omega) (by omega)] at z1 z2
        rw [hlen] at hvL
        have hy : cntF (upT cntF ((trees p).getD m (.g 0))) (upT cntF ((trees p).getD k (.g 0))) = upT cntF ((trees p).getD i (.g 0)) := by
          rw [htr]
          unfold trS
          rw [if_pos rfl]
          rfl
        obtain ⟨A, hA⟩ : ∃ A, upT cntF ((trees p).getD m (.g 0)) = A := ⟨_, rfl⟩
        obtain ⟨B, hB'⟩ : ∃ B, upT cntF ((trees p).getD k (.g 0)) = B := ⟨_, rfl⟩
        have hA1 := cntF_R ((trees p).getD m (.g 0))
        have hB1 := cntF_R ((trees p).getD k (.g 0))
        rw [hA] at z1 hy hA1
        rw [hB'] at z2 hy hB1
        unfold upR at hA1 hB1
        rw [show cntF A B = min (A + B + 1) 1000000000000001 from rfl] at hy
        have hyH := Lib.hid hy
        subst hvL
        clear hpush hO hB hS hright htr hsucc hxe hy hA hB' hI hlen h1
        go_wp2_with fail
        go_quiet (fail)
        obtain ⟨W5, hW5⟩ : ∃ W, wr.drewN nq = W := ⟨_, rfl⟩
        have hb5 : Below wr.heap.size wr W5 := by rw [← hW5]; exact below_drewN (Below.refl _ _) nq
        rw [hW5]
        by_cases hbig : 1000000000000000 < A + B + 1
        · obtain ⟨v', W', k1, k2⟩ := hpushH.out W5 1000000000000001 hb5 (by rw [← hyH.out]; omega)
          have rrun := k1.out
          clear hpushH hb5 hW5 k1 z1 z2
          go_wp2_with (at_builtin; refine wpList_append_run rfl _ _ _ rfl rfl rfl rrun ?_)
          all_goals go_roundw
          all_goals first | exact k2.out | (simp [intOf]; omega)
        · obtain ⟨v', W', k1, k2⟩ := hpushH.out W5 (A + B + 1) hb5 (by rw [← hyH.out]; omega)
          have rrun := k1.out
          clear hpushH hb5 hW5 k1 z1 z2
          go_wp2_with (at_builtin; refine wpList_append_run rfl _ _ _ rfl rfl rfl rrun ?_)
          all_goals go_roundw
          all_goals first | exact k2.out | (simp [intOf]; omega)
    · obtain rfl : i = p.length := by omega
      have hfin : (trees p).take p.length = trees p := by rw [← hlH.out]; exact List.take_length
      rw [hfin] at hO
      have hOH := Lib.hid hO
      have hBH := Lib.hid hB
      clear hO hB hfin
      go_wp2_with fail
      all_goals go_ret
      all_goals exact ⟨_, rfl, hOH.out, hBH.out⟩

theorem upL_last {bt : Int → Int → Int} {ts : List Tr} {i : Nat} (hi : i < ts.length) (hl : i < (upL bt ts).length) : (upL bt ts)[i] = upT bt (ts.getD i (.g 0)) := by
  have e : (upL bt ts)[i]? = some (upT bt (ts.getD i (.g 0))) := by
    unfold upL
    rw [List.getElem?_map, List.getD_eq_getElem?_getD, List.getElem?_eq_getElem hi]
    rfl
  rw [List.getElem?_eq_getElem hl] at e
  exact Option.some.inj e
set_option maxRecDepth 100000 in
theorem rCount_any {S : Nat → Prop} (G : Int) (a : Option Addr) (c : Nat) (p : List Stp) (w : World) (h : Steps S w a c p) :
    Calls Tryz.prog 47 #[.int .i64 G, .slice a p.length c] w fun e w' => e = .returned (.tuple #[.int .i64 (pcntE G p).1, .int .i64 (pcntE G p).2]) ∧ Below w.heap.size w w' := by
  have v1 := rValidProof_any G a c p w h
  cases hv : proofB G p with
  | false =>
    rw [hv] at v1
    have v1H := Lib.hid v1
    have hrH := Lib.hid (show pcntE G p = (0, 1) by unfold pcntE; rw [hv]; rfl)
    clear v1 h hv
    go_enter Tryz.func47, Tryz.ntmps47
    go_wp2_with fail
    refine v1H.out.mono ?_
    rintro e w1 ⟨rfl, hb1⟩
    go_wp2_with fail
    go_ret2
    rw [hrH.out]
    exact ⟨rfl, hb1⟩
  | true =>
    rw [hv] at v1
    obtain ⟨p1, p2, ok⟩ := proofB_all hv
    have vu := fun W (hb : Below w.heap.size w W) => sumC_any a c p W (h.below hb) ok p2
    have hr : pcntE G p = if 1000000000000000 < upT cntF ((trees p).getD (p.length - 1) (.g 0)) then (0, 4) else (upT cntF ((trees p).getD (p.length - 1) (.g 0)), 0) := by unfold pcntE; rw [if_pos hv, last_tree p1]
    have hl := trees_len p
    obtain ⟨n, hn⟩ : ∃ n, p.length = n + 1 := ⟨p.length - 1, by omega⟩
    have hlast : ∀ (hl : n < (upL cntF (trees p)).length), (upL cntF (trees p))[n] = upT cntF ((trees p).getD n (.g 0)) := fun hl2 => upL_last (by omega) hl2
    have hll : (upL cntF (trees p)).length = n + 1 := by unfold upL; rw [List.length_map]; omega
    rw [hn, Nat.add_sub_cancel] at hr
    obtain ⟨Z, hZ⟩ : ∃ Z, upT cntF ((trees p).getD n (.g 0)) = Z := ⟨_, rfl⟩
    have hZ1 := cntF_R ((trees p).getD n (.g 0))
    rw [hZ] at hr hZ1
    simp only [hZ] at hlast
    unfold upR at hZ1
    obtain ⟨L, hL⟩ : ∃ L, upL cntF (trees p) = L := ⟨_, rfl⟩
    simp only [hL] at vu hlast hll
    have v1H := Lib.hid v1
    have vuH := Lib.hid vu
    have hlastH := Lib.hid hlast
    have hnH := Lib.hid hn
    have n1 : ((n + 1 : Nat) : Int) - 1 = (n : Int) := by omega
    have n60 : n < 60 := by omega
    clear v1 h hv vu ok hZ hl hlast p1 p2 hn
    by_cases hz : 1000000000000000 < Z
    · rw [if_pos hz] at hr
      have hrH := Lib.hid hr
      clear hr
      go_enter Tryz.func47, Tryz.ntmps47
      go_wp2_with fail
      refine v1H.out.mono ?_
      rintro e w1 ⟨rfl, hb1⟩
      go_wp2_with fail
      refine (vuH.out _ hb1).mono ?_
      rintro e w2 ⟨v2, rfl, o2, hb2⟩
      obtain ⟨aL, cL, hvL, hI⟩ := OwnI.ints o2
      obtain ⟨bl, ol, ha1, -, z1, -⟩ := hI.int n (by omega)
      rw [hlastH.out (by omega)] at z1
      rw [hll] at hvL
      subst ha1 hvL
      have hb2H := Lib.hid (bcall hb1 hb2)
      clear o2 hI hb1 hb2 v1H vuH
      simp only [hnH.out]
      go_wp2_with fail
      go_ret2
      rw [hrH.out]
      exact ⟨rfl, hb2H.out⟩
    · rw [if_neg hz] at hr
      have hrH := Lib.hid hr
      clear hr
      go_enter Tryz.func47, Tryz.ntmps47
      go_wp2_with fail
      refine v1H.out.mono ?_
      rintro e w1 ⟨rfl, hb1⟩
      go_wp2_with fail
      refine (vuH.out _ hb1).mono ?_
      rintro e w2 ⟨v2, rfl, o2, hb2⟩
      obtain ⟨aL, cL, hvL, hI⟩ := OwnI.ints o2
      obtain ⟨bl, ol, ha1, -, z1, -⟩ := hI.int n (by omega)
      rw [hlastH.out (by omega)] at z1
      rw [hll] at hvL
      subst ha1 hvL
      have hb2H := Lib.hid (bcall hb1 hb2)
      clear o2 hI hb1 hb2 v1H vuH
      simp only [hnH.out]
      go_wp2_with fail
      go_ret2
      rw [hrH.out]
      exact ⟨rfl, hb2H.out⟩
end Go.Proofs.YtfcbdlfanmddbaaGreatDoor

/- Walks: lemmaryref04.Height. -/
namespace Go.Proofs.YtfcbdlfanmddbaaGreatDoor
open Go Go.RowKit

def hgtI (p : List Stp) (w : World) (vL iV : Value) (wr : World) : Prop :=
  ∃ i : Nat, iV = .int .i64 i ∧ i ≤ p.length ∧ OwnI wr w.heap.size vL (upL hgtF ((trees p).take i)) ∧ Below w.heap.size w wr
set_option maxRecDepth 100000 in
set_option maxHeartbeats 4000000 in
theorem rHeight_any {S : Nat → Prop} (G : Int) (a : Option Addr) (c : Nat) (p : List Stp) (w : World) (h : Steps S w a c p) :
    Calls Tryz.prog 48 #[.int .i64 G, .slice a p.length c] w fun e w' => e = .returned (.tuple #[.int .i64 (hgtE G p).1, .int .i64 (hgtE G p).2]) ∧ Below w.heap.size w w' := by
  have v1 := rValidProof_any G a c p w h
  cases hv : proofB G p with
  | false =>
    rw [hv] at v1
    have v1H := Lib.hid v1
    have hrH := Lib.hid (show hgtE G p = (0, 1) by unfold hgtE; rw [hv]; rfl)
    clear v1 h hv
    go_enter Tryz.func48, Tryz.ntmps48
    go_wp2_with fail
    refine v1H.out.mono ?_
    rintro e w1 ⟨rfl, hb1⟩
    go_wp2_with fail
    go_ret2
    rw [hrH.out]
    exact ⟨rfl, hb1⟩
  | true =>
    rw [hv] at v1
    obtain ⟨p1, p2, ok⟩ := proofB_all hv
    have hr : hgtE G p = (upT hgtF ((trees p).getD (p.length - 1) (.g 0)), 0) := by unfold hgtE; rw [if_pos hv, last_tree p1]
    have hl := trees_len p
    obtain ⟨n, hn⟩ : ∃ n, p.length = n + 1 := ⟨p.length - 1, by omega⟩
    rw [hn, Nat.add_sub_cancel] at hr
    have hbd : ∀ k, k < p.length → 0 ≤ upT hgtF ((trees p).getD k (.g 0)) ∧ upT hgtF ((trees p).getD k (.g 0)) ≤ 61 := fun k hk => by have := hgt_lt ok k hk; rw [hgtF_eq]; omega
    have v1H := Lib.hid v1
    have hH := Lib.hid h
    have okH := Lib.hid ok
    have hlH := Lib.hid hl
    have hnH := Lib.hid hn
    have hrH := Lib.hid hr
    have hbdH := Lib.hid hbd
    have n60 : n < 60 := by omega
    clear v1 h hv ok hl hr hbd p1 p2 hn
    go_enter Tryz.func48, Tryz.ntmps48
    go_wp2_with fail
    refine v1H.out.mono ?_
    rintro e w1 ⟨rfl, hb1⟩
    have hb1H := Lib.hid hb1
    clear hb1
    simp only [hnH.out]
    go_wp2_with fail
    go_loopw [6, 7, 8] (fun vL iV _ wr => hgtI p w1 vL iV wr) (fun _ iV _ _ => p.length - (intOf iV).toNat)
    case atStart => exact ⟨0, rfl, Nat.zero_le _, .nil _ _ _ _ _, Below.refl _ _⟩
    case round =>
      obtain ⟨i, rfl, hi, hO, hB⟩ := hrel
      have hn := hnH.out
      by_cases hlt : i < n + 1
      · have ok := okH.out
        have hl := hlH.out
        have hS := (hH.out.below hb1H.out).below hB
        obtain ⟨bp, off, hae, -, r0, r1, r2⟩ := Sl.stp hS i (by omega)
        have hright := okS_get p 0 i (by omega) ok
        rw [Nat.zero_add] at hright
        have htr := trees_at ok i (by omega)
        have hsucc := upL_succ (bt := hgtF) (ts := trees p) (i := i) (by omega)
        obtain ⟨x, hxe⟩ : ∃ x, p[i] = x := ⟨_, rfl⟩
        rw [hxe] at r0 r1 r2 hright htr
        obtain ⟨x1, x2, x3⟩ := x
        simp only at r0 r1 r2
        have hlen := upL_len hgtF (trees p) i (by omega)
        have hbi := hbdH.out i (by omega)
        have hpush : ∀ (y : Int), y = upT hgtF ((trees p).getD i (.g 0)) → ∃ v' W', RowKit.Hid ((Builtin.append_ #[33, 33] 33 #[u6, .slice (some ⟨wr.heap.size, 0, none⟩) 1 1]).run Tryz.prog (wr.alloc (.cells #[.int .i64 y] 3)) = .ok v' W') ∧ RowKit.Hid (hgtI p w1 v' (.int .i64 ((i : Int) + 1)) W') := by
          intro y hy
          have hyr : inRange y := by unfold inRange; omega
          obtain ⟨v', W', hrun, ho, hg, -⟩ := OwnL.push (P := Tryz.prog) (t := 33) (ty := 33) hO Tryz.underlying33 infoInt rfl (vs := [.int .i64 y]) (x := y) ⟨rfl, hyr⟩ (by omega) (by unfold big; omega) (by have := hB.size; omega)
          subst hy
          rw [← hsucc] at ho
          exact ⟨v', W', Lib.hid hrun, Lib.hid ⟨i + 1, by go_num, by omega, ho, hB.grown hg (by have := hB.size; omega) (fun k e => (OwnL.lt hO k e).1)⟩⟩
        subst hae
        by_cases h1 : x1 = 1
        · subst h1
          have hy : (1 : Int) = upT hgtF ((trees p).getD i (.g 0)) := by rw [htr]; unfold trS; simp [upT]
          obtain ⟨v', W', k1, k2⟩ := hpush 1 hy
          have rrun := k1.out
          clear hpush hO hB hS hright htr hsucc hxe k1 hy hbi
          go_wp2_with (at_builtin; refine wpList_append_run rfl _ _ _ rfl rfl rfl rrun ?_)
          all_goals go_roundw
          all_goals first | exact k2.out | (simp [intOf]; done) | (simp [intOf]; omega)
        · obtain ⟨d0, d1, d2, d3, d4⟩ := rightB_detach hright (by simpa using h1)
          simp only at d0 d1 d2 d3 d4
          subst d0
          obtain ⟨m, rfl⟩ : ∃ m : Nat, x2 = m := ⟨x2.toNat, by omega⟩
          obtain ⟨k, rfl⟩ : ∃ k : Nat, x3 = k := ⟨x3.toNat, by omega⟩
          obtain ⟨aL, cL, hvL, hI⟩ := OwnI.ints hO
          obtain ⟨bl, ol, ha1, -, z1, -⟩ := hI.int m (by omega)
          obtain ⟨bl2, ol2, ha2, -, z2, -⟩ := hI.int k (by omega)
          subst ha1
          cases ha2
          rw [upL_get (by omega) (by omega)] at z1 z2
          rw [hlen] at hvL
          have hy : max (upT hgtF ((trees p).getD m (.g 0))) (upT hgtF ((trees p).getD k (.g 0))) + 1 = upT hgtF ((trees p).getD i (.g 0)) := by
            rw [htr]
            unfold trS
            rw [if_pos rfl]
            rfl
          have hA1 := hbdH.out m (by omega)
          have hB1 := hbdH.out k (by omega)
          obtain ⟨A, hA⟩ : ∃ A, upT hgtF ((trees p).getD m (.g 0)) = A := ⟨_, rfl⟩
          obtain ⟨B, hB'⟩ : ∃ B, upT hgtF ((trees p).getD k (.g 0)) = B := ⟨_, rfl⟩
          rw [hA] at z1 hy hA1
          rw [hB'] at z2 hy hB1
          by_cases hab : A + 1 ≤ B
          · obtain ⟨v', W', k1, k2⟩ := hpush (B + 1) (by rw [← hy]; omega)
            have rrun := k1.out
            subst hvL
            clear hpush hO hB hS hright htr hsucc hxe k1 hy hA hB' hI hlen h1 hbi
            go_wp2_with (at_builtin; refine wpList_append_run rfl _ _ _ rfl rfl rfl rrun ?_)
            all_goals go_roundw
            all_goals first | exact k2.out | (simp [intOf]; done) | (simp [intOf]; omega)
          · obtain ⟨v', W', k1, k2⟩ := hpush (A + 1) (by rw [← hy]; omega)
            have rrun := k1.out
            subst hvL
            clear hpush hO hB hS hright htr hsucc hxe k1 hy hA hB' hI hlen h1 hbi
            go_wp2_with (at_builtin; refine wpList_append_run rfl _ _ _ rfl rfl rfl rrun ?_)
            all_goals go_roundw
            all_goals first | exact k2.out | (simp [intOf]; done) | (simp [intOf]; omega)
      · obtain rfl : i = n + 1 := by omega
        obtain ⟨aL, cL, hvL, hI⟩ := OwnI.ints hO
        have hlen := upL_len hgtF (trees p) (n + 1) (by have := hlH.out; omega)
        obtain ⟨bl, ol, ha1, -, z1, -⟩ := hI.int n (by omega)
        subst ha1
        rw [upL_get (by have := hlH.out; omega) (by omega)] at z1
        rw [hlen] at hvL
        subst hvL
        have hBH := Lib.hid hB
        clear hO hB hI hlen
        obtain ⟨Z, hZ⟩ : ∃ Z, upT hgtF ((trees p).getD n (.g 0)) = Z := ⟨_, rfl⟩
        have hr := hrH.out
        rw [hZ] at z1 hr
        have hrH := Lib.hid hr
        clear hr hZ
        go_wp2_with fail
        all_goals go_ret2
        all_goals rw [hrH.out]
        all_goals exact ⟨rfl, bcall hb1H.out hBH.out⟩
end Go.Proofs.YtfcbdlfanmddbaaGreatDoor

/- Walks: kernel.Cited, lemmaryref04.Cited. -/
namespace Go.Proofs.YtfcbdlfanmddbaaGreatDoor
open Go Go.RowKit

def ctI (p : List Stp) (w1 : World) (vO iV : Value) (wr : World) : Prop :=
  ∃ k : Nat, iV = .int .i64 k ∧ k ≤ (ndIdx p).length ∧ OwnI wr w1.heap.size vO (citL p ((ndIdx p).take k)) ∧ Below w1.heap.size w1 wr
set_option maxRecDepth 100000 in
set_option maxHeartbeats 4000000 in
theorem Cited_any {S : Nat → Prop} (G : Int) (a : Option Addr) (c : Nat) (p : List Stp) (w : World) (h : Steps S w a c p) :
    Calls Tryz.prog 45 #[.int .i64 G, .slice a p.length c] w (retE (citedE G p) w) := by
  have v1 := Needed_any G a c p w h
  cases hv : proofB G p with
  | false =>
    rw [show neededE G p = ([], 1) by unfold neededE; rw [hv]; rfl] at v1
    have v1H := Lib.hid v1
    have hrH := Lib.hid (show citedE G p = ([], 1) by unfold citedE; rw [hv]; rfl)
    clear v1 h hv
    go_enter Tryz.func45, Tryz.ntmps45
    go_wp2_with fail
    refine v1H.out.mono ?_
    rintro e w1 ⟨v2, rfl, o2, hb1⟩
    clear o2
    go_wp2_with fail
    go_ret2
    rw [hrH.out]
    exact ⟨_, rfl, .nil _ _ _ _ _, hb1⟩
  | true =>
    obtain ⟨p1, p2, ok⟩ := proofB_all hv
    have g0 : 0 ≤ G := by simp only [proofB, Bool.and_eq_true, decide_eq_true_eq] at hv; exact hv.1.1
    rw [show neededE G p = (ndInts p, 0) by unfold neededE; rw [hv]; rfl] at v1
    have hce : uniqI (citL p (ndIdx p)) = citR G.toNat p := cited_eq (by rw [show ((G.toNat : Nat) : Int) = G by omega]; exact ok)
    have hrH := Lib.hid (show citedE G p = (uniqI (citL p (ndIdx p)), 0) by unfold citedE; rw [hv, if_pos rfl, hce])
    obtain ⟨L, hL⟩ : ∃ L, ndIdx p = L := ⟨_, rfl⟩
    have hLl := ndIdx_len p
    have hLt : ∀ k (h : k < L.length), L[k] < p.length := fun k hk => by subst hL; exact ndIdx_lt hk
    have hLk : ∀ k (h : k < L.length) (h2 : k < (ndInts p).length), (ndInts p)[k] = (L[k] : Int) := fun k hk hk2 => by subst hL; simp [ndInts]
    have hll : (ndInts p).length = L.length := by subst hL; unfold ndInts; rw [List.length_map]
    rw [hL] at hLl
    have htkH := Lib.hid (fun k (h : k < (ndIdx p).length) => citL_take p h)
    have hclH := Lib.hid (fun k => citL_len p k)
    have hkI : ∀ w1 vO iV wr, ctI p w1 vO iV wr = ∃ k : Nat, iV = .int .i64 k ∧ k ≤ L.length ∧ OwnI wr w1.heap.size vO (citL p (L.take k)) ∧ Below w1.heap.size w1 wr := fun _ _ _ _ => by unfold ctI; rw [hL]
    simp only [hL] at htkH hclH
    rw [hL] at hrH
    have v1H := Lib.hid v1
    have hH := Lib.hid h
    have hLtH := Lib.hid hLt
    have hLkH := Lib.hid hLk
    have hkIH := Lib.hid hkI
    clear v1 h hv ok hLt hLk hce hkI g0
    go_enter Tryz.func45, Tryz.ntmps45
    go_wp2_with fail
    refine v1H.out.mono ?_
    rintro e w1 ⟨v2, rfl, o2, hb1⟩
    obtain ⟨aN, cN, hvN, hN⟩ := OwnI.ints o2
    rw [hll] at hvN
    subst hvN
    have hNH := Lib.hid hN
    have hb1H := Lib.hid hb1
    clear o2 hN hb1 v1H
    simp only
    go_wp2_with fail
    go_loopw [8, 10, 22] (fun vO _ iV wr => ctI p w1 vO iV wr) (fun _ _ iV _ => L.length - (intOf iV).toNat)
    case atStart => rw [hkIH.out]; exact ⟨0, rfl, Nat.zero_le _, .nil _ _ _ _ _, Below.refl _ _⟩
    case round =>
      rw [hkIH.out] at hrel
      obtain ⟨k, rfl, hk, hO, hB⟩ := hrel
      by_cases hlt : k < L.length
      · obtain ⟨bN, oN, haN, -, c1, -⟩ := (hNH.out.below hB).int k (by omega)
        subst haN
        rw [hLkH.out k hlt (by omega)] at c1
        have hi := hLtH.out k hlt
        have htk := htkH.out k hlt
        have hcl := hclH.out k
        obtain ⟨i, hie⟩ : ∃ i, L[k] = i := ⟨_, rfl⟩
        rw [hie] at c1 hi htk
        obtain ⟨bp, off, hae, -, r0, r1, r2⟩ := Sl.stp ((hH.out.below hb1H.out).below hB) i hi
        subst hae
        rw [getD_stp hi] at htk
        have hst := r2.2
        obtain ⟨x, hxe⟩ : ∃ x, p[i] = x := ⟨_, rfl⟩
        rw [hxe] at r0 r1 r2 htk hst
        obtain ⟨x1, x2, x3⟩ := x
        simp only at r0 r1 r2 htk hst
        have hst2 : inRange x2 := hst.2.1
        by_cases h1 : x1 = 1
        · rw [if_pos h1] at htk
          subst h1
          obtain ⟨v', W', hrun, ho, hg, -⟩ := OwnL.push (P := Tryz.prog) (t := 33) (ty := 33) hO Tryz.underlying33 infoInt rfl (vs := [.int .i64 x2]) (x := x2) ⟨rfl, hst2⟩ (by omega) (by unfold big; omega) (by have := hB.size; omega)
          rw [← htk] at ho
          have hrel : ctI p w1 v' (.int .i64 ((k : Int) + 1)) W' := by rw [hkIH.out]; exact ⟨k + 1, by go_num, by omega, ho, hB.grown hg (by have := hB.size; omega) (fun k e => (OwnL.lt hO k e).1)⟩
          have hrelH := Lib.hid hrel
          clear hrel hO hB htk hxe ho hg hcl hst hst2 hie
          go_wp2_with (at_builtin; refine wpList_append_run rfl _ _ _ rfl rfl rfl hrun ?_)
          all_goals go_roundw
          all_goals first | exact hrelH.out | (simp [intOf]; done) | (simp [intOf]; omega)
        · rw [if_neg h1] at htk
          have hrel : ctI p w1 u8 (.int .i64 ((k : Int) + 1)) wr := by rw [hkIH.out]; exact ⟨k + 1, by go_num, by omega, by rw [htk]; exact hO, hB⟩
          have hrelH := Lib.hid hrel
          clear hrel hO hB htk hxe hcl hst hst2 hie
          go_wp2_with fail
          all_goals go_roundw
          all_goals first | exact hrelH.out | (simp [intOf]; done) | (simp [intOf]; omega)
      · obtain rfl : k = L.length := by omega
        have hcl := hclH.out L.length
        rw [List.take_length] at hO hcl
        have hOH := Lib.hid hO
        have hBH := Lib.hid hB
        have hbs := hB.size
        clear hO hB
        go_wp2_with fail
        refine (sortI_any hOH.out (by omega) hbs).mono ?_
        rintro e w3 ⟨rfl, o3, hb3⟩
        have o3H := Lib.hid o3
        have hB3 := Lib.hid (hBH.out.trans hb3)
        have hsz3 : ((citL p L).mergeSort fun x y => decide (x ≤ y)).length ≤ 1000000 := by rw [List.length_mergeSort]; omega
        clear o3 hb3 hOH hBH
        go_wp2_with fail
        refine (compactI_any o3H.out hsz3).mono ?_
        rintro e w4 ⟨v4, rfl, o4, hb4⟩
        have o4H := Lib.hid o4
        have hB4 := Lib.hid (hB3.out.trans hb4)
        clear o4 hb4 o3H hB3
        go_wp2_with fail
        all_goals go_ret2
        all_goals rw [hrH.out]
        all_goals exact ⟨_, rfl, OwnL.baseMono o4H.out hb1H.out.size, bcall hb1H.out hB4.out⟩
/-! ### of the reference -/
def rcO (p : List Stp) (G : Int) (w1 : World) (vO iV : Value) (wr : World) : Prop :=
  ∃ g : Nat, iV = .int .i64 g ∧ (g : Int) ≤ G ∧ OwnI wr w1.heap.size vO (citR g p) ∧ Below w1.heap.size w1 wr
def rcI (p : List Stp) (g : Nat) (w1 : World) (bV iV : Value) (wr : World) : Prop :=
  ∃ k : Nat, iV = .int .i64 k ∧ k ≤ p.length ∧ bV = .bool (citTo p g k) ∧ wr = w1
set_option maxRecDepth 100000 in
set_option maxHeartbeats 4000000 in
theorem rCited_any {S : Nat → Prop} (G : Int) (a : Option Addr) (c : Nat) (p : List Stp) (w : World) (h : Steps S w a c p) :
    Calls Tryz.prog 46 #[.int .i64 G, .slice a p.length c] w (retE (citedE G p) w) := by
  have v1 := rValidProof_any G a c p w h
  cases hv : proofB G p with
  | false =>
    rw [hv] at v1
    have v1H := Lib.hid v1
    have hrH := Lib.hid (show citedE G p = ([], 1) by unfold citedE; rw [hv]; rfl)
    clear v1 h hv
    go_enter Tryz.func46, Tryz.ntmps46
    go_wp2_with fail
    refine v1H.out.mono ?_
    rintro e w1 ⟨rfl, hb1⟩
    go_wp2_with fail
    go_ret2
    rw [hrH.out]
    exact ⟨_, rfl, .nil _ _ _ _ _, hb1⟩
  | true =>
    rw [hv] at v1
    obtain ⟨p1, p2, ok⟩ := proofB_all hv
    have g0 : 0 ≤ G ∧ G ≤ 60 := by simp only [proofB, Bool.and_eq_true, decide_eq_true_eq] at hv; exact ⟨hv.1.1, hv.1.2⟩
    have vu := fun W (hb : Below w.heap.size w W) => rneeded_any a c p W (h.below hb) ok p1 p2
    have v1H := Lib.hid v1
    have vuH := Lib.hid vu
    have hH := Lib.hid h
    have hrH := Lib.hid (show citedE G p = (citR G.toNat p, 0) by unfold citedE; rw [hv, if_pos rfl])
    obtain ⟨F, hF⟩ : ∃ F, ndL p = F := ⟨_, rfl⟩
    have hFl : F.length = p.length := by rw [← hF]; exact ndL_len p
    have hsuccH := Lib.hid (fun g k => citTo_succ p g k)
    rw [hF] at vuH
    simp only [hF] at hsuccH
    clear v1 h hv vu hF ok
    go_enter Tryz.func46, Tryz.ntmps46
    go_wp2_with fail
    refine v1H.out.mono ?_
    rintro e w0 ⟨rfl, hb0⟩
    go_wp2_with fail
    refine (vuH.out _ hb0).mono ?_
    rintro e w1 ⟨v2, rfl, o2, hb2⟩
    obtain ⟨aF, cF, hvF, hSF⟩ := OwnB.bools o2
    rw [hFl] at hvF
    subst hvF
    have hSFH := Lib.hid hSF
    have hb1H := Lib.hid (bcall hb0 hb2)
    clear o2 hSF hb0 hb2 v1H vuH
    go_wp2_with fail
    go_loopw [7, 8, 9, 10] (fun vO iV _ _ wr => rcO p G w1 vO iV wr) (fun _ iV _ _ _ => G.toNat - (intOf iV).toNat)
    case atStart => exact ⟨0, rfl, by omega, .nil _ _ _ _ _, Below.refl _ _⟩
    case round =>
      obtain ⟨g, rfl, hg, hO, hB⟩ := hrel
      by_cases hlt : (g : Int) < G
      · have hOH := Lib.hid hO
        have hBH := Lib.hid hB
        clear hO hB
        go_wp2_with fail
        go_loopw [9, 10] (fun bV iV wx => rcI p g wr bV iV wx) (fun _ iV _ => p.length - (intOf iV).toNat)
        case atStart => exact ⟨0, rfl, Nat.zero_le _, rfl, rfl⟩
        case round =>
          obtain ⟨k, rfl, hk, rfl, hww⟩ := hrel
          subst hww
          by_cases hltk : k < p.length
          · have hs := hsuccH.out g k
            obtain ⟨bF, oF, haF, -, c1⟩ := (hSFH.out.below hBH.out).bool k (by omega)
            subst haF
            rw [show F.getD k false = F[k]'(by omega) by rw [List.getD_eq_getElem?_getD, List.getElem?_eq_getElem (by omega)]; rfl, getD_stp hltk] at hs
            obtain ⟨bp, off, hae, -, r0, r1, r2⟩ := Sl.stp ((hH.out.below hb1H.out).below hBH.out) k hltk
            subst hae
            obtain ⟨x, hxe⟩ : ∃ x, p[k] = x := ⟨_, rfl⟩
            obtain ⟨is, hise⟩ : ∃ is, F[k]'(by omega) = is := ⟨_, rfl⟩
            obtain ⟨tb, htb⟩ : ∃ tb, citTo p g k = tb := ⟨_, rfl⟩
            rw [hise] at c1 hs
            rw [hxe] at r0 r1 r2 hs
            rw [htb] at hs ⊢
            obtain ⟨x1, x2, x3⟩ := x
            simp only at r0 r1 r2 hs
            clear hise hxe htb
            have hnext : ∀ b, b = (tb || (is && (decide (x1 = 1) && decide (x2 = (g : Int))))) → rcI p g wr (.bool b) (.int .i64 ((k : Int) + 1)) wr := fun b hb => ⟨k + 1, by go_num, by omega, by rw [hs, hb], rfl⟩
            have hnextH := Lib.hid hnext
            clear hnext hs
            cases tb with
            | true =>
              go_wp2_with fail
              all_goals go_roundw
              all_goals first | exact hnextH.out _ rfl | (simp [intOf]; done) | (simp [intOf]; omega)
            | false =>
              cases is with
              | false =>
                go_wp2_with fail
                all_goals go_roundw
                all_goals first | exact hnextH.out _ rfl | (simp [intOf]; done) | (simp [intOf]; omega)
              | true =>
                by_cases h1 : x1 = 1
                · subst h1
                  by_cases h2 : x2 = (g : Int)
                  · have hfin := hnextH.out true (by rw [decide_eq_true h2]; rfl)
                    have hfinH := Lib.hid hfin
                    have hq2 : (x2 == (g : Int)) = true := by simpa using h2
                    clear hnextH hfin
                    go_wp2_with fail
                    all_goals go_roundw
                    all_goals first | exact hfinH.out | (simp [intOf]; done) | (simp [intOf]; omega)
                  · have hfin := hnextH.out false (by rw [decide_eq_false h2]; rfl)
                    have hfinH := Lib.hid hfin
                    have hq2 : (x2 == (g : Int)) = false := by simpa using h2
                    clear hnextH hfin
                    go_wp2_with fail
                    all_goals go_roundw
                    all_goals first | exact hfinH.out | (simp [intOf]; done) | (simp [intOf]; omega)
                · have hfin := hnextH.out false (by rw [decide_eq_false h1]; rfl)
                  have hfinH := Lib.hid hfin
                  clear hnextH hfin
                  go_wp2_with fail
                  all_goals go_roundw
                  all_goals first | exact hfinH.out | (simp [intOf]; done) | (simp [intOf]; omega)
          · obtain rfl : k = p.length := by omega
            rw [citTo_all]
            have hsr := citR_succ p g
            have hll := citR_len p g
            cases hcb : citB p g with
            | true =>
              rw [if_pos hcb] at hsr
              have hO := hOH.out
              have hB := hBH.out
              obtain ⟨v', W', hrun, ho, hgr, -⟩ := OwnL.push (P := Tryz.prog) (t := 33) (ty := 33) hO Tryz.underlying33 infoInt rfl (vs := [.int .i64 (g : Int)]) (x := (g : Int)) ⟨rfl, by unfold inRange; omega⟩ (by omega) (by unfold big; omega) (by have := hB.size; omega)
              rw [← hsr] at ho
              have hrel : rcO p G w1 v' (.int .i64 ((g : Int) + 1)) W' := ⟨g + 1, by go_num, by omega, ho, hB.grown hgr (by have := hB.size; omega) (fun k e => (OwnL.lt hO k e).1)⟩
              have hrelH := Lib.hid hrel
              clear hrel hO hB hsr ho hgr hll hcb
              go_wp2_with (at_builtin; refine wpList_append_run rfl _ _ _ rfl rfl rfl hrun ?_)
              all_goals go_roundw
              all_goals first | exact hrelH.out | (simp [intOf]; done) | (simp [intOf]; omega)
            | false =>
              rw [if_neg (by rw [hcb]; decide)] at hsr
              have hrel : rcO p G w1 u7 (.int .i64 ((g : Int) + 1)) wr := ⟨g + 1, by go_num, by omega, by rw [hsr]; exact hOH.out, hBH.out⟩
              have hrelH := Lib.hid hrel
              clear hrel hsr hll hcb
              go_wp2_with fail
              all_goals go_roundw
              all_goals first | exact hrelH.out | (simp [intOf]; done) | (simp [intOf]; omega)
      · obtain rfl : (g : Int) = G := by omega
        have hOH := Lib.hid hO
        have hBH := Lib.hid hB
        have hr := hrH.out
        rw [Int.toNat_natCast] at hr
        have hrH := Lib.hid hr
        clear hO hB hr
        go_wp2_with fail
        all_goals go_ret2
        all_goals rw [hrH.out]
        all_goals exact ⟨_, rfl, OwnL.baseMono hOH.out hb1H.out.size, bcall hb1H.out hBH.out⟩
end Go.Proofs.YtfcbdlfanmddbaaGreatDoor

/- The card of TongueTranslates: for every input TongueTranslates returns true and leaves its arguments as they were; the listed variables are tied to the program's text. No condition. -/
import Derived.Test.YtnhaoalcpbefoaaDoorMsD
import Derived.Handed
import Derived.Test.YtnhaoalcpbefoaaDoorMsH
import Derived.Test.YtnhaoalcpbefoaaDoorMsC
import Derived.Test.YtnhaoalcpbefoaaDoorMsF
import Derived.Test.YtnhaoalcpbefoaaDoorMsG
import Derived.BigQuiet
import Derived.Test.YtnhaoalcpbefoaaDoorMsI
import Derived.Test.YtnhaoalcpbefoaaDoorCards
import Derived.Test.YtnhaoalcpbefoaaDoorTie
/- strconv's two errors, out of the laid list. -/
namespace Go.Proofs.YtnhaoalcpbefoaaDoor
open Go Go.RowKit

theorem iface_cellsT {H : Type} {enc : TypeId × Value → H} {P : Program} {w : World} {sp : Nat → Bool} {fuel : Nat} {t : TypeId} {ms : Array (String × TypeId)} {cs : List Value} {x : DataW H × List MemPlace} (ht : P.underlying t = some (.interface ms))
    (h : DataW.trod enc P w 0 sp false fuel t cs = some x) : ∃ v, cs = [v] ∧ (v = .nilIface ∨ ∃ te pe, v = .iface te pe) := by
  cases fuel with
  | zero => simp [DataW.trod] at h
  | succ fuel =>
    unfold DataW.trod at h
    rw [ht] at h
    split at h <;> first | exact ⟨_, rfl, .inl rfl⟩ | exact ⟨_, rfl, .inr ⟨_, _, rfl⟩⟩ | (rename_i h2; cases h2; done) | cases h
theorem sent_of_cellsT {w : World} {g : Nat} {n : String} {cs : Array Value} (hg : Tryd.prog.globalNamed n = some g) (hv : w.var? Tryd.prog n = some cs) (hc : ∃ v, cs.toList = [v] ∧ (v = .nilIface ∨ ∃ te pe, v = .iface te pe)) : SentT w g := by
  obtain ⟨v, h1, h2⟩ := hc
  unfold World.var? at hv
  rw [hg, Option.bind_some] at hv
  split at hv
  · rename_i cs' t' f' hh
    obtain rfl := Option.some.inj hv
    have h3 : cs'[0]? = some v := by rw [← Array.getElem?_toList, h1]; rfl
    exact ⟨v, by simp [World.cell?, hh, h3], h2⟩
  · cases hv
theorem libT_of_laid {W : World} {n1 n2 n3 : String} {d1 d2 d3 d4 d5 : DataW Unit} {rest : List (String × DataW Unit)} (h : laidMet Tryd.prog ((n1, d1) :: (n2, d2) :: (n3, d3) :: ("strconv.ErrRange", d4) :: ("strconv.ErrSyntax", d5) :: rest) W) : LibT W := by
  have hg4 : Tryd.prog.globalNamed "strconv.ErrRange" = some 2 := by kernel_rfl
  have hg5 : Tryd.prog.globalNamed "strconv.ErrSyntax" = some 1 := by kernel_rfl
  have ht4 : (Tryd.prog.globals[2]?).map (·.type) = some 77 := by kernel_rfl
  have ht5 : (Tryd.prog.globals[1]?).map (·.type) = some 77 := by kernel_rfl
  obtain ⟨ps, ⟨_, _, _, _, _, _, _, _, _, _, ⟨_, _, _, _, _, _, _, _, _, _, ⟨_, _, _, _, _, _, _, _, _, _, ⟨g4, t4, cs4, f4, p4, q4, a4, b4, c4, e4, ⟨g5, t5, cs5, f5, p5, q5, a5, b5, c5, e5, _, _⟩, _⟩, _⟩, _⟩, _⟩, _⟩ := h
  obtain rfl := Option.some.inj (hg4.symm.trans a4)
  obtain rfl := Option.some.inj (hg5.symm.trans a5)
  obtain rfl := Option.some.inj (ht4.symm.trans b4)
  obtain rfl := Option.some.inj (ht5.symm.trans b5)
  exact ⟨sent_of_cellsT hg5 c5 (iface_cellsT Tryd.underlying77 e5), sent_of_cellsT hg4 c4 (iface_cellsT Tryd.underlying77 e4)⟩
end Go.Proofs.YtnhaoalcpbefoaaDoor

/- Facts of the program's types that the rows over the tongues want. -/
namespace Go.Proofs.YtnhaoalcpbefoaaDoor
open Go Go.RowKit Go.ChangeShapes Go.WideShapes Go.ChangeAt Go.Deep

end Go.Proofs.YtnhaoalcpbefoaaDoor

/- The type of a text with its tongues. -/
namespace Go.Proofs.YtnhaoalcpbefoaaDoor
open Go Go.RowKit Go.ChangeShapes Go.WideShapes Go.ChangeAt Go.Deep

theorem gText : Gives Tryd.prog 37 (pairE intE (pairE intE strE)) := gives3 Tryd.underlying37 rfl rfl rfl (by kernel_rfl) (by kernel_rfl) (by kernel_rfl) (by kernel_rfl) gInt gInt gStr
end Go.Proofs.YtnhaoalcpbefoaaDoor

/- The law TongueWrites, walked. -/
namespace Go.Proofs.YtnhaoalcpbefoaaDoor
open Go Go.RowKit Go.Maps

theorem twr_cases (s : Sg) (k : Int) (t : List Int) : ((writeE s k t).2 ≠ 0) ∨ (okT s t = true ∧ (k = 1 ∨ k = 2 ∨ k = 3) ∧ writeE s k t = (txt k.toNat s t, 0)) := by
  unfold writeE
  cases h1 : okT s t
  · left; simp
  · cases h2 : (decide (1 ≤ k) && decide (k ≤ 3))
    · left; simp
    · right; simp at h2; simp; omega
theorem readE_back {s : Sg} {k : Int} {t : List Int} (h : okT s t = true) (hk : k = 1 ∨ k = 2 ∨ k = 3) : readE s k (txt k.toNat s t) = (t, 0) := by
  have hok := (okT_parts h).1
  have hl := txt_len (k := k.toNat) t.length h (Nat.le_refl _)
  have h6 := (okT_parts h).2.2.1
  rw [readE, if_pos hok, if_pos (by rcases hk with rfl | rfl | rfl <;> decide), if_pos (by omega)]
  exact find_ok h rfl
set_option maxRecDepth 100000 in
set_option maxHeartbeats 8000000 in
theorem TongueWrites_walk {S1 S2 : Nat → Prop} (a1 : Option Addr) (c1 : Nat) (s : Sg) (k : Int) (a3 : Option Addr) (c3 : Nat) (t : List Int) (w : World) (h1 : Sign S1 w a1 c1 s) (h3 : Ints S2 w a3 c3 t) (hL : LibT w) :
    Calls Tryd.prog 3 #[.slice a1 s.length c1, .int .i64 k, .slice a3 t.length c3] w fun e w' => e = .returned (.bool true) ∧ Below w.heap.size w w' := by
  have m1 := h1.le
  have m3 := h3.le
  obtain ⟨W, hW⟩ : ∃ W, w.alloc (.cells #[.slice a3 t.length c3] 25) = W := ⟨_, rfl⟩
  have hB : Below w.heap.size w W := by rw [← hW]; exact below1 w _
  have hTs := Sl.new (E := slE intE) (S := fun _ => True) w [[.slice a3 t.length c3]] [t] 25 rfl (by unfold big; simp) (fun i g1 g2 => by
      match i, g1 with
      | 0, _ => exact ⟨_, _, rfl, h3.any⟩)
  have sm : Calls Tryd.prog 7 #[.slice a1 s.length c1, .slice (some ⟨w.heap.size, 0, none⟩) 1 1] W fun e w' => e = .returned (.bool (smallT s [t])) ∧ W = w' := Small_any a1 (some ⟨w.heap.size, 0, none⟩) c1 1 s [t] W (h1.below hB) (by rw [← hW]; exact hTs.any)
  have aw := Lib.hid (fun W' (hb : Below w.heap.size w W') => aw3_from hb (Nat.le_refl _))
  have hBH := Lib.hid hB
  have h1H := Lib.hid h1
  have h3H := Lib.hid h3
  have hLH := Lib.hid hL
  clear hTs h1 h3 hB hL
  cases z0 : smallT s [t] with
  | false =>
    rw [z0] at sm
    have smH := Lib.hid sm
    clear sm z0
    go_enter Tryd.func3, Tryd.ntmps3
    go_wp2_with fail
    try rw [hW]
    refine smH.out.mono ?_
    rintro e w1 ⟨rfl, rfl⟩
    go_wp2_with fail
    refine (aw.out _ hBH.out).mono ?_
    rintro e w2 ⟨rfl, hb2⟩
    go_wp2_with fail
    go_ret
    exact ⟨rfl, hb2⟩
  | true =>
  rw [z0] at sm
  have smH := Lib.hid sm
  have cw := Lib.hid (fun W' (hb : Below w.heap.size w W') => Write_any a1 a3 c1 c3 s k t W' (h1H.out.below hb) (h3H.out.below hb))
  have cr := Lib.hid (fun W' (hb : Below w.heap.size w W') => rTWrite_any a1 a3 c1 c3 s k t W' (h1H.out.below hb) (h3H.out.below hb))
  have crd := Lib.hid (fun b W' (hb : Below w.heap.size w W') => TRead_any a1 c1 s k b W' (h1H.out.below hb) (hLH.out.later hb))
  have cs := Lib.hid (fun W' (hb : Below w.heap.size w W') (S9 : Nat → Prop) aU cU (hU : Ints S9 W' aU cU t) => Same_any aU a3 cU c3 t t W' hU (h3H.out.below hb))
  clear sm z0
  rcases twr_cases s k t with hne | ⟨hx, hk, he⟩
  · obtain ⟨y, hy⟩ : ∃ y, writeE s k t = y := ⟨_, rfl⟩
    rw [hy] at cw cr hne
    obtain ⟨y1, y2⟩ := y
    have hy2 : (y2 == (0 : Int)) = false := by simpa using hne
    obtain ⟨Y, hY⟩ : ∃ Y, toB y1 = Y := ⟨_, rfl⟩
    simp only [hY] at cw cr
    clear hy hne hY
    go_enter Tryd.func3, Tryd.ntmps3
    go_wp2_with fail
    try rw [hW]
    refine smH.out.mono ?_
    rintro e w1 ⟨rfl, rfl⟩
    clear hW
    go_wp2_with fail
    (with_reducible refine (cw.out _ hBH.out).mono ?_)
    rintro e w2 ⟨rfl, hb2⟩
    have hB2 := Lib.hid (bcall hBH.out hb2)
    clear hb2
    go_wp2_with fail
    (with_reducible refine (cr.out _ hB2.out).mono ?_)
    rintro e w3 ⟨rfl, hb3⟩
    have hB3 := Lib.hid (bcall hB2.out hb3)
    clear hb3
    go_wp2_with fail
    (with_reducible refine (aw.out _ hB3.out).mono ?_)
    rintro e w4 ⟨rfl, hb4⟩
    go_wp2_with fail
    go_ret
    exact ⟨rfl, hb4⟩
  · rw [he] at cw cr
    have hrd := readE_back hx hk
    obtain ⟨Y, hY⟩ : ∃ Y, toB (txt k.toNat s t) = Y := ⟨_, rfl⟩
    simp only [hY] at cw cr
    have crd2 := Lib.hid (crd.out Y)
    rw [show Y.data.toList = txt k.toNat s t by rw [← hY]; rfl, hrd] at crd2
    clear he hrd hY crd
    go_enter Tryd.func3, Tryd.ntmps3
    go_wp2_with fail
    try rw [hW]
    refine smH.out.mono ?_
    rintro e w1 ⟨rfl, rfl⟩
    clear hW
    go_wp2_with fail
    (with_reducible refine (cw.out _ hBH.out).mono ?_)
    rintro e w2 ⟨rfl, hb2⟩
    have hB2 := Lib.hid (bcall hBH.out hb2)
    clear hb2
    go_wp2_with fail
    (with_reducible refine (cr.out _ hB2.out).mono ?_)
    rintro e w3 ⟨rfl, hb3⟩
    have hB3 := Lib.hid (bcall hB2.out hb3)
    clear hb3
    go_wp2_with fail
    (with_reducible refine (crd2.out _ hB3.out).mono ?_)
    rintro e w4 ⟨v, rfl, hO, hb4⟩
    obtain ⟨aU, cU, rfl, hI⟩ := OwnI.ints hO
    have hB4 := Lib.hid (bcall hB3.out hb4)
    have hIH := Lib.hid hI
    clear hb4 hI hO
    go_wp2_with fail
    (with_reducible refine (cs.out _ hB4.out _ _ _ hIH.out).mono ?_)
    rintro e w5 ⟨rfl, hd5⟩
    have hB5 := Lib.hid (bcall hB4.out (hd5.below _))
    clear hd5
    go_wp2_with fail
    (with_reducible refine (aw.out _ hB5.out).mono ?_)
    rintro e w6 ⟨rfl, hb6⟩
    go_wp2_with fail
    go_ret
    exact ⟨ret_bool (by simp), hb6⟩
end Go.Proofs.YtnhaoalcpbefoaaDoor

/- The law TongueReads, walked. -/
namespace Go.Proofs.YtnhaoalcpbefoaaDoor
open Go Go.RowKit Go.Maps

theorem readE_cases (s : Sg) (k : Int) (b : List UInt8) : ((readE s k b).1 = [] ∧ (readE s k b).2 ≠ 0) ∨ (∃ t, readE s k b = (t, 0) ∧ writeE s k t = (b, 0)) := by
  unfold readE
  cases h1 : okSign s
  · left; simp
  · cases h2 : (decide (1 ≤ k) && decide (k ≤ 3))
    · left; simp
    · by_cases h3 : b.length ≤ 65536
      · rw [if_pos rfl, if_pos rfl, if_pos h3]
        rcases find_inv (s := s) (k := k.toNat) (b := b) with ⟨t, e1, e2, e3⟩ | e
        · right
          refine ⟨t, e3, ?_⟩
          unfold writeE
          rw [if_pos e1, if_pos h2, e2]
        · left; rw [e]; simp
      · left; simp [h3]
set_option maxRecDepth 100000 in
set_option maxHeartbeats 8000000 in
theorem TongueReads_walk {S1 : Nat → Prop} (a1 : Option Addr) (c1 : Nat) (s : Sg) (k : Int) (text : ByteArray) (w : World) (h1 : Sign S1 w a1 c1 s) (hL : LibT w) :
    Calls Tryd.prog 4 #[.slice a1 s.length c1, .int .i64 k, .string text] w fun e w' => e = .returned (.bool true) ∧ Below w.heap.size w w' := by
  have m1 := h1.le
  have sm : Calls Tryd.prog 7 #[.slice a1 s.length c1, .slice none 0 0] w fun e w' => e = .returned (.bool (smallT s [])) ∧ w = w' := Small_any (S2 := fun _ => True) a1 none c1 0 s [] w h1 (Sl.empty)
  have aw := Lib.hid (fun W' (hb : Below w.heap.size w W') => aw3_from hb (Nat.le_refl _))
  have h1H := Lib.hid h1
  have hLH := Lib.hid hL
  clear h1 hL
  cases z0 : smallT s [] with
  | false =>
    rw [z0] at sm
    have smH := Lib.hid sm
    clear sm z0
    go_enter Tryd.func4, Tryd.ntmps4
    go_wp2_with fail
    refine smH.out.mono ?_
    rintro e w1 ⟨rfl, rfl⟩
    go_wp2_with fail
    refine (aw.out _ (.refl _ _)).mono ?_
    rintro e w2 ⟨rfl, hb2⟩
    go_wp2_with fail
    go_ret
    exact ⟨rfl, hb2⟩
  | true =>
  rw [z0] at sm
  have smH := Lib.hid sm
  have crd := Lib.hid (TRead_any a1 c1 s k text w h1H.out hLH.out)
  have crr := Lib.hid (fun W' (hb : Below w.heap.size w W') => rTRead_any a1 c1 s k text W' (h1H.out.below hb))
  have cs := Lib.hid (fun (t : List Int) W' (S8 S9 : Nat → Prop) aU cU aV cV (hU : Ints S8 W' aU cU t) (hV : Ints S9 W' aV cV t) => Same_any aU aV cU cV t t W' hU hV)
  have cw := Lib.hid (fun (t : List Int) W' (hb : Below w.heap.size w W') (S8 : Nat → Prop) aU cU (hU : Ints S8 W' aU cU t) => Write_any a1 aU c1 cU s k t W' (h1H.out.below hb) hU)
  clear sm z0
  rcases readE_cases s k text.data.toList with ⟨hn1, hn2⟩ | ⟨t, hr, hwr⟩
  · obtain ⟨y, hy⟩ : ∃ y, readE s k text.data.toList = y := ⟨_, rfl⟩
    rw [hy] at crd crr hn1 hn2
    obtain ⟨y1, y2⟩ := y
    dsimp only at hn1 hn2
    subst hn1
    have hy2 : (y2 == (0 : Int)) = false := by simpa using hn2
    have cs2 := Lib.hid (fun W' (S8 S9 : Nat → Prop) aU cU aV cV (hU : Ints S8 W' aU cU []) (hV : Ints S9 W' aV cV []) => (show Calls Tryd.prog 12 #[.slice aU 0 cU, .slice aV 0 cV] W' (fun e w' => e = .returned (.bool (decide (([] : List Int) = []))) ∧ Drew W' w') from cs.out [] W' S8 S9 aU cU aV cV hU hV))
    clear hy hn2
    go_enter Tryd.func4, Tryd.ntmps4
    go_wp2_with fail
    refine smH.out.mono ?_
    rintro e w1 ⟨rfl, rfl⟩
    go_wp2_with fail
    (with_reducible refine crd.out.mono ?_)
    rintro e w2 ⟨v2, rfl, hO2, hb2⟩
    have hB2 := Lib.hid hb2
    clear hb2
    go_wp2_with fail
    (with_reducible refine (crr.out _ hB2.out).mono ?_)
    rintro e w3 ⟨v3, rfl, hO3, hb3⟩
    have hO2' := OwnL.call hO2 hb3
    have hB3 := Lib.hid (bcall hB2.out hb3)
    obtain ⟨aU, cU, rfl, hI2⟩ := OwnI.ints hO2'
    obtain ⟨aV, cV, rfl, hI3⟩ := OwnI.ints hO3
    have hI2H := Lib.hid hI2
    have hI3H := Lib.hid hI3
    clear hb3 hO2 hO3 hO2' hI2 hI3
    go_wp2_with fail
    (with_reducible refine (cs2.out _ _ _ _ _ _ _ hI2H.out hI3H.out).mono ?_)
    rintro e w4 ⟨rfl, hd4⟩
    have hB4 := Lib.hid (bcall hB3.out (hd4.below _))
    clear hd4
    simp only [decide_true]
    go_wp2_with fail
    (with_reducible refine (aw.out _ hB4.out).mono ?_)
    rintro e w5 ⟨rfl, hb5⟩
    go_wp2_with fail
    go_ret
    exact ⟨rfl, hb5⟩
  · rw [hr] at crd crr
    have cs2 := Lib.hid (cs.out t)
    have cw2 := Lib.hid (cw.out t)
    rw [hwr] at cw2
    dsimp only at cw2
    rw [show toB text.data.toList = text from rfl] at cw2
    clear hr hwr
    go_enter Tryd.func4, Tryd.ntmps4
    go_wp2_with fail
    refine smH.out.mono ?_
    rintro e w1 ⟨rfl, rfl⟩
    go_wp2_with fail
    (with_reducible refine crd.out.mono ?_)
    rintro e w2 ⟨v2, rfl, hO2, hb2⟩
    have hB2 := Lib.hid hb2
    clear hb2
    go_wp2_with fail
    (with_reducible refine (crr.out _ hB2.out).mono ?_)
    rintro e w3 ⟨v3, rfl, hO3, hb3⟩
    have hO2' := OwnL.call hO2 hb3
    have hB3 := Lib.hid (bcall hB2.out hb3)
    obtain ⟨aU, cU, rfl, hI2⟩ := OwnI.ints hO2'
    obtain ⟨aV, cV, rfl, hI3⟩ := OwnI.ints hO3
    have hI2H := Lib.hid hI2
    have hI3H := Lib.hid hI3
    clear hb3 hO2 hO3 hO2' hI2 hI3
    go_wp2_with fail
    (with_reducible refine (cs2.out _ _ _ _ _ _ _ hI2H.out hI3H.out).mono ?_)
    rintro e w4 ⟨rfl, hd4⟩
    have hb4 := hd4.below w3.heap.size
    have hB4 := Lib.hid (bcall hB3.out hb4)
    have hI4 := Lib.hid (hI2H.out.below hb4)
    clear hd4 hb4
    simp only [decide_true]
    go_wp2_with fail
    (with_reducible refine (cw2.out _ hB4.out _ _ _ hI4.out).mono ?_)
    rintro e w5 ⟨rfl, hb5⟩
    have hB5 := Lib.hid (bcall hB4.out hb5)
    clear hb5
    go_wp2_with fail
    (with_reducible refine (aw.out _ hB5.out).mono ?_)
    rintro e w6 ⟨rfl, hb6⟩
    go_wp2_with fail
    go_ret
    exact ⟨rfl, hb6⟩
end Go.Proofs.YtnhaoalcpbefoaaDoor

/- Walks: Translate of both sides. -/
namespace Go.Proofs.YtnhaoalcpbefoaaDoor
open Go Go.RowKit Go.Maps

def trE (s : Sg) (k1 k2 : Int) (b : List UInt8) : List UInt8 × Int :=
  if okSign s = true then (if ((decide (1 ≤ k1) && decide (k1 ≤ 3)) && (decide (1 ≤ k2) && decide (k2 ≤ 3))) = true then (if (readE s k1 b).2 = 0 then writeE s k2 (readE s k1 b).1 else ([], (readE s k1 b).2)) else ([], 7)) else ([], 1)
set_option maxRecDepth 20000 in
set_option maxHeartbeats 4000000 in
theorem Translate_any {S1 : Nat → Prop} (a1 : Option Addr) (c1 : Nat) (s : Sg) (k1 k2 : Int) (text : ByteArray) (w : World) (h1 : Sign S1 w a1 c1 s) (hL : LibT w) :
    Calls Tryd.prog 14 #[.slice a1 s.length c1, .int .i64 k1, .int .i64 k2, .string text] w fun e w' => e = .returned (.tuple #[.string (toB (trE s k1 k2 text.data.toList).1), .int .i64 (trE s k1 k2 text.data.toList).2]) ∧ Below w.heap.size w w' := by
  have m1 := h1.le
  have v1 := Lib.hid (ValidSign_any a1 c1 s w h1)
  have v2 := Lib.hid (fun W => twithin_any k1 1 3 W)
  have v3 := Lib.hid (fun W => twithin_any k2 1 3 W)
  have h1H := Lib.hid h1
  have hrd := Lib.hid (fun W (hb : Below w.heap.size w W) => TRead_any a1 c1 s k1 text W (h1.below hb) (hL.later hb))
  obtain ⟨R, hRe⟩ : ∃ R, trE s k1 k2 text.data.toList = R := ⟨_, rfl⟩
  rw [hRe]
  unfold trE at hRe
  clear h1 hL
  cases hx : okSign s with
  | false =>
    rw [hx] at v1 hRe
    rw [if_neg (by simp)] at hRe
    have hE : readE s k1 text.data.toList = ([], 1) := by rw [readE, if_neg (by simp [hx])]
    rw [hE] at hrd
    have hRH := Lib.hid hRe
    clear hx hRe hE
    go_enter Tryd.func14, Tryd.ntmps14
    go_wp2_with fail
    refine v1.out.mono ?_
    rintro e w1 ⟨rfl, hb1⟩
    go_wp2_with fail
    (with_reducible refine (hrd.out _ hb1).mono ?_)
    rintro e w2 ⟨v, rfl, -, hb2⟩
    go_wp2_with fail
    go_ret2
    rw [← hRH.out]
    exact ⟨rfl, bcall hb1 hb2⟩
  | true =>
  rw [hx] at v1 hRe
  rw [if_pos rfl] at hRe
  cases hm1 : (decide (1 ≤ k1) && decide (k1 ≤ 3)) with
  | false =>
    rw [hm1] at v2 hRe
    rw [if_neg (by simp)] at hRe
    have hRH := Lib.hid hRe
    clear hx hRe hm1 hrd
    go_enter Tryd.func14, Tryd.ntmps14
    go_wp2_with fail
    refine v1.out.mono ?_
    rintro e w1 ⟨rfl, hb1⟩
    go_wp2_with fail
    refine (v2.out _).mono ?_
    rintro e w2 ⟨rfl, rfl⟩
    go_wp2_with fail
    go_ret2
    rw [← hRH.out]
    exact ⟨rfl, hb1⟩
  | true =>
  rw [hm1] at v2 hRe
  cases hm2 : (decide (1 ≤ k2) && decide (k2 ≤ 3)) with
  | false =>
    rw [hm2] at v3 hRe
    rw [if_neg (by simp)] at hRe
    have hRH := Lib.hid hRe
    clear hx hRe hm1 hm2 hrd
    go_enter Tryd.func14, Tryd.ntmps14
    go_wp2_with fail
    refine v1.out.mono ?_
    rintro e w1 ⟨rfl, hb1⟩
    go_wp2_with (first | (go_at_call 23; (first | (with_reducible refine (v2.out _).mono ?_) | (with_reducible refine (v3.out _).mono ?_)); rintro e w2 ⟨rfl, rfl⟩))
    go_ret2
    rw [← hRH.out]
    exact ⟨rfl, hb1⟩
  | true =>
  rw [hm2] at v3 hRe
  rw [if_pos (by simp)] at hRe
  have cw := Lib.hid (fun (t : List Int) W (hb : Below w.heap.size w W) (S8 : Nat → Prop) aU cU (hU : Ints S8 W aU cU t) => Write_any a1 aU c1 cU s k2 t W (h1H.out.below hb) hU)
  obtain ⟨y, hy⟩ : ∃ y, readE s k1 text.data.toList = y := ⟨_, rfl⟩
  rw [hy] at hrd hRe
  obtain ⟨t, n⟩ := y
  dsimp only at hRe
  clear hx hm1 hm2 hy
  by_cases hn : n = 0
  · subst hn
    rw [if_pos rfl] at hRe
    have cw2 := Lib.hid (cw.out t)
    rw [hRe] at cw2
    clear hRe cw
    go_enter Tryd.func14, Tryd.ntmps14
    go_wp2_with fail
    refine v1.out.mono ?_
    rintro e w1 ⟨rfl, hb1⟩
    have hB1 := Lib.hid hb1
    clear hb1
    go_wp2_with (first | (go_at_call 23; (first | (with_reducible refine (v2.out _).mono ?_) | (with_reducible refine (v3.out _).mono ?_)); rintro e w2 ⟨rfl, rfl⟩))
    (with_reducible refine (hrd.out _ hB1.out).mono ?_)
    rintro e w2 ⟨v, rfl, hO, hb2⟩
    obtain ⟨aU, cU, rfl, hI⟩ := OwnI.ints hO
    have hB2 := Lib.hid (bcall hB1.out hb2)
    have hIH := Lib.hid hI
    clear hb2 hO hI
    go_wp2_with fail
    (with_reducible refine (cw2.out _ hB2.out _ _ _ hIH.out).mono ?_)
    rintro e w3 ⟨rfl, hb3⟩
    go_wp2_with fail
    go_ret2
    exact ⟨rfl, bcall hB2.out hb3⟩
  · rw [if_neg hn] at hRe
    have hnb : (n == (0 : Int)) = false := by simpa using hn
    have hRH := Lib.hid hRe
    clear hRe cw hn
    go_enter Tryd.func14, Tryd.ntmps14
    go_wp2_with fail
    refine v1.out.mono ?_
    rintro e w1 ⟨rfl, hb1⟩
    have hB1 := Lib.hid hb1
    clear hb1
    go_wp2_with (first | (go_at_call 23; (first | (with_reducible refine (v2.out _).mono ?_) | (with_reducible refine (v3.out _).mono ?_)); rintro e w2 ⟨rfl, rfl⟩))
    (with_reducible refine (hrd.out _ hB1.out).mono ?_)
    rintro e w2 ⟨v, rfl, -, hb2⟩
    go_wp2_with fail
    go_ret2
    rw [← hRH.out]
    exact ⟨rfl, bcall hB1.out hb2⟩
set_option maxRecDepth 20000 in
set_option maxHeartbeats 4000000 in
theorem rTranslate_any {S1 : Nat → Prop} (a1 : Option Addr) (c1 : Nat) (s : Sg) (k1 k2 : Int) (text : ByteArray) (w : World) (h1 : Sign S1 w a1 c1 s) :
    Calls Tryd.prog 15 #[.slice a1 s.length c1, .int .i64 k1, .int .i64 k2, .string text] w fun e w' => e = .returned (.tuple #[.string (toB (trE s k1 k2 text.data.toList).1), .int .i64 (trE s k1 k2 text.data.toList).2]) ∧ Below w.heap.size w w' := by
  have m1 := h1.le
  have v1 := Lib.hid (rValidSign_any a1 c1 s w h1)
  have v2 := Lib.hid (fun W => rtongues_any k1 W)
  have v3 := Lib.hid (fun W => rtongues_any k2 W)
  have h1H := Lib.hid h1
  have hrd := Lib.hid (fun W (hb : Below w.heap.size w W) => rTRead_any a1 c1 s k1 text W (h1.below hb))
  obtain ⟨R, hRe⟩ : ∃ R, trE s k1 k2 text.data.toList = R := ⟨_, rfl⟩
  rw [hRe]
  unfold trE at hRe
  clear h1
  cases hx : okSign s with
  | false =>
    rw [hx] at v1 hRe
    rw [if_neg (by simp)] at hRe
    have hRH := Lib.hid hRe
    clear hx hRe hrd
    go_enter Tryd.func15, Tryd.ntmps15
    go_wp2_with fail
    refine v1.out.mono ?_
    rintro e w1 ⟨rfl, hd1⟩
    have hb1 : Below w.heap.size w w1 := hd1.below _
    clear hd1
    go_wp2_with fail
    go_ret2
    rw [← hRH.out]
    exact ⟨rfl, hb1⟩
  | true =>
  rw [hx] at v1 hRe
  rw [if_pos rfl] at hRe
  cases hm1 : (decide (1 ≤ k1) && decide (k1 ≤ 3)) with
  | false =>
    rw [hm1] at v2 hRe
    rw [if_neg (by simp)] at hRe
    have hRH := Lib.hid hRe
    clear hx hRe hm1 hrd
    go_enter Tryd.func15, Tryd.ntmps15
    go_wp2_with fail
    refine v1.out.mono ?_
    rintro e w1 ⟨rfl, hd1⟩
    have hb1 : Below w.heap.size w w1 := hd1.below _
    clear hd1
    go_wp2_with fail
    refine (v2.out _).mono ?_
    rintro e w2 ⟨rfl, rfl⟩
    go_wp2_with fail
    go_ret2
    rw [← hRH.out]
    exact ⟨rfl, hb1⟩
  | true =>
  rw [hm1] at v2 hRe
  cases hm2 : (decide (1 ≤ k2) && decide (k2 ≤ 3)) with
  | false =>
    rw [hm2] at v3 hRe
    rw [if_neg (by simp)] at hRe
    have hRH := Lib.hid hRe
    clear hx hRe hm1 hm2 hrd
    go_enter Tryd.func15, Tryd.ntmps15
    go_wp2_with fail
    refine v1.out.mono ?_
    rintro e w1 ⟨rfl, hd1⟩
    have hb1 : Below w.heap.size w w1 := hd1.below _
    clear hd1
    go_wp2_with (first | (go_at_call 27; (first | (with_reducible refine (v2.out _).mono ?_) | (with_reducible refine (v3.out _).mono ?_)); rintro e w2 ⟨rfl, rfl⟩))
    go_ret2
    rw [← hRH.out]
    exact ⟨rfl, hb1⟩
  | true =>
  rw [hm2] at v3 hRe
  rw [if_pos (by simp)] at hRe
  have cw := Lib.hid (fun (t : List Int) W (hb : Below w.heap.size w W) (S8 : Nat → Prop) aU cU (hU : Ints S8 W aU cU t) => rTWrite_any a1 aU c1 cU s k2 t W (h1H.out.below hb) hU)
  obtain ⟨y, hy⟩ : ∃ y, readE s k1 text.data.toList = y := ⟨_, rfl⟩
  rw [hy] at hrd hRe
  obtain ⟨t, n⟩ := y
  dsimp only at hRe
  clear hx hm1 hm2 hy
  by_cases hn : n = 0
  · subst hn
    rw [if_pos rfl] at hRe
    have cw2 := Lib.hid (cw.out t)
    rw [hRe] at cw2
    clear hRe cw
    go_enter Tryd.func15, Tryd.ntmps15
    go_wp2_with fail
    refine v1.out.mono ?_
    rintro e w1 ⟨rfl, hd1⟩
    have hb1 : Below w.heap.size w w1 := hd1.below _
    clear hd1
    have hB1 := Lib.hid hb1
    clear hb1
    go_wp2_with (first | (go_at_call 27; (first | (with_reducible refine (v2.out _).mono ?_) | (with_reducible refine (v3.out _).mono ?_)); rintro e w2 ⟨rfl, rfl⟩))
    (with_reducible refine (hrd.out _ hB1.out).mono ?_)
    rintro e w2 ⟨v, rfl, hO, hb2⟩
    obtain ⟨aU, cU, rfl, hI⟩ := OwnI.ints hO
    have hB2 := Lib.hid (bcall hB1.out hb2)
    have hIH := Lib.hid hI
    clear hb2 hO hI
    go_wp2_with fail
    (with_reducible refine (cw2.out _ hB2.out _ _ _ hIH.out).mono ?_)
    rintro e w3 ⟨rfl, hb3⟩
    go_wp2_with fail
    go_ret2
    exact ⟨rfl, bcall hB2.out hb3⟩
  · rw [if_neg hn] at hRe
    have hnb : (n == (0 : Int)) = false := by simpa using hn
    have hRH := Lib.hid hRe
    clear hRe cw hn
    go_enter Tryd.func15, Tryd.ntmps15
    go_wp2_with fail
    refine v1.out.mono ?_
    rintro e w1 ⟨rfl, hd1⟩
    have hb1 : Below w.heap.size w w1 := hd1.below _
    clear hd1
    have hB1 := Lib.hid hb1
    clear hb1
    go_wp2_with (first | (go_at_call 27; (first | (with_reducible refine (v2.out _).mono ?_) | (with_reducible refine (v3.out _).mono ?_)); rintro e w2 ⟨rfl, rfl⟩))
    (with_reducible refine (hrd.out _ hB1.out).mono ?_)
    rintro e w2 ⟨v, rfl, -, hb2⟩
    go_wp2_with fail
    go_ret2
    rw [← hRH.out]
    exact ⟨rfl, bcall hB1.out hb2⟩
end Go.Proofs.YtnhaoalcpbefoaaDoor

/- The law TongueTranslates, walked. -/
namespace Go.Proofs.YtnhaoalcpbefoaaDoor
open Go Go.RowKit Go.Maps

theorem writeE_inv {s : Sg} {k : Int} {t : List Int} {b : List UInt8} (h : writeE s k t = (b, 0)) : okT s t = true ∧ (k = 1 ∨ k = 2 ∨ k = 3) ∧ b = txt k.toNat s t := by
  rcases twr_cases s k t with h2 | ⟨h1, h2, h3⟩
  · rw [h] at h2; exact (h2 rfl).elim
  · rw [h] at h3; exact ⟨h1, h2, (Prod.mk.inj h3).1⟩
theorem trE_cases (s : Sg) (k1 k2 : Int) (b : List UInt8) : ((trE s k1 k2 b).2 ≠ 0) ∨ (∃ c, trE s k1 k2 b = (c, 0) ∧ trE s k2 k1 c = (b, 0)) := by
  obtain ⟨R, hR⟩ : ∃ R, trE s k1 k2 b = R := ⟨_, rfl⟩
  rw [hR]
  unfold trE at hR
  cases h1 : okSign s
  · rw [h1, if_neg (by simp)] at hR; left; rw [← hR]; simp
  · rw [h1, if_pos rfl] at hR
    cases h2 : ((decide (1 ≤ k1) && decide (k1 ≤ 3)) && (decide (1 ≤ k2) && decide (k2 ≤ 3)))
    · rw [h2, if_neg (by simp)] at hR; left; rw [← hR]; simp
    · rw [h2, if_pos rfl] at hR
      rcases readE_cases s k1 b with ⟨e1, e2⟩ | ⟨t, e1, e2⟩
      · rw [if_neg e2] at hR; left; rw [← hR]; exact e2
      · rw [e1, if_pos rfl] at hR
        dsimp only at hR
        rcases twr_cases s k2 t with f1 | ⟨f1, f2, f3⟩
        · left; rw [← hR]; exact f1
        · right
          rw [f3] at hR
          refine ⟨txt k2.toNat s t, hR.symm, ?_⟩
          have h3 : ((decide (1 ≤ k2) && decide (k2 ≤ 3)) && (decide (1 ≤ k1) && decide (k1 ≤ 3))) = true := by rw [Bool.and_comm]; exact h2
          unfold trE
          rw [if_pos h1, if_pos h3, readE_back f1 f2, if_pos rfl]
          exact e2
set_option maxRecDepth 100000 in
set_option maxHeartbeats 8000000 in
theorem TongueTranslates_walk {S1 : Nat → Prop} (a1 : Option Addr) (c1 : Nat) (s : Sg) (k1 k2 : Int) (text : ByteArray) (w : World) (h1 : Sign S1 w a1 c1 s) (hL : LibT w) :
    Calls Tryd.prog 5 #[.slice a1 s.length c1, .agg #[.int .i64 k1, .int .i64 k2, .string text]] w fun e w' => e = .returned (.bool true) ∧ Below w.heap.size w w' := by
  have m1 := h1.le
  obtain ⟨W, hW⟩ : ∃ W, w.alloc (.cells #[.int .i64 k1, .int .i64 k2, .string text] 37) = W := ⟨_, rfl⟩
  have hB : Below w.heap.size w W := by rw [← hW]; exact below1 w _
  have q0 : W.cell? ⟨w.heap.size, 0, none⟩ = some (.int .i64 k1) := by rw [← hW]; clear hW hB; go_simp
  have q1 : W.cell? ⟨w.heap.size, 1, none⟩ = some (.int .i64 k2) := by rw [← hW]; clear hW hB q0; go_simp
  have q2 : W.cell? ⟨w.heap.size, 2, none⟩ = some (.string text) := by rw [← hW]; clear hW hB q0 q1; go_simp
  have hWH := Lib.hid hW
  have hzW : W.heap.size = w.heap.size + 1 := by rw [← hW, World.size_alloc]
  have q0H := Lib.hid (fun W' (hb : Below W.heap.size W W') => cell_later hb q0)
  have q1H := Lib.hid (fun W' (hb : Below W.heap.size W W') => cell_later hb q1)
  have q2H := Lib.hid (fun W' (hb : Below W.heap.size W W') => cell_later hb q2)
  have sm : Calls Tryd.prog 7 #[.slice a1 s.length c1, .slice none 0 0] W fun e w' => e = .returned (.bool (smallT s [])) ∧ W = w' := Small_any (S2 := fun _ => True) a1 none c1 0 s [] W (h1.below hB) (Sl.empty)
  have aw := Lib.hid (fun W' (hb : Below w.heap.size w W') => aw3_from hb (Nat.le_refl _))
  have h1H := Lib.hid (h1.below hB)
  have hLH := Lib.hid (hL.later hB)
  have hBH := Lib.hid hB
  clear h1 hL hW hzW hB
  cases z0 : smallT s [] with
  | false =>
    rw [z0] at sm
    have smH := Lib.hid sm
    clear sm z0 q0 q1 q2
    go_enter Tryd.func5, Tryd.ntmps5
    go_upto_region 1 with fail
    rw [hWH.out]
    go_wp2_with fail
    refine smH.out.mono ?_
    rintro e w1 ⟨rfl, rfl⟩
    go_wp2_with fail
    refine (aw.out _ hBH.out).mono ?_
    rintro e w2 ⟨rfl, hb2⟩
    go_wp2_with fail
    go_ret
    exact ⟨rfl, hb2⟩
  | true =>
  rw [z0] at sm
  have smH := Lib.hid sm
  have ct := Lib.hid (fun W' (hb : Below W.heap.size W W') j1 j2 b => Translate_any a1 c1 s j1 j2 b W' (h1H.out.below hb) (hLH.out.later hb))
  have cr := Lib.hid (fun W' (hb : Below W.heap.size W W') => rTranslate_any a1 c1 s k1 k2 text W' (h1H.out.below hb))
  clear sm z0
  have ct1 := Lib.hid (ct.out W (.refl _ _) k1 k2 text)
  rcases trE_cases s k1 k2 text.data.toList with hne | ⟨c, he, hback⟩
  · obtain ⟨y, hy⟩ : ∃ y, trE s k1 k2 text.data.toList = y := ⟨_, rfl⟩
    rw [hy] at ct1 cr hne
    obtain ⟨y1, y2⟩ := y
    have hy2 : (y2 == (0 : Int)) = false := by simpa using hne
    obtain ⟨Y, hY⟩ : ∃ Y, toB y1 = Y := ⟨_, rfl⟩
    simp only [hY] at ct1 cr
    clear hy hne hY
    go_enter Tryd.func5, Tryd.ntmps5
    go_upto_region 1 with fail
    rw [hWH.out]
    go_wp2_with fail
    refine smH.out.mono ?_
    rintro e w1 ⟨rfl, rfl⟩
    go_wp2_with fail
    (with_reducible refine ct1.out.mono ?_)
    rintro e w2 ⟨rfl, hb2⟩
    have y0 := q0H.out _ hb2
    have y1 := q1H.out _ hb2
    have y2 := q2H.out _ hb2
    have hB2 := Lib.hid hb2
    clear hb2
    go_wp2_with fail
    (with_reducible refine (cr.out _ hB2.out).mono ?_)
    rintro e w3 ⟨rfl, hb3⟩
    have hB3 := Lib.hid (bcall hBH.out (bcall hB2.out hb3))
    clear hb3
    go_wp2_with fail
    (with_reducible refine (aw.out _ hB3.out).mono ?_)
    rintro e w4 ⟨rfl, hb4⟩
    go_wp2_with fail
    go_ret
    exact ⟨rfl, hb4⟩
  · rw [he] at ct1 cr
    obtain ⟨Y, hY⟩ : ∃ Y, toB c = Y := ⟨_, rfl⟩
    simp only [hY] at ct1 cr
    have ct2 := Lib.hid (fun W' (hb : Below W.heap.size W W') => ct.out W' hb k2 k1 Y)
    rw [show Y.data.toList = c by rw [← hY]; rfl, hback] at ct2
    dsimp only at ct2
    rw [show toB text.data.toList = text from rfl] at ct2
    clear he hback hY ct
    go_enter Tryd.func5, Tryd.ntmps5
    go_upto_region 1 with fail
    rw [hWH.out]
    go_wp2_with fail
    refine smH.out.mono ?_
    rintro e w1 ⟨rfl, rfl⟩
    go_wp2_with fail
    (with_reducible refine ct1.out.mono ?_)
    rintro e w2 ⟨rfl, hb2⟩
    have y0 := q0H.out _ hb2
    have y1 := q1H.out _ hb2
    have y2 := q2H.out _ hb2
    have hB2 := Lib.hid hb2
    clear hb2
    go_wp2_with fail
    (with_reducible refine (cr.out _ hB2.out).mono ?_)
    rintro e w3 ⟨rfl, hb3⟩
    have hb3' := bcall hB2.out hb3
    have x0 := q0H.out _ hb3'
    have x1 := q1H.out _ hb3'
    have x2 := q2H.out _ hb3'
    have hB3 := Lib.hid hb3'
    clear hb3 hb3'
    go_wp2_with fail
    (with_reducible refine (ct2.out _ hB3.out).mono ?_)
    rintro e w4 ⟨rfl, hb4⟩
    have hb4' := bcall hB3.out hb4
    have z0 := q0H.out _ hb4'
    have z1 := q1H.out _ hb4'
    have z2 := q2H.out _ hb4'
    have hB4 := Lib.hid (bcall hBH.out hb4')
    clear hb4 hb4'
    go_wp2_with fail
    (with_reducible refine (aw.out _ hB4.out).mono ?_)
    rintro e w5 ⟨rfl, hb5⟩
    go_wp2_with fail
    go_ret
    exact ⟨rfl, hb5⟩
end Go.Proofs.YtnhaoalcpbefoaaDoor

/- The card of TongueTranslates: for every input TongueTranslates returns true and leaves its arguments as they were; the listed variables are tied to the program's text. No condition. -/
namespace Go.Proofs.YtnhaoalcpbefoaaDoor
open Go Go.RowKit Go.ChangeShapes Go.WideShapes Go.ChangeAt

theorem tongueTranslates_laid {W : World} : laidMetH Tryd.prog Rows.tongueTranslatesRow.laid W = laidMet Tryd.prog [("math/bits.deBruijn32tab", Rows.laid_math_bits_deBruijn32tab), ("math/bits.deBruijn64tab", Rows.laid_math_bits_deBruijn64tab), ("internal/strconv.uint64pow10", Rows.laid_internal_strconv_uint64pow10), ("strconv.ErrRange", Rows.laid_strconv_ErrRange), ("strconv.ErrSyntax", Rows.laid_strconv_ErrSyntax)] W := by kernel_rfl
theorem tongueTranslates_door (os : Os) (args : Array Value) : laidMetH Tryd.prog Rows.tongueTranslatesRow.laid ((World.doorLaid Tryd.prog 400 os).forCall (fun _ _ => 0) ⟨#[], args, []⟩).memory :=
  laidMetH_of_parts3 (fuel := 8) (laidMet_of_run' 8 (by kernel_rfl) (by kernel_rfl)) (by kernel_rfl) (by kernel_rfl)
set_option maxRecDepth 100000 in
theorem tongueTranslates_lifted (os : Os) (started : os.Started) (H : Type) (enc : TypeId × Value → H) :
    ReturnsInHanded {} Tryd.checked os 5 .any (fun w args => (Rows.tongueTranslatesSpec.pre enc Tryd.prog Tryd.f5 [] false w args ∧ laidMetH Tryd.prog Rows.tongueTranslatesRow.laid w) ∧ sizedMet enc Tryd.prog Tryd.f5 (OpenSpec.ofChange Rows.tongueTranslatesSpec) false w args)
      (Rows.tongueTranslatesSpec.post enc Tryd.prog Tryd.f5 false true false false) := by
  refine returnsInHanded_of_change_and (C := Tryd.checked) (X := fun w _ => laidMetH Tryd.prog Rows.tongueTranslatesRow.laid w) (fun _ _ _ hh h => h.of_heap hh) Tryd.own started (by kernel_rfl) Tryd.func5
    (ChangeSpec.witness_shaped (enc := enc) (C := Tryd.checked) (os := os) (X := fun w _ => laidMetH Tryd.prog Rows.tongueTranslatesRow.laid w) false (World.doorLaid Tryd.prog 400 os) #[.slice none 0 0, .agg #[.int .i64 0, .int .i64 0, .string ByteArray.empty]] 8 rfl (World.shaped_of_RefB (by kernel_rfl) (by kernel_rfl)) (by kernel_rfl) (by kernel_rfl) (by kernel_rfl) (tongueTranslates_door os _)) ?_
  intro W base args ds gs before hval0 hW _ _ hL _
  have hLib : LibT W := libT_of_laid (n1 := _) (n2 := _) (n3 := _) (d1 := _) (d2 := _) (d3 := _) (d4 := _) (d5 := _) (rest := _) (Eq.mp tongueTranslates_laid hL)
  clear hL
  have hval : ∀ (j : Nat) t v, Tryd.f5.params[j]? = some t → args[j]? = some v → Value.okWide Tryd.prog W .any base t v := hval0
  have hW' := hW
  obtain ⟨p, q, hA0, hV, rfl, hfz, hnd⟩ := hW
  have hA : DataW.TrodAll enc Tryd.prog W 0 (fun _ => true) true Tryd.f5.params.toList args.toList ds p := hA0
  rw [Tryd.params5] at hA hval
  obtain ⟨v0, v1, d0, d1, p0, p1, rfl, rfl, rfl, h0, h1⟩ := trodAll_two hA
  obtain ⟨rfl, rfl⟩ := trodVars_none hV
  clear hA0 hval0
  simp only [List.append_nil] at hW'
  have hlt : ∀ x ∈ p0 ++ p1, x.block < W.heap.size := fun x hx => hW'.lt x (by simpa using hx)
  have keep0 := fun (W' : World) (hn : Below W.heap.size W W') => Below.trod Tryd.laidOut (by kernel_rfl) (of_decide_eq_true (by kernel_rfl)) h0 hn (fun x hx => hlt x (by simp [hx]))
  have keep1 := fun (W' : World) (hn : Below W.heap.size W W') => Below.trod Tryd.laidOut (by kernel_rfl) (of_decide_eq_true (by kernel_rfl)) h1 hn (fun x hx => hlt x (by simp [hx]))
  obtain ⟨l0, a0, c0, rfl, r0⟩ := gSign.arg h0 (okWide_slice Tryd.underlying23 (hval 0 23 v0 rfl rfl))
  obtain ⟨⟨x0, x1, s2⟩, vs, rfl, us, ts, rfl, ⟨rfl, wx0⟩, us1, ts1, rfl, ⟨rfl, wx1⟩, ⟨rfl, ws2⟩⟩ := gText.argAgg h1 (let ⟨cs, h, _⟩ := okWide_struct Tryd.underlying37 (hval 1 37 v1 rfl rfl); ⟨cs, h⟩)
  refine (TongueTranslates_walk _ _ _ _ _ _ W r0  hLib).mono fun e W' ⟨he, hB⟩ => ?_
  subst he
  exact ⟨_, rfl, _, _, _, [], p0 ++ p1, [], hW', trodAll_mk1 (shut_bool Tryd.underlying4 true), trodAll_mk2 (keep0 _ hB) (keep1 _ hB), rfl, hB.frame _, fun h => by cases h⟩

/-- TongueTranslates: for every input it returns true, and each argument reads as it did. -/
theorem tongueTranslates_holds : Rows.TongueTranslatesSaid :=
  OpenClaim.holds_of_wide 5 Tryd.f5 rfl rfl rfl rfl rfl rfl rfl ⟨rfl, rfl, rfl, rfl, rfl⟩ rfl rfl rfl rfl rfl (by kernel_rfl) Tryd.func5 (by kernel_rfl)
    (of_decide_eq_true (by kernel_rfl)) (by unfold Func.isWrapper; first | (rw [if_pos (by decide +kernel)]; kernel_rfl) | (rw [if_neg (by decide +kernel)]; exact ⟨rfl, rfl⟩))
    (fun os started H enc _ => tongueTranslates_lifted os started H enc)
/-- the card of TongueTranslates -/
theorem tongueTranslates_card_holds : Rows.TongueTranslatesCardSaid :=
  Claim7.holds_tied_plain_at .later [] [.data, .data, .data, .sentinel, .sentinel] true Rows.tongueTranslatesCard.stood.harness Rows.tongueTranslatesCard.stood.looks
    tongueTranslates_holds (fun _ h => by cases h) (by kernel_rfl) (fun _ h => by cases h) tongueTranslates_row_tie rfl ⟨rfl, rfl⟩ (by kernel_rfl) rfl
    (fun f fn hf hfn => by
      obtain rfl : f = 5 := Option.some.inj ((show Tryd.prog.funcNamed Rows.tongueTranslatesRow.func = some 5 by kernel_rfl).symm.trans hf) |>.symm
      obtain rfl : fn = Tryd.f5 := (Option.some.inj (Tryd.func5.symm.trans hfn)).symm
      exact ⟨by kernel_rfl, fun j t ht => by
        rw [Tryd.params5] at ht
        have hm : t ∈ [23, 37] := by simpa using Array.mem_of_getElem? ht
        have hall : ([23, 37].all fun u => !Tryd.prog.wantsStandIn u) = true := by kernel_rfl
        exact (show Tryd.prog.wantsStandIn t = false by simpa using List.all_eq_true.1 hall t hm)⟩)
    (by kernel_rfl)
end Go.Proofs.YtnhaoalcpbefoaaDoor

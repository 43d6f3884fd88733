/- The proof of a statement, some of its texts joined in build order: part F. -/
import Derived.Test.YtnhaoalcpbefoaaDoorMathTok2
import Derived.Test.YtnhaoalcpbefoaaDoorMsE
import Derived.Test.YtnhaoalcpbefoaaDoorMsC
import Derived.Test.YtnhaoalcpbefoaaDoorTRegion
/- What Read answers; the bytes of a written text. No program is named. -/
namespace Go.Proofs.YtnhaoalcpbefoaaDoor

def Asc (l : List UInt8) : Prop := ∀ c ∈ l, c.toNat < 128
theorem Asc.append {a b : List UInt8} (ha : Asc a) (hb : Asc b) : Asc (a ++ b) := fun c hc => by
  rcases List.mem_append.1 hc with h | h
  · exact ha c h
  · exact hb c h
theorem Asc.cons {x : UInt8} {b : List UInt8} (ha : x.toNat < 128) (hb : Asc b) : Asc (x :: b) := fun c hc => by
  rcases List.mem_cons.1 hc with h | h
  · rw [h]; exact ha
  · exact hb c h
theorem Asc.nil : Asc [] := fun c hc => absurd hc (by simp)
theorem isLet_asc : ∀ c : UInt8, isLet c = true → c.toNat < 128 := fun c h => by
  unfold isLet at h
  simp only [Bool.or_eq_true, Bool.and_eq_true, decide_eq_true_eq] at h
  omega
theorem Asc.tail {sep : List UInt8} (hs : Asc sep) : ∀ (A : List (List UInt8)), (∀ a ∈ A, Asc a) → Asc (Lib.joinTail sep A)
  | [], _ => by unfold Lib.joinTail; exact .nil
  | x :: A, h => by
    unfold Lib.joinTail
    exact (hs.append (h x (by simp))).append (Asc.tail hs A (fun a ha => h a (by simp [ha])))
theorem Asc.join {sep : List UInt8} (hs : Asc sep) : ∀ (A : List (List UInt8)), (∀ a ∈ A, Asc a) → Asc (Lib.join A sep)
  | [], _ => by unfold Lib.join; exact .nil
  | x :: A, h => by
    rw [Lib.join_cons]
    exact (h x (by simp)).append (Asc.tail hs A (fun a ha => h a (by simp [ha])))
theorem dgv_asc : ∀ v, v < 12 → ∀ c ∈ dgv v, c.toNat < 128 := by decide
theorem txt_asc {s : Sg} {k : Nat} : ∀ (f : Nat) {t : List Int}, okT s t = true → t.length ≤ f → Asc (txt k s t)
  | 0, t, h, hf => by have := (okT_parts h).2.1; omega
  | f + 1, t, h, hf => by
    have hok := (okT_parts h).1
    obtain ⟨n, x, ht, hc, hs⟩ := okT_head h
    obtain ⟨g1, g2, g3⟩ := argsT_spec h
    have hh : t.headD 0 = n := by rw [ht]; rfl
    by_cases hn : n < 0
    · have e := okT_varT h (by rw [hh]; exact hn)
      rw [hh] at e
      rw [e, txt_neg hn]
      have hv : (-n - 1).toNat < 12 := by simp [codeOk] at hc; omega
      rw [dec_dgv hv]
      exact .cons (by decide) (dgv_asc _ hv)
    · have hnl : n < s.length := by simp [codeOk] at hc; omega
      obtain ⟨n1, n2, -⟩ := nm_all hok (n := n) (by omega) hnl
      have hN : Asc (nmL s n) := fun c hc => isLet_asc c (List.all_eq_true.1 n1 c hc)
      have hA : ∀ a ∈ (argsT s t).map (txt k s), Asc a := fun a ha => by
        obtain ⟨u, hu, rfl⟩ := List.mem_map.1 ha
        have hl2 := len_flatten hu
        have : 1 + (argsT s t).flatten.length = t.length := by
          have := congrArg List.length g2
          rw [List.length_cons] at this; omega
        exact txt_asc f (g3 _ hu) (by omega)
      rw [txt_node h (by rw [hh]; omega), hh]
      have h32 : Asc [32] := .cons (by decide) .nil
      have h44 : Asc [44, 32] := .cons (by decide) (.cons (by decide) .nil)
      have har : Asc [32, 45, 62, 32] := .cons (by decide) (.cons (by decide) (.cons (by decide) (.cons (by decide) .nil)))
      have h41 : Asc [41] := .cons (by decide) .nil
      have h93 : Asc [93] := .cons (by decide) .nil
      unfold comb
      split
      · exact hN.append (Asc.tail h32 _ hA)
      · split
        · split
          · exact .cons (by decide) ((Asc.join har _ hA).append h41)
          · split
            · exact hN
            · exact hN.append (.cons (by decide) ((Asc.join h44 _ hA).append h41))
        · split
          · exact hN
          · exact .cons (by decide) ((hN.append (Asc.tail h32 _ hA)).append h93)
def findR (s : Sg) (k : Nat) (b : List UInt8) : List Int × Int :=
  match hgo s k b [] [] with
  | some t => if okT s t = true ∧ txt k s t = b then (t, 0) else ([], 2)
  | none => ([], 2)
def readE (s : Sg) (k : Int) (b : List UInt8) : List Int × Int :=
  if okSign s = true then (if (decide (1 ≤ k) && decide (k ≤ 3)) = true then (if b.length ≤ 65536 then findR s k.toNat b else ([], 3)) else ([], 7)) else ([], 1)
theorem find_ok {s : Sg} {k : Nat} {b : List UInt8} {t : List Int} (h : okT s t = true) (hb : txt k s t = b) : findR s k b = (t, 0) := by
  subst hb
  unfold findR
  rw [hgo_back h]
  simp [h]
theorem find_no {s : Sg} {k : Nat} {b : List UInt8} (h : ∀ t, okT s t = true → txt k s t = b → False) : findR s k b = ([], 2) := by
  unfold findR
  split
  · rename_i t _
    rw [if_neg (fun e => h t e.1 e.2)]
  · rfl
theorem find_inv {s : Sg} {k : Nat} {b : List UInt8} : (∃ t, okT s t = true ∧ txt k s t = b ∧ findR s k b = (t, 0)) ∨ findR s k b = ([], 2) := by
  by_cases h : ∃ t, okT s t = true ∧ txt k s t = b
  · obtain ⟨t, h1, h2⟩ := h
    exact .inl ⟨t, h1, h2, find_ok h1 h2⟩
  · exact .inr (find_no fun t h1 h2 => h ⟨t, h1, h2⟩)
/-- the tokens read, as the program does it -/
theorem find_tok {s : Sg} {k : Nat} (hk : k = 1 ∨ k = 2 ∨ k = 3) {b : List UInt8} {L : Toks} (hL : (∀ c ∈ b, c.toNat < 128) → L = tokM b []) :
    (rdM k s 62 (L, []) = none → findR s k b = ([], 2)) ∧ (∀ L' T, rdM k s 62 (L, []) = some (L', T) → (okT s T = true → txt k s T ≠ b → findR s k b = ([], 2)) ∧ (okT s T = false → findR s k b = ([], 2))) := by
  have key : ∀ t, okT s t = true → txt k s t = b → rdM k s 62 (L, []) = some ([], t) := fun t h1 h2 => by
    rw [hL (by rw [← h2]; exact txt_asc t.length h1 (Nat.le_refl _)), ← h2]
    exact rd_back hk h1
  refine ⟨fun hn => find_no fun t h1 h2 => ?_, fun L' T hs => ⟨fun g1 g2 => find_no fun t h1 h2 => ?_, fun g1 => find_no fun t h1 h2 => ?_⟩⟩
  · rw [key t h1 h2] at hn; cases hn
  · have := key t h1 h2
    rw [hs] at this
    have e : T = t := congrArg Prod.snd (Option.some.inj this)
    subst e; exact g2 h2
  · have := key t h1 h2
    rw [hs] at this
    have e : T = t := congrArg Prod.snd (Option.some.inj this)
    subst e; rw [h1] at g1; cases g1
/-- the map of names, half made -/
def nameJ (s : Sg) (j : Nat) (w : List UInt8) : Option Nat := (List.range j).find? (fun i : Nat => decide (nmL s (i : Int) = w))
theorem nameJ_end (s : Sg) (w : List UInt8) : nameJ s s.length w = nameI s w := rfl
theorem nameJ_zero (s : Sg) (w : List UInt8) : nameJ s 0 w = none := rfl
theorem nameJ_new {s : Sg} (h : okSign s = true) {j : Nat} (hj : j < s.length) : nameJ s j (nmL s (j : Int)) = none := by
  unfold nameJ
  rw [List.find?_eq_none]
  intro i hi he
  rw [decide_eq_true_eq] at he
  have := List.mem_range.1 hi
  have := nm_inj h (by omega) hj he
  omega
theorem nameJ_succ {s : Sg} (h : okSign s = true) {j : Nat} (hj : j < s.length) (w : List UInt8) : nameJ s (j + 1) w = if w = nmL s (j : Int) then some j else nameJ s j w := by
  have e : nameJ s (j + 1) w = (nameJ s j w).or (if w = nmL s (j : Int) then some j else none) := by
    unfold nameJ
    rw [List.range_succ, List.find?_append]
    congr 1
    by_cases hw : w = nmL s (j : Int)
    · subst hw; simp
    · rw [if_neg hw, List.find?_cons_of_neg (by simpa using fun e => hw e.symm)]; rfl
  rw [e]
  by_cases hw : w = nmL s (j : Int)
  · rw [if_pos hw, if_pos hw, hw, nameJ_new h hj]; rfl
  · rw [if_neg hw, if_neg hw]; simp
end Go.Proofs.YtnhaoalcpbefoaaDoor

/- Walks: tongue.Read. -/
namespace Go.Proofs.YtnhaoalcpbefoaaDoor
open Go Go.RowKit Go.Maps Go.Shelf

def nameJF (s : Sg) (j : Nat) (b : ByteArray) : Option Value := (nameJ s j b.data.toList).map (fun i => .int .i64 (i : Int))
theorem nmL_at {s : Sg} {j : Nat} (hj : j < s.length) : nmL s (j : Int) = s[j].1.data.toList := by
  unfold nmL
  rw [Int.toNat_natCast, List.getD_eq_getElem?_getD, List.getElem?_eq_getElem hj, Option.getD_some]
theorem nameJF_succ {s : Sg} (h : okSign s = true) {j : Nat} (hj : j < s.length) : nameJF s (j + 1) = fun z => if z = s[j].1 then some (.int .i64 (j : Int)) else nameJF s j z := by
  funext z
  unfold nameJF
  rw [nameJ_succ h hj, nmL_at hj]
  by_cases hz : z = s[j].1
  · subst hz; simp
  · rw [if_neg (fun e => hz (ba_ext2 e)), if_neg hz]
theorem nameJF_new {s : Sg} (h : okSign s = true) {j : Nat} (hj : j < s.length) : (nameJF s j s[j].1).isSome = false := by
  unfold nameJF
  rw [← nmL_at hj, nameJ_new h hj]; rfl
def rlRel (s : Sg) (W3 : World) (mb : Nat) (i : Value) (wr : World) : Prop :=
  ∃ j : Nat, i = .int .i64 j ∧ j ≤ s.length ∧ VMap strKT wr mb j (nameJF s j) ∧ W3.grownBy wr (some mb)
theorem RdW.facts {W0 W : World} {rb mb : Nat} {a1 : Option Addr} {c1 : Nat} {s : Sg} {L : List ByteArray} {T : List Int} (h : RdW W0 rb mb a1 c1 s W L T) :
    ∃ aT cT, W.cell? ⟨rb, 3, none⟩ = some (.slice aT T.length cT) ∧ Ints (fun b => W0.heap.size ≤ b) W aT cT T ∧ OwnI W W0.heap.size (.slice aT T.length cT) T := by
  obtain ⟨aL, cL, v, e1, e2, e3⟩ := h.cell
  obtain ⟨aT, cT, rfl, hI⟩ := OwnI.ints e3
  exact ⟨aT, cT, (obj_cells e1).2.2.2.1, hI, e3⟩
set_option maxRecDepth 20000 in
set_option maxHeartbeats 4000000 in
theorem TRead_any {S1 : Nat → Prop} (a1 : Option Addr) (c1 : Nat) (s : Sg) (k : Int) (text : ByteArray) (w : World) (h1 : Sign S1 w a1 c1 s) (hL : LibT w) :
    Calls Tryd.prog 11 #[.slice a1 s.length c1, .int .i64 k, .string text] w fun e w' => ∃ v, e = .returned (.tuple #[v, .int .i64 (readE s k text.data.toList).2]) ∧ OwnI w' w.heap.size v (readE s k text.data.toList).1 ∧ Below w.heap.size w w' := by
  have m1 := h1.le
  have v1 := Lib.hid (ValidSign_any a1 c1 s w h1)
  have hmm := @run_makeMap Tryd.prog
  cases hx : okSign s with
  | false =>
    rw [hx] at v1
    have hR := Lib.hid (show readE s k text.data.toList = ([], 1) by rw [readE, if_neg (by simp [hx])])
    clear h1 hx hmm hL
    go_enter Tryd.func11, Tryd.ntmps11
    go_wp2_with fail
    refine v1.out.mono ?_
    rintro e w1 ⟨rfl, hb1⟩
    go_wp2_with fail
    go_ret2
    rw [hR.out]
    exact ⟨_, rfl, OwnL.nil _ _ _ _ _, hb1⟩
  | true =>
  rw [hx] at v1
  have v2 := Lib.hid (fun W => twithin_any k 1 3 W)
  cases hm : (decide (1 ≤ k) && decide (k ≤ 3)) with
  | false =>
    rw [hm] at v2
    have hR := Lib.hid (show readE s k text.data.toList = ([], 7) by rw [readE, if_pos hx, if_neg (by simp [hm])])
    clear h1 hx hm hmm hL
    go_enter Tryd.func11, Tryd.ntmps11
    go_wp2_with fail
    refine v1.out.mono ?_
    rintro e w1 ⟨rfl, hb1⟩
    go_wp2_with fail
    refine (v2.out _).mono ?_
    rintro e w2 ⟨rfl, rfl⟩
    go_wp2_with fail
    go_ret2
    rw [hR.out]
    exact ⟨_, rfl, OwnL.nil _ _ _ _ _, hb1⟩
  | true =>
  rw [hm] at v2
  have hsz : text.data.toList.length = text.size := by rw [Array.length_toList]; rfl
  by_cases h65 : text.size ≤ 65536
  · have hR : readE s k text.data.toList = findR s k.toNat text.data.toList := by rw [readE, if_pos hx, if_pos hm, if_pos (by rw [hsz]; exact h65)]
    have hk : 1 ≤ k ∧ k ≤ 3 := by simpa using hm
    rw [hR]
    have v3 := Lib.hid (tokens_any text h65)
    have hgt : decide ((65536 : Int) < (text.size : Int)) = false := decide_eq_false (by omega)
    have h12 : s.length ≤ 12 := by
      unfold okSign at hx
      simp only [Bool.and_eq_true, decide_eq_true_eq] at hx
      exact hx.1.1.1.2
    have hxH := Lib.hid hx
    have h1H := Lib.hid h1
    have hLH := Lib.hid hL
    have hkH := Lib.hid hk
    clear hx h1 hL hm hR hsz hk
    go_enter Tryd.func11, Tryd.ntmps11
    go_wp2_with fail
    refine v1.out.mono ?_
    rintro e w1 ⟨rfl, hb1⟩
    go_wp2_with fail
    refine (v2.out _).mono ?_
    rintro e w2 ⟨rfl, rfl⟩
    go_wp2_with fail
    refine (v3.out _).mono ?_
    rintro e w2 ⟨vL, Lf, rfl, hT, hTs, hTl, hTt, hb2⟩
    obtain ⟨aL, cL, rfl, hT2⟩ := OwnL.slB hT (fun _ h => h.elim)
    obtain ⟨mb, hmb⟩ : ∃ mb, w1.heap.size = mb := ⟨_, rfl⟩
    obtain ⟨rb, hrb⟩ : ∃ rb, w2.heap.size = rb := ⟨_, rfl⟩
    obtain ⟨W3, hW3⟩ : ∃ W3, w2.alloc (readerO a1 s.length c1 mb (.slice aL Lf.length cL) (.slice none 0 0)) = W3 := ⟨_, rfl⟩
    have hs2 := hb2.size
    rw [World.size_alloc, hmb] at hs2
    have hV2 : VMap strKT W3 mb 0 (nameJF s 0) := by
      have a := VMap.made strKT w1
      rw [hmb] at a
      have b := a.below hb2 (by rw [World.size_alloc]; omega)
      rw [← hW3]
      exact b.below (below1 w2 _) (by rw [hrb]; omega)
    have hB3 : Below w.heap.size w W3 := by
      rw [← hW3]
      exact bcall (bcall (bcall hb1 (below1 w1 _)) hb2) (below1 w2 _)
    have hr3 : W3.heap[rb]? = some (readerO a1 s.length c1 mb (.slice aL Lf.length cL) (.slice none 0 0)) := by
      rw [← hW3, ← hrb]; exact heap_alloc_new _ _
    have hz3 : W3.heap.size = rb + 1 := by rw [← hW3, World.size_alloc, hrb]
    have hsl : Sl strE (fun b => mb < b ∧ b < rb) W3 aL cL Lf := by
      rw [← hW3]
      exact (hT2.lt.below (below1 w2 _)).weak (fun b hb => ⟨by have := hb.1; rw [World.size_alloc, hmb] at this; omega, by have := hb.2; omega⟩)
    have hwm : w.heap.size ≤ mb := by rw [← hmb]; exact hb1.size
    have hW3H := Lib.hid hW3
    have hV2H := Lib.hid hV2
    have hB3H := Lib.hid hB3
    have hr3H := Lib.hid hr3
    have hslH := Lib.hid hsl
    clear hT hT2 hb1 hb2 hV2 hB3 hr3 hsl hW3
    go_upto_region 8 with fail
    rw [hW3H.out]
    clear hW3H
    go_wp2_with fail
    go_loopw [32] (fun i wr => rlRel s W3 mb i wr) (fun i _ => s.length - (intOf i).toNat)
    case atStart => exact ⟨0, rfl, Nat.zero_le _, hV2H.out, gby_refl' _ _⟩
    case round =>
      obtain ⟨j, rfl, hj, hV, hG⟩ := hrel
      have hBr : Below w.heap.size w wr := hB3H.out.grown hG hB3H.out.size (fun i e => by injection e with e; omega)
      have hrr : wr.heap[rb]? = W3.heap[rb]? := hG.block rb (by omega) (fun e => by injection e with e; omega)
      rw [hr3H.out] at hrr
      by_cases hjl : j < s.length
      · obtain ⟨b, o, hab, -, q1, q2, hn1, hn2⟩ := (h1H.out.below hBr).sym j hjl
        obtain ⟨x, hxx⟩ : ∃ x, s[j].1 = x := ⟨_, rfl⟩
        obtain ⟨n, hnn⟩ : ∃ n, s[j].2 = n := ⟨_, rfl⟩
        rw [hxx] at q1 hn1
        rw [hnn] at q2 hn2
        subst hab
        obtain ⟨y0, y1, y2, y3, yf⟩ := obj_cells hrr
        have hbb : Below wr.heap.size wr ((wr.alloc (.cells #[.string x, .int .i64 n] 47)).drew) := Below.drew (below1 _ _)
        have y1d := cell_later hbb y1
        have hVl := hV.lt
        obtain ⟨w', hrun, hV', hG'⟩ := (hV.below hbb hVl).store (tm := 61) Tryd.underlying61 (by unfold maxLen; omega) x (big_max hn1) (.int .i64 (j : Int))
        rw [show (nameJF s j x).isSome = false from hxx ▸ nameJF_new hxH.out hjl] at hV'
        have hr := Lib.hid (show rlRel s W3 mb (.int .i64 ((j : Int) + 1)) w' from ⟨j + 1, rfl, hjl, by rw [nameJF_succ hxH.out hjl, hxx]; simpa using hV', gby_trans' (gby_trans' hG (gby_below' hbb)) hG'⟩)
        have hrun2 : (Instr.mapUpdate 61 (.map (some mb)) (.string x) (.int .i64 (j : Int))).run Tryd.prog ((wr.alloc (.cells #[.string x, .int .i64 n] 47)).drew) = .ok () w' := hrun
        clear hV hG hBr hrr hV' hG' hrun hbb hxx hnn y0 y2 y3 yf hn1 hn2 hVl
        go_wp2_with fail
        go_region
        all_goals (go_wp2_with fail; go_roundw; (case rel => exact hr.out); (case measure => simp [intOf]; omega))
      · obtain rfl : j = s.length := by omega
        have hRH := Lib.hid hrr
        have hBrH := Lib.hid hBr
        have hGH := Lib.hid hG
        have hVH := Lib.hid hV
        clear hrr hBr hG hV
        have hkk : k = 1 ∨ k = 2 ∨ k = 3 := by have := hkH.out; omega
        rcases hkk with rfl | rfl | rfl
        · go_wp2_with fail
          refine (styles_any _).mono ?_
          rintro e w4 ⟨rfl, hb4⟩
          have hix := style_at0
          obtain ⟨bs, hbs⟩ : ∃ bs, w4.heap.size = bs := ⟨_, rfl⟩
          obtain ⟨W0, hW0⟩ : ∃ W0, w4.alloc (.cells #[.func (.func 46) #[] #[], .func (.func 47) #[] #[]] 54) = W0 := ⟨_, rfl⟩
          have hbW : Below wr.heap.size wr W0 := by rw [← hW0]; exact bcall hb4 (below1 w4 _)
          have hrbr : rb < wr.heap.size := (Array.getElem?_eq_some_iff.1 hRH.out).1
          have hBW0 : Below w.heap.size w W0 := bcall hBrH.out hbW
          have hmbr := hVH.out.lt
          have hR0 : RdW W0 rb mb a1 c1 s W0 Lf [] := ⟨⟨aL, cL, .slice none 0 0, (hbW.block rb hrbr).trans hRH.out, ((hslH.out.same (.of_grown hGH.out (fun b hb e => by injection e with e; have := hb.1; omega))).below hbW).weak (fun b hb => ⟨by have := hb.2; have := hbW.size; omega, by have := hb.2; omega⟩), OwnL.nil _ _ _ _ _⟩, gby_refl' _ _, hTs, by have := hbW.size; omega⟩
          have hE0 : RdEnv W0 rb mb a1 c1 s := ⟨hxH.out, fun W hg => by
            have hbb : Below w.heap.size w W := hBW0.grown hg hBW0.size (fun i e => by injection e with e; omega)
            exact ⟨(h1H.out.below hbb).weak (fun _ _ => trivial), ⟨s.length, (hVH.out.below hbW hmbr).same (hg.block mb (by have := hbW.size; omega) (fun e => by injection e with e; omega))⟩, hLH.out.later hbb⟩⟩
          have hbs4 : wr.heap.size ≤ bs := by rw [← hbs]; exact hb4.size
          have s0 : W0.cell? ⟨bs, 0, none⟩ = some (.func (.func 46) #[] #[]) := by rw [← hW0, ← hbs]; clear hW0; go_simp
          have s1 : W0.cell? ⟨bs, 1, none⟩ = some (.func (.func 47) #[] #[]) := by rw [← hW0, ← hbs]; clear hW0; go_simp
          have hR0d : RdW W0 rb mb a1 c1 s W0.drew Lf [] := hR0.later (Below.drew (.refl _ _))
          have hrd := Lib.hid (polish_rd hE0 62 W0.drew Lf [] hR0d (by decide) (by decide))
          have hft := Lib.hid (find_tok (s := s) (k := 1) (by decide) hTt)
          have hBd : Below w.heap.size w W0.drew := Below.drew hBW0
          have hcw := Lib.hid (fun (T : List Int) (hT : okT s T = true) (W : World) (hb : Below w.heap.size w W) (S2 : Nat → Prop) (a2 : Option Addr) (c2 : Nat) (hI : Ints S2 W a2 c2 T) => twritten_any (k := 1) (F := 46) (R := 47) a1 a2 c1 c2 s T W (h1H.out.below hb) hI hT (enters_of Tryd.func46 (by kernel_rfl) rfl)
            (fun S1 S2 b1 b2 d1 d2 n A W hn h1 h2 => polish_any b1 b2 d1 d2 s n hn A W hxH.out h1 h2))
          have hcv := Lib.hid (fun (T : List Int) (W : World) (hb : Below w.heap.size w W) (S2 : Nat → Prop) (a2 : Option Addr) (c2 : Nat) (hI : Ints S2 W a2 c2 T) => Valid_any a1 a2 c1 c2 s T W (h1H.out.below hb) hI)
          have hgB := Lib.hid (fun (W : World) (hg : W0.grownBy W (some rb)) => (hBW0.grown hg hBW0.size (fun i e => by injection e with e; omega) : Below w.heap.size w W))
          have hwz : w.heap.size ≤ W0.heap.size := hBW0.size
          have hW0H := Lib.hid hW0
          have s0H := Lib.hid s0
          have s1d := cell_later (Below.drew (.refl W0.heap.size W0)) s1
          clear hR0 hR0d hE0 hbW hBW0 hBd hb4 hW0 s0 s1 hRH hBrH hGH hVH hslH hTt hTs
          go_upto_region 14 with fail
          rw [hW0H.out]
          obtain ⟨M, hM⟩ : ∃ M, rdM 1 s 62 (btk Lf, []) = M := ⟨_, rfl⟩
          rw [show polM s 62 (btk Lf, []) = rdM 1 s 62 (btk Lf, []) from rfl, hM] at hrd
          rw [hM] at hft
          clear hM hW0H
          cases M with
          | none =>
            have hf := hft.out.1 rfl
            have hrd2 : Hid (Calls Tryd.prog 47 #[.pointer (some ⟨rb, 0, none⟩)] W0.drew fun e w' => e = .returned (.bool false) ∧ W0.grownBy w' (some rb)) := Lib.hid (hrd.out.mono fun e w' h => by
              rcases h with ⟨_, _, h, _⟩ | ⟨_, h1, _, _, h2⟩
              · cases h
              · exact ⟨h1, h2.gb⟩)
            have hr := Lib.hid (fun (W : World) (hg : W0.grownBy W (some rb)) => (⟨.slice none 0 0, rfl, OwnL.nil _ _ _ _ _, hgB.out W hg⟩ : ∃ v, Ending.returned (.tuple #[.slice none 0 0, .int .i64 2]) = .returned (.tuple #[v, .int .i64 (([], 2) : List Int × Int).2]) ∧ OwnI W w.heap.size v (([], 2) : List Int × Int).1 ∧ Below w.heap.size w W))
            have hfH := Lib.hid hf
            clear hf hft hrd
            refine wp_region_any (by kernel_rfl) ?_
            (try (change wpAny _ _ _ _ _ _ _ (World.drew _)))
            refine takeD (i := 0) 49 (.pointer (some ⟨bs, 1, none⟩)) rfl rfl (by kernel_rfl) (by kernel_rfl) (by kernel_rfl) (fun _ _ _ h => h) (by kernel_rfl) (fun w => by first | kernel_rfl | (go_simp; done)) ?_
            simp only [Act.put, List.setIfInBounds_toArray, List.set_cons_zero, List.set_cons_succ]
            refine takeD (i := 2) 51 (.pointer (some ⟨rb, 0, none⟩)) rfl rfl (by kernel_rfl) (by kernel_rfl) (by kernel_rfl) (fun _ _ _ h => h) (by kernel_rfl) (fun w => by first | kernel_rfl | (go_simp; done)) ?_
            simp only [Act.put, List.setIfInBounds_toArray, List.set_cons_zero, List.set_cons_succ]
            refine wpAny_ready (rs := [1]) (by kernel_rfl) (by simp) (AllReady.cons rfl (fun K hK => ?_) AllReady.nil)
            go_simp
            refine hK _ _ ?_
            clear hK K
            refine wpAny_ready (rs := [3]) (by kernel_rfl) (by simp) (AllReady.cons rfl (fun K hK => ?_) AllReady.nil)
            go_simp
            (with_reducible refine hrd2.out.mono ?_)
            rintro e w5 ⟨rfl, hg5⟩
            go_simp
            (try (refine hK _ _ ?_))
            clear hK K
            refine takeD (i := 4) 53 (.bool true) rfl rfl (by kernel_rfl) (by kernel_rfl) (by kernel_rfl) (fun _ _ _ h => h) (by kernel_rfl) (fun w => by first | kernel_rfl | (go_simp; done)) ?_
            simp only [Act.put, List.setIfInBounds_toArray, List.set_cons_zero, List.set_cons_succ]
            refine takeD (i := 5) 54 (.bool true) rfl rfl (by kernel_rfl) (by kernel_rfl) (by kernel_rfl) (fun _ _ _ h => h) (by kernel_rfl) (fun w => by first | kernel_rfl | (go_simp; done)) ?_
            simp only [Act.put, List.setIfInBounds_toArray, List.set_cons_zero, List.set_cons_succ]
            refine skipD (i := 6) 55 rfl rfl (by kernel_rfl) (by kernel_rfl) (by kernel_rfl) (fun _ _ _ h => h) (by kernel_rfl) ?_
            simp only [Act.put, List.setIfInBounds_toArray, List.set_cons_zero, List.set_cons_succ]
            refine skipD (i := 7) 56 rfl rfl (by kernel_rfl) (by kernel_rfl) (by kernel_rfl) (fun _ _ _ h => h) (by kernel_rfl) ?_
            simp only [Act.put, List.setIfInBounds_toArray, List.set_cons_zero, List.set_cons_succ]
            refine skipD (i := 8) 57 rfl rfl (by kernel_rfl) (by kernel_rfl) (by kernel_rfl) (fun _ _ _ h => h) (by kernel_rfl) ?_
            simp only [Act.put, List.setIfInBounds_toArray, List.set_cons_zero, List.set_cons_succ]
            refine skipD (i := 9) 58 rfl rfl (by kernel_rfl) (by kernel_rfl) (by kernel_rfl) (fun _ _ _ h => h) (by kernel_rfl) ?_
            simp only [Act.put, List.setIfInBounds_toArray, List.set_cons_zero, List.set_cons_succ]
            refine skipD (i := 10) 59 rfl rfl (by kernel_rfl) (by kernel_rfl) (by kernel_rfl) (fun _ _ _ h => h) (by kernel_rfl) ?_
            simp only [Act.put, List.setIfInBounds_toArray, List.set_cons_zero, List.set_cons_succ]
            refine skipD (i := 11) 60 rfl rfl (by kernel_rfl) (by kernel_rfl) (by kernel_rfl) (fun _ _ _ h => h) (by kernel_rfl) ?_
            simp only [Act.put, List.setIfInBounds_toArray, List.set_cons_zero, List.set_cons_succ]
            refine skipD (i := 12) 61 rfl rfl (by kernel_rfl) (by kernel_rfl) (by kernel_rfl) (fun _ _ _ h => h) (by kernel_rfl) ?_
            simp only [Act.put, List.setIfInBounds_toArray, List.set_cons_zero, List.set_cons_succ]
            refine takeD (i := 13) 62 (.bool true) rfl rfl (by kernel_rfl) (by kernel_rfl) (by kernel_rfl) (fun _ _ _ h => h) (by kernel_rfl) (fun w => by first | kernel_rfl | (go_simp; done)) ?_
            simp only [Act.put, List.setIfInBounds_toArray, List.set_cons_zero, List.set_cons_succ]
            refine takeD (i := 14) 63 (.bool true) rfl rfl (by kernel_rfl) (by kernel_rfl) (by kernel_rfl) (fun _ _ _ h => h) (by kernel_rfl) (fun w => by first | kernel_rfl | (go_simp; done)) ?_
            simp only [Act.put, List.setIfInBounds_toArray, List.set_cons_zero, List.set_cons_succ]
            refine skipD (i := 15) 64 rfl rfl (by kernel_rfl) (by kernel_rfl) (by kernel_rfl) (fun _ _ _ h => h) (by kernel_rfl) ?_
            simp only [Act.put, List.setIfInBounds_toArray, List.set_cons_zero, List.set_cons_succ]
            refine skipD (i := 16) 65 rfl rfl (by kernel_rfl) (by kernel_rfl) (by kernel_rfl) (fun _ _ _ h => h) (by kernel_rfl) ?_
            simp only [Act.put, List.setIfInBounds_toArray, List.set_cons_zero, List.set_cons_succ]
            refine skipD (i := 17) 66 rfl rfl (by kernel_rfl) (by kernel_rfl) (by kernel_rfl) (fun _ _ _ h => h) (by kernel_rfl) ?_
            simp only [Act.put, List.setIfInBounds_toArray, List.set_cons_zero, List.set_cons_succ]
            refine skipD (i := 18) 67 rfl rfl (by kernel_rfl) (by kernel_rfl) (by kernel_rfl) (fun _ _ _ h => h) (by kernel_rfl) ?_
            simp only [Act.put, List.setIfInBounds_toArray, List.set_cons_zero, List.set_cons_succ]
            refine skipD (i := 19) 68 rfl rfl (by kernel_rfl) (by kernel_rfl) (by kernel_rfl) (fun _ _ _ h => h) (by kernel_rfl) ?_
            simp only [Act.put, List.setIfInBounds_toArray, List.set_cons_zero, List.set_cons_succ]
            refine skipD (i := 20) 69 rfl rfl (by kernel_rfl) (by kernel_rfl) (by kernel_rfl) (fun _ _ _ h => h) (by kernel_rfl) ?_
            simp only [Act.put, List.setIfInBounds_toArray, List.set_cons_zero, List.set_cons_succ]
            refine skipD (i := 21) 70 rfl rfl (by kernel_rfl) (by kernel_rfl) (by kernel_rfl) (fun _ _ _ h => h) (by kernel_rfl) ?_
            simp only [Act.put, List.setIfInBounds_toArray, List.set_cons_zero, List.set_cons_succ]
            refine skipD (i := 22) 71 rfl rfl (by kernel_rfl) (by kernel_rfl) (by kernel_rfl) (fun _ _ _ h => h) (by kernel_rfl) ?_
            simp only [Act.put, List.setIfInBounds_toArray, List.set_cons_zero, List.set_cons_succ]
            refine skipD (i := 23) 72 rfl rfl (by kernel_rfl) (by kernel_rfl) (by kernel_rfl) (fun _ _ _ h => h) (by kernel_rfl) ?_
            simp only [Act.put, List.setIfInBounds_toArray, List.set_cons_zero, List.set_cons_succ]
            refine takeD (i := 24) 73 (.bool true) rfl rfl (by kernel_rfl) (by kernel_rfl) (by kernel_rfl) (fun _ _ _ h => h) (by kernel_rfl) (fun w => by first | kernel_rfl | (go_simp; done)) ?_
            simp only [Act.put, List.setIfInBounds_toArray, List.set_cons_zero, List.set_cons_succ]
            refine wpAny_done (by kernel_rfl) ?_ _
            all_goals (go_wp2_with fail; go_ret2; (first | rw [hfH.out] | rw [show findR s (Int.toNat 1) text.data.toList = _ from hfH.out]); exact hr.out _ hg5)
          | some M =>
            obtain ⟨LT, T⟩ := M
            have hft2 := hft.out.2 LT T rfl
            have hrd2 : Hid (Calls Tryd.prog 47 #[.pointer (some ⟨rb, 0, none⟩)] W0.drew fun e w' => e = .returned (.bool true) ∧ ∃ aT cT, w'.cell? ⟨rb, 3, none⟩ = some (.slice aT T.length cT) ∧ Hid (Ints (fun b => W0.heap.size ≤ b) w' aT cT T ∧ OwnI w' W0.heap.size (.slice aT T.length cT) T ∧ Below w.heap.size w w') ∧ w'.cell? ⟨bs, 0, none⟩ = some (.func (.func 46) #[] #[]) ∧ w'.cell? ⟨bs, 1, none⟩ = some (.func (.func 47) #[] #[])) := Lib.hid (hrd.out.mono fun e w' h => by
              rcases h with ⟨L', T', h, he, hw, _⟩ | ⟨h, _⟩
              · obtain ⟨-, rfl⟩ := Prod.mk.inj (Option.some.inj h)
                obtain ⟨aT, cT, f1, f2, f3⟩ := hw.facts
                have hne : bs ≠ rb := by omega
                exact ⟨he, aT, cT, f1, Lib.hid ⟨f2, f3, hgB.out _ hw.gb⟩, gby_cell hw.gb s0H.out hne, gby_cell hw.gb ((show W0.cell? ⟨bs, 1, none⟩ = W0.drew.cell? ⟨bs, 1, none⟩ from rfl).trans s1d) hne⟩
              · cases h)
            clear hft hrd hgB
            cases hv : okT s T with
            | false =>
              have hf := hft2.2 hv
              have hcv2 := Lib.hid (hcv.out T)
              rw [hv] at hcv2
              have hfH := Lib.hid hf
              clear hf hft2 hv hcv hcw
              refine wp_region_any (by kernel_rfl) ?_
              (try (change wpAny _ _ _ _ _ _ _ (World.drew _)))
              refine takeD (i := 0) 49 (.pointer (some ⟨bs, 1, none⟩)) rfl rfl (by kernel_rfl) (by kernel_rfl) (by kernel_rfl) (fun _ _ _ h => h) (by kernel_rfl) (fun w => by first | kernel_rfl | (go_simp; done)) ?_
              simp only [Act.put, List.setIfInBounds_toArray, List.set_cons_zero, List.set_cons_succ]
              refine takeD (i := 2) 51 (.pointer (some ⟨rb, 0, none⟩)) rfl rfl (by kernel_rfl) (by kernel_rfl) (by kernel_rfl) (fun _ _ _ h => h) (by kernel_rfl) (fun w => by first | kernel_rfl | (go_simp; done)) ?_
              simp only [Act.put, List.setIfInBounds_toArray, List.set_cons_zero, List.set_cons_succ]
              refine wpAny_ready (rs := [1]) (by kernel_rfl) (by simp) (AllReady.cons rfl (fun K hK => ?_) AllReady.nil)
              go_simp
              refine hK _ _ ?_
              clear hK K
              refine wpAny_ready (rs := [3]) (by kernel_rfl) (by simp) (AllReady.cons rfl (fun K hK => ?_) AllReady.nil)
              go_simp
              (with_reducible refine hrd2.out.mono ?_)
              rintro e w5 ⟨rfl, aT, cT, q3, hI5, t0, t1⟩
              go_simp
              (try (refine hK _ _ ?_))
              clear hK K
              refine takeD (i := 4) 53 (.bool false) rfl rfl (by kernel_rfl) (by kernel_rfl) (by kernel_rfl) (fun _ _ _ h => h) (by kernel_rfl) (fun w => by first | kernel_rfl | (go_simp; done)) ?_
              simp only [Act.put, List.setIfInBounds_toArray, List.set_cons_zero, List.set_cons_succ]
              refine takeD (i := 5) 54 (.bool false) rfl rfl (by kernel_rfl) (by kernel_rfl) (by kernel_rfl) (fun _ _ _ h => h) (by kernel_rfl) (fun w => by first | kernel_rfl | (go_simp; done)) ?_
              simp only [Act.put, List.setIfInBounds_toArray, List.set_cons_zero, List.set_cons_succ]
              refine takeD (i := 6) 55 (.slice a1 s.length c1) rfl rfl (by kernel_rfl) (by kernel_rfl) (by kernel_rfl) (fun _ _ _ h => h) (by kernel_rfl) (fun w => by first | kernel_rfl | (go_simp; done)) ?_
              simp only [Act.put, List.setIfInBounds_toArray, List.set_cons_zero, List.set_cons_succ]
              refine takeD (i := 7) 56 (.pointer (some ⟨rb, 0, none⟩)) rfl rfl (by kernel_rfl) (by kernel_rfl) (by kernel_rfl) (fun _ _ _ h => h) (by kernel_rfl) (fun w => by first | kernel_rfl | (go_simp; done)) ?_
              simp only [Act.put, List.setIfInBounds_toArray, List.set_cons_zero, List.set_cons_succ]
              refine takeD (i := 8) 57 (.pointer (some ⟨rb, 0, none⟩)) rfl rfl (by kernel_rfl) (by kernel_rfl) (by kernel_rfl) (fun _ _ _ h => h) (by kernel_rfl) (fun w => by first | kernel_rfl | (go_simp; done)) ?_
              simp only [Act.put, List.setIfInBounds_toArray, List.set_cons_zero, List.set_cons_succ]
              refine takeD (i := 9) 58 (.pointer (some ⟨rb, 3, none⟩)) rfl rfl (by kernel_rfl) (by kernel_rfl) (by kernel_rfl) (fun _ _ _ h => h) (by kernel_rfl) (fun w => by first | kernel_rfl | (go_simp; done)) ?_
              simp only [Act.put, List.setIfInBounds_toArray, List.set_cons_zero, List.set_cons_succ]
              refine wpAny_ready (rs := [10]) (by kernel_rfl) (by simp) (AllReady.cons rfl (fun K hK => ?_) AllReady.nil)
              go_simp
              refine hK _ _ ?_
              clear hK K
              refine wpAny_ready (rs := [11]) (by kernel_rfl) (by simp) (AllReady.cons rfl (fun K hK => ?_) AllReady.nil)
              go_simp
              (with_reducible refine (hcv2.out _ hI5.out.2.2 _ _ _ hI5.out.1).mono ?_)
              rintro e w6 ⟨rfl, hb6⟩
              go_simp
              (try (refine hK _ _ ?_))
              clear hK K
              refine takeD (i := 12) 61 (.bool true) rfl rfl (by kernel_rfl) (by kernel_rfl) (by kernel_rfl) (fun _ _ _ h => h) (by kernel_rfl) (fun w => by first | kernel_rfl | (go_simp; done)) ?_
              simp only [Act.put, List.setIfInBounds_toArray, List.set_cons_zero, List.set_cons_succ]
              refine takeD (i := 13) 62 (.bool true) rfl rfl (by kernel_rfl) (by kernel_rfl) (by kernel_rfl) (fun _ _ _ h => h) (by kernel_rfl) (fun w => by first | kernel_rfl | (go_simp; done)) ?_
              simp only [Act.put, List.setIfInBounds_toArray, List.set_cons_zero, List.set_cons_succ]
              refine takeD (i := 14) 63 (.bool true) rfl rfl (by kernel_rfl) (by kernel_rfl) (by kernel_rfl) (fun _ _ _ h => h) (by kernel_rfl) (fun w => by first | kernel_rfl | (go_simp; done)) ?_
              simp only [Act.put, List.setIfInBounds_toArray, List.set_cons_zero, List.set_cons_succ]
              refine skipD (i := 15) 64 rfl rfl (by kernel_rfl) (by kernel_rfl) (by kernel_rfl) (fun _ _ _ h => h) (by kernel_rfl) ?_
              simp only [Act.put, List.setIfInBounds_toArray, List.set_cons_zero, List.set_cons_succ]
              refine skipD (i := 16) 65 rfl rfl (by kernel_rfl) (by kernel_rfl) (by kernel_rfl) (fun _ _ _ h => h) (by kernel_rfl) ?_
              simp only [Act.put, List.setIfInBounds_toArray, List.set_cons_zero, List.set_cons_succ]
              refine skipD (i := 17) 66 rfl rfl (by kernel_rfl) (by kernel_rfl) (by kernel_rfl) (fun _ _ _ h => h) (by kernel_rfl) ?_
              simp only [Act.put, List.setIfInBounds_toArray, List.set_cons_zero, List.set_cons_succ]
              refine skipD (i := 18) 67 rfl rfl (by kernel_rfl) (by kernel_rfl) (by kernel_rfl) (fun _ _ _ h => h) (by kernel_rfl) ?_
              simp only [Act.put, List.setIfInBounds_toArray, List.set_cons_zero, List.set_cons_succ]
              refine skipD (i := 19) 68 rfl rfl (by kernel_rfl) (by kernel_rfl) (by kernel_rfl) (fun _ _ _ h => h) (by kernel_rfl) ?_
              simp only [Act.put, List.setIfInBounds_toArray, List.set_cons_zero, List.set_cons_succ]
              refine skipD (i := 20) 69 rfl rfl (by kernel_rfl) (by kernel_rfl) (by kernel_rfl) (fun _ _ _ h => h) (by kernel_rfl) ?_
              simp only [Act.put, List.setIfInBounds_toArray, List.set_cons_zero, List.set_cons_succ]
              refine skipD (i := 21) 70 rfl rfl (by kernel_rfl) (by kernel_rfl) (by kernel_rfl) (fun _ _ _ h => h) (by kernel_rfl) ?_
              simp only [Act.put, List.setIfInBounds_toArray, List.set_cons_zero, List.set_cons_succ]
              refine skipD (i := 22) 71 rfl rfl (by kernel_rfl) (by kernel_rfl) (by kernel_rfl) (fun _ _ _ h => h) (by kernel_rfl) ?_
              simp only [Act.put, List.setIfInBounds_toArray, List.set_cons_zero, List.set_cons_succ]
              refine skipD (i := 23) 72 rfl rfl (by kernel_rfl) (by kernel_rfl) (by kernel_rfl) (fun _ _ _ h => h) (by kernel_rfl) ?_
              simp only [Act.put, List.setIfInBounds_toArray, List.set_cons_zero, List.set_cons_succ]
              refine takeD (i := 24) 73 (.bool true) rfl rfl (by kernel_rfl) (by kernel_rfl) (by kernel_rfl) (fun _ _ _ h => h) (by kernel_rfl) (fun w => by first | kernel_rfl | (go_simp; done)) ?_
              simp only [Act.put, List.setIfInBounds_toArray, List.set_cons_zero, List.set_cons_succ]
              refine wpAny_done (by kernel_rfl) ?_ _
              all_goals (go_wp2_with fail; go_ret2; (first | rw [hfH.out] | rw [show findR s (Int.toNat 1) text.data.toList = _ from hfH.out]); exact ⟨_, rfl, OwnL.nil _ _ _ _ _, bcall hI5.out.2.2 hb6⟩)
            | true =>
              have hcv2 := Lib.hid (hcv.out T)
              rw [hv] at hcv2
              have hcw2 := Lib.hid (hcw.out T hv)
              by_cases hte : txt 1 s T = text.data.toList
              · have hf := find_ok hv hte
                have hte2 : toB (txt 1 s T) = text := by rw [hte]; exact ba_ext2 (by simp [toB])
                rw [hte2] at hcw2
                have hfH := Lib.hid hf
                clear hf hft2 hv hcv hcw hte hte2
                refine wp_region_any (by kernel_rfl) ?_
                (try (change wpAny _ _ _ _ _ _ _ (World.drew _)))
                refine takeD (i := 0) 49 (.pointer (some ⟨bs, 1, none⟩)) rfl rfl (by kernel_rfl) (by kernel_rfl) (by kernel_rfl) (fun _ _ _ h => h) (by kernel_rfl) (fun w => by first | kernel_rfl | (go_simp; done)) ?_
                simp only [Act.put, List.setIfInBounds_toArray, List.set_cons_zero, List.set_cons_succ]
                refine takeD (i := 2) 51 (.pointer (some ⟨rb, 0, none⟩)) rfl rfl (by kernel_rfl) (by kernel_rfl) (by kernel_rfl) (fun _ _ _ h => h) (by kernel_rfl) (fun w => by first | kernel_rfl | (go_simp; done)) ?_
                simp only [Act.put, List.setIfInBounds_toArray, List.set_cons_zero, List.set_cons_succ]
                refine wpAny_ready (rs := [1]) (by kernel_rfl) (by simp) (AllReady.cons rfl (fun K hK => ?_) AllReady.nil)
                go_simp
                refine hK _ _ ?_
                clear hK K
                refine wpAny_ready (rs := [3]) (by kernel_rfl) (by simp) (AllReady.cons rfl (fun K hK => ?_) AllReady.nil)
                go_simp
                (with_reducible refine hrd2.out.mono ?_)
                rintro e w5 ⟨rfl, aT, cT, q3, hI5, t0, t1⟩
                go_simp
                (try (refine hK _ _ ?_))
                clear hK K
                refine takeD (i := 4) 53 (.bool false) rfl rfl (by kernel_rfl) (by kernel_rfl) (by kernel_rfl) (fun _ _ _ h => h) (by kernel_rfl) (fun w => by first | kernel_rfl | (go_simp; done)) ?_
                simp only [Act.put, List.setIfInBounds_toArray, List.set_cons_zero, List.set_cons_succ]
                refine takeD (i := 5) 54 (.bool false) rfl rfl (by kernel_rfl) (by kernel_rfl) (by kernel_rfl) (fun _ _ _ h => h) (by kernel_rfl) (fun w => by first | kernel_rfl | (go_simp; done)) ?_
                simp only [Act.put, List.setIfInBounds_toArray, List.set_cons_zero, List.set_cons_succ]
                refine takeD (i := 6) 55 (.slice a1 s.length c1) rfl rfl (by kernel_rfl) (by kernel_rfl) (by kernel_rfl) (fun _ _ _ h => h) (by kernel_rfl) (fun w => by first | kernel_rfl | (go_simp; done)) ?_
                simp only [Act.put, List.setIfInBounds_toArray, List.set_cons_zero, List.set_cons_succ]
                refine takeD (i := 7) 56 (.pointer (some ⟨rb, 0, none⟩)) rfl rfl (by kernel_rfl) (by kernel_rfl) (by kernel_rfl) (fun _ _ _ h => h) (by kernel_rfl) (fun w => by first | kernel_rfl | (go_simp; done)) ?_
                simp only [Act.put, List.setIfInBounds_toArray, List.set_cons_zero, List.set_cons_succ]
                refine takeD (i := 8) 57 (.pointer (some ⟨rb, 0, none⟩)) rfl rfl (by kernel_rfl) (by kernel_rfl) (by kernel_rfl) (fun _ _ _ h => h) (by kernel_rfl) (fun w => by first | kernel_rfl | (go_simp; done)) ?_
                simp only [Act.put, List.setIfInBounds_toArray, List.set_cons_zero, List.set_cons_succ]
                refine takeD (i := 9) 58 (.pointer (some ⟨rb, 3, none⟩)) rfl rfl (by kernel_rfl) (by kernel_rfl) (by kernel_rfl) (fun _ _ _ h => h) (by kernel_rfl) (fun w => by first | kernel_rfl | (go_simp; done)) ?_
                simp only [Act.put, List.setIfInBounds_toArray, List.set_cons_zero, List.set_cons_succ]
                refine wpAny_ready (rs := [10]) (by kernel_rfl) (by simp) (AllReady.cons rfl (fun K hK => ?_) AllReady.nil)
                go_simp
                refine hK _ _ ?_
                clear hK K
                refine wpAny_ready (rs := [11]) (by kernel_rfl) (by simp) (AllReady.cons rfl (fun K hK => ?_) AllReady.nil)
                go_simp
                (with_reducible refine (hcv2.out _ hI5.out.2.2 _ _ _ hI5.out.1).mono ?_)
                rintro e w6 ⟨rfl, hb6⟩
                have q36 := cell_later hb6 q3
                have t06 := cell_later hb6 t0
                have t16 := cell_later hb6 t1
                have hI6 := Lib.hid (show Ints _ w6 aT cT T from hI5.out.1.below hb6)
                have hO6 := Lib.hid (OwnL.call hI5.out.2.1 hb6)
                have hb6H := Lib.hid (bcall hI5.out.2.2 hb6)
                clear hb6
                go_simp
                (try (refine hK _ _ ?_))
                clear hK K
                refine takeD (i := 12) 61 (.bool false) rfl rfl (by kernel_rfl) (by kernel_rfl) (by kernel_rfl) (fun _ _ _ h => h) (by kernel_rfl) (fun w => by first | kernel_rfl | (go_simp; done)) ?_
                simp only [Act.put, List.setIfInBounds_toArray, List.set_cons_zero, List.set_cons_succ]
                refine takeD (i := 13) 62 (.bool false) rfl rfl (by kernel_rfl) (by kernel_rfl) (by kernel_rfl) (fun _ _ _ h => h) (by kernel_rfl) (fun w => by first | kernel_rfl | (go_simp; done)) ?_
                simp only [Act.put, List.setIfInBounds_toArray, List.set_cons_zero, List.set_cons_succ]
                refine takeD (i := 14) 63 (.bool false) rfl rfl (by kernel_rfl) (by kernel_rfl) (by kernel_rfl) (fun _ _ _ h => h) (by kernel_rfl) (fun w => by first | kernel_rfl | (go_simp; done)) ?_
                simp only [Act.put, List.setIfInBounds_toArray, List.set_cons_zero, List.set_cons_succ]
                refine takeD (i := 15) 64 (.slice a1 s.length c1) rfl rfl (by kernel_rfl) (by kernel_rfl) (by kernel_rfl) (fun _ _ _ h => h) (by kernel_rfl) (fun w => by first | kernel_rfl | (go_simp; done)) ?_
                simp only [Act.put, List.setIfInBounds_toArray, List.set_cons_zero, List.set_cons_succ]
                refine takeD (i := 17) 66 (.pointer (some ⟨rb, 0, none⟩)) rfl rfl (by kernel_rfl) (by kernel_rfl) (by kernel_rfl) (fun _ _ _ h => h) (by kernel_rfl) (fun w => by first | kernel_rfl | (go_simp; done)) ?_
                simp only [Act.put, List.setIfInBounds_toArray, List.set_cons_zero, List.set_cons_succ]
                refine takeD (i := 18) 67 (.pointer (some ⟨rb, 0, none⟩)) rfl rfl (by kernel_rfl) (by kernel_rfl) (by kernel_rfl) (fun _ _ _ h => h) (by kernel_rfl) (fun w => by first | kernel_rfl | (go_simp; done)) ?_
                simp only [Act.put, List.setIfInBounds_toArray, List.set_cons_zero, List.set_cons_succ]
                refine takeD (i := 19) 68 (.pointer (some ⟨rb, 3, none⟩)) rfl rfl (by kernel_rfl) (by kernel_rfl) (by kernel_rfl) (fun _ _ _ h => h) (by kernel_rfl) (fun w => by first | kernel_rfl | (go_simp; done)) ?_
                simp only [Act.put, List.setIfInBounds_toArray, List.set_cons_zero, List.set_cons_succ]
                refine takeD (i := 22) 71 (.string text) rfl rfl (by kernel_rfl) (by kernel_rfl) (by kernel_rfl) (fun _ _ _ h => h) (by kernel_rfl) (fun w => by first | kernel_rfl | (go_simp; done)) ?_
                simp only [Act.put, List.setIfInBounds_toArray, List.set_cons_zero, List.set_cons_succ]
                refine wpAny_ready (rs := [16, 20]) (by kernel_rfl) (by simp) (AllReady.cons rfl (fun K hK => ?_) (AllReady.cons rfl (fun K hK => ?_) AllReady.nil))
                · go_simp
                  refine hK _ _ ?_
                  clear hK K
                  refine wpAny_ready (rs := [20]) (by kernel_rfl) (by simp) (AllReady.cons rfl (fun K hK => ?_) AllReady.nil)
                  go_simp
                  refine hK _ _ ?_
                  clear hK K
                  refine wpAny_ready (rs := [21]) (by kernel_rfl) (by simp) (AllReady.cons rfl (fun K hK => ?_) AllReady.nil)
                  go_simp
                  (with_reducible refine (hcw2.out _ hb6H.out _ _ _ hI6.out).mono ?_)
                  rintro e w7 ⟨rfl, hb7⟩
                  have q37 := cell_later hb7 q36
                  have hO7 := Lib.hid (OwnL.call hO6.out hb7)
                  have hb7H := Lib.hid (bcall hb6H.out hb7)
                  clear hb7
                  go_simp
                  (try (refine hK _ _ ?_))
                  clear hK K
                  refine takeD (i := 23) 72 (.bool false) rfl rfl (by kernel_rfl) (by kernel_rfl) (by kernel_rfl) (fun _ _ _ h => h) (by kernel_rfl) (fun w => by go_simp) ?_
                  simp only [Act.put, List.setIfInBounds_toArray, List.set_cons_zero, List.set_cons_succ]
                  refine takeD (i := 24) 73 (.bool false) rfl rfl (by kernel_rfl) (by kernel_rfl) (by kernel_rfl) (fun _ _ _ h => h) (by kernel_rfl) (fun w => by first | kernel_rfl | (go_simp; done)) ?_
                  simp only [Act.put, List.setIfInBounds_toArray, List.set_cons_zero, List.set_cons_succ]
                  refine wpAny_done (by kernel_rfl) ?_ _
                  (go_wp2_with fail; go_ret2; (first | rw [hfH.out] | rw [show findR s (Int.toNat 1) text.data.toList = _ from hfH.out]); exact ⟨_, rfl, hO7.out.baseMono hwz, hb7H.out⟩)
                · go_simp
                  refine hK _ _ ?_
                  clear hK K
                  refine wpAny_ready (rs := [16]) (by kernel_rfl) (by simp) (AllReady.cons rfl (fun K hK => ?_) AllReady.nil)
                  go_simp
                  refine hK _ _ ?_
                  clear hK K
                  refine wpAny_ready (rs := [21]) (by kernel_rfl) (by simp) (AllReady.cons rfl (fun K hK => ?_) AllReady.nil)
                  go_simp
                  (with_reducible refine (hcw2.out _ hb6H.out _ _ _ hI6.out).mono ?_)
                  rintro e w7 ⟨rfl, hb7⟩
                  have q37 := cell_later hb7 q36
                  have hO7 := Lib.hid (OwnL.call hO6.out hb7)
                  have hb7H := Lib.hid (bcall hb6H.out hb7)
                  clear hb7
                  go_simp
                  (try (refine hK _ _ ?_))
                  clear hK K
                  refine takeD (i := 23) 72 (.bool false) rfl rfl (by kernel_rfl) (by kernel_rfl) (by kernel_rfl) (fun _ _ _ h => h) (by kernel_rfl) (fun w => by go_simp) ?_
                  simp only [Act.put, List.setIfInBounds_toArray, List.set_cons_zero, List.set_cons_succ]
                  refine takeD (i := 24) 73 (.bool false) rfl rfl (by kernel_rfl) (by kernel_rfl) (by kernel_rfl) (fun _ _ _ h => h) (by kernel_rfl) (fun w => by first | kernel_rfl | (go_simp; done)) ?_
                  simp only [Act.put, List.setIfInBounds_toArray, List.set_cons_zero, List.set_cons_succ]
                  refine wpAny_done (by kernel_rfl) ?_ _
                  (go_wp2_with fail; go_ret2; (first | rw [hfH.out] | rw [show findR s (Int.toNat 1) text.data.toList = _ from hfH.out]); exact ⟨_, rfl, hO7.out.baseMono hwz, hb7H.out⟩)
              · have hf := hft2.1 hv hte
                obtain ⟨y, hy⟩ : ∃ y, toB (txt 1 s T) = y := ⟨_, rfl⟩
                have hyt : ¬ y = text := fun e => hte (by rw [← e, ← hy]; simp [toB])
                have hyl : (y.toList == text.toList) = false := by rw [ba_tl, ba_tl, beq_eq_false_iff_ne]; exact fun e => hyt (ba_ext2 e)
                rw [hy] at hcw2
                have hfH := Lib.hid hf
                clear hf hft2 hv hcv hcw hte hy
                refine wp_region_any (by kernel_rfl) ?_
                (try (change wpAny _ _ _ _ _ _ _ (World.drew _)))
                refine takeD (i := 0) 49 (.pointer (some ⟨bs, 1, none⟩)) rfl rfl (by kernel_rfl) (by kernel_rfl) (by kernel_rfl) (fun _ _ _ h => h) (by kernel_rfl) (fun w => by first | kernel_rfl | (go_simp; done)) ?_
                simp only [Act.put, List.setIfInBounds_toArray, List.set_cons_zero, List.set_cons_succ]
                refine takeD (i := 2) 51 (.pointer (some ⟨rb, 0, none⟩)) rfl rfl (by kernel_rfl) (by kernel_rfl) (by kernel_rfl) (fun _ _ _ h => h) (by kernel_rfl) (fun w => by first | kernel_rfl | (go_simp; done)) ?_
                simp only [Act.put, List.setIfInBounds_toArray, List.set_cons_zero, List.set_cons_succ]
                refine wpAny_ready (rs := [1]) (by kernel_rfl) (by simp) (AllReady.cons rfl (fun K hK => ?_) AllReady.nil)
                go_simp
                refine hK _ _ ?_
                clear hK K
                refine wpAny_ready (rs := [3]) (by kernel_rfl) (by simp) (AllReady.cons rfl (fun K hK => ?_) AllReady.nil)
                go_simp
                (with_reducible refine hrd2.out.mono ?_)
                rintro e w5 ⟨rfl, aT, cT, q3, hI5, t0, t1⟩
                go_simp
                (try (refine hK _ _ ?_))
                clear hK K
                refine takeD (i := 4) 53 (.bool false) rfl rfl (by kernel_rfl) (by kernel_rfl) (by kernel_rfl) (fun _ _ _ h => h) (by kernel_rfl) (fun w => by first | kernel_rfl | (go_simp; done)) ?_
                simp only [Act.put, List.setIfInBounds_toArray, List.set_cons_zero, List.set_cons_succ]
                refine takeD (i := 5) 54 (.bool false) rfl rfl (by kernel_rfl) (by kernel_rfl) (by kernel_rfl) (fun _ _ _ h => h) (by kernel_rfl) (fun w => by first | kernel_rfl | (go_simp; done)) ?_
                simp only [Act.put, List.setIfInBounds_toArray, List.set_cons_zero, List.set_cons_succ]
                refine takeD (i := 6) 55 (.slice a1 s.length c1) rfl rfl (by kernel_rfl) (by kernel_rfl) (by kernel_rfl) (fun _ _ _ h => h) (by kernel_rfl) (fun w => by first | kernel_rfl | (go_simp; done)) ?_
                simp only [Act.put, List.setIfInBounds_toArray, List.set_cons_zero, List.set_cons_succ]
                refine takeD (i := 7) 56 (.pointer (some ⟨rb, 0, none⟩)) rfl rfl (by kernel_rfl) (by kernel_rfl) (by kernel_rfl) (fun _ _ _ h => h) (by kernel_rfl) (fun w => by first | kernel_rfl | (go_simp; done)) ?_
                simp only [Act.put, List.setIfInBounds_toArray, List.set_cons_zero, List.set_cons_succ]
                refine takeD (i := 8) 57 (.pointer (some ⟨rb, 0, none⟩)) rfl rfl (by kernel_rfl) (by kernel_rfl) (by kernel_rfl) (fun _ _ _ h => h) (by kernel_rfl) (fun w => by first | kernel_rfl | (go_simp; done)) ?_
                simp only [Act.put, List.setIfInBounds_toArray, List.set_cons_zero, List.set_cons_succ]
                refine takeD (i := 9) 58 (.pointer (some ⟨rb, 3, none⟩)) rfl rfl (by kernel_rfl) (by kernel_rfl) (by kernel_rfl) (fun _ _ _ h => h) (by kernel_rfl) (fun w => by first | kernel_rfl | (go_simp; done)) ?_
                simp only [Act.put, List.setIfInBounds_toArray, List.set_cons_zero, List.set_cons_succ]
                refine wpAny_ready (rs := [10]) (by kernel_rfl) (by simp) (AllReady.cons rfl (fun K hK => ?_) AllReady.nil)
                go_simp
                refine hK _ _ ?_
                clear hK K
                refine wpAny_ready (rs := [11]) (by kernel_rfl) (by simp) (AllReady.cons rfl (fun K hK => ?_) AllReady.nil)
                go_simp
                (with_reducible refine (hcv2.out _ hI5.out.2.2 _ _ _ hI5.out.1).mono ?_)
                rintro e w6 ⟨rfl, hb6⟩
                have q36 := cell_later hb6 q3
                have t06 := cell_later hb6 t0
                have t16 := cell_later hb6 t1
                have hI6 := Lib.hid (show Ints _ w6 aT cT T from hI5.out.1.below hb6)
                have hO6 := Lib.hid (OwnL.call hI5.out.2.1 hb6)
                have hb6H := Lib.hid (bcall hI5.out.2.2 hb6)
                clear hb6
                go_simp
                (try (refine hK _ _ ?_))
                clear hK K
                refine takeD (i := 12) 61 (.bool false) rfl rfl (by kernel_rfl) (by kernel_rfl) (by kernel_rfl) (fun _ _ _ h => h) (by kernel_rfl) (fun w => by first | kernel_rfl | (go_simp; done)) ?_
                simp only [Act.put, List.setIfInBounds_toArray, List.set_cons_zero, List.set_cons_succ]
                refine takeD (i := 13) 62 (.bool false) rfl rfl (by kernel_rfl) (by kernel_rfl) (by kernel_rfl) (fun _ _ _ h => h) (by kernel_rfl) (fun w => by first | kernel_rfl | (go_simp; done)) ?_
                simp only [Act.put, List.setIfInBounds_toArray, List.set_cons_zero, List.set_cons_succ]
                refine takeD (i := 14) 63 (.bool false) rfl rfl (by kernel_rfl) (by kernel_rfl) (by kernel_rfl) (fun _ _ _ h => h) (by kernel_rfl) (fun w => by first | kernel_rfl | (go_simp; done)) ?_
                simp only [Act.put, List.setIfInBounds_toArray, List.set_cons_zero, List.set_cons_succ]
                refine takeD (i := 15) 64 (.slice a1 s.length c1) rfl rfl (by kernel_rfl) (by kernel_rfl) (by kernel_rfl) (fun _ _ _ h => h) (by kernel_rfl) (fun w => by first | kernel_rfl | (go_simp; done)) ?_
                simp only [Act.put, List.setIfInBounds_toArray, List.set_cons_zero, List.set_cons_succ]
                refine takeD (i := 17) 66 (.pointer (some ⟨rb, 0, none⟩)) rfl rfl (by kernel_rfl) (by kernel_rfl) (by kernel_rfl) (fun _ _ _ h => h) (by kernel_rfl) (fun w => by first | kernel_rfl | (go_simp; done)) ?_
                simp only [Act.put, List.setIfInBounds_toArray, List.set_cons_zero, List.set_cons_succ]
                refine takeD (i := 18) 67 (.pointer (some ⟨rb, 0, none⟩)) rfl rfl (by kernel_rfl) (by kernel_rfl) (by kernel_rfl) (fun _ _ _ h => h) (by kernel_rfl) (fun w => by first | kernel_rfl | (go_simp; done)) ?_
                simp only [Act.put, List.setIfInBounds_toArray, List.set_cons_zero, List.set_cons_succ]
                refine takeD (i := 19) 68 (.pointer (some ⟨rb, 3, none⟩)) rfl rfl (by kernel_rfl) (by kernel_rfl) (by kernel_rfl) (fun _ _ _ h => h) (by kernel_rfl) (fun w => by first | kernel_rfl | (go_simp; done)) ?_
                simp only [Act.put, List.setIfInBounds_toArray, List.set_cons_zero, List.set_cons_succ]
                refine takeD (i := 22) 71 (.string text) rfl rfl (by kernel_rfl) (by kernel_rfl) (by kernel_rfl) (fun _ _ _ h => h) (by kernel_rfl) (fun w => by first | kernel_rfl | (go_simp; done)) ?_
                simp only [Act.put, List.setIfInBounds_toArray, List.set_cons_zero, List.set_cons_succ]
                refine wpAny_ready (rs := [16, 20]) (by kernel_rfl) (by simp) (AllReady.cons rfl (fun K hK => ?_) (AllReady.cons rfl (fun K hK => ?_) AllReady.nil))
                · go_simp
                  refine hK _ _ ?_
                  clear hK K
                  refine wpAny_ready (rs := [20]) (by kernel_rfl) (by simp) (AllReady.cons rfl (fun K hK => ?_) AllReady.nil)
                  go_simp
                  refine hK _ _ ?_
                  clear hK K
                  refine wpAny_ready (rs := [21]) (by kernel_rfl) (by simp) (AllReady.cons rfl (fun K hK => ?_) AllReady.nil)
                  go_simp
                  (with_reducible refine (hcw2.out _ hb6H.out _ _ _ hI6.out).mono ?_)
                  rintro e w7 ⟨rfl, hb7⟩
                  have q37 := cell_later hb7 q36
                  have hO7 := Lib.hid (OwnL.call hO6.out hb7)
                  have hb7H := Lib.hid (bcall hb6H.out hb7)
                  clear hb7
                  go_simp
                  (try (refine hK _ _ ?_))
                  clear hK K
                  refine takeD (i := 23) 72 (.bool true) rfl rfl (by kernel_rfl) (by kernel_rfl) (by kernel_rfl) (fun _ _ _ h => h) (by kernel_rfl) (fun w => by go_simp) ?_
                  simp only [Act.put, List.setIfInBounds_toArray, List.set_cons_zero, List.set_cons_succ]
                  refine takeD (i := 24) 73 (.bool true) rfl rfl (by kernel_rfl) (by kernel_rfl) (by kernel_rfl) (fun _ _ _ h => h) (by kernel_rfl) (fun w => by first | kernel_rfl | (go_simp; done)) ?_
                  simp only [Act.put, List.setIfInBounds_toArray, List.set_cons_zero, List.set_cons_succ]
                  refine wpAny_done (by kernel_rfl) ?_ _
                  (go_wp2_with fail; go_ret2; (first | rw [hfH.out] | rw [show findR s (Int.toNat 1) text.data.toList = _ from hfH.out]); exact ⟨_, rfl, OwnL.nil _ _ _ _ _, hb7H.out⟩)
                · go_simp
                  refine hK _ _ ?_
                  clear hK K
                  refine wpAny_ready (rs := [16]) (by kernel_rfl) (by simp) (AllReady.cons rfl (fun K hK => ?_) AllReady.nil)
                  go_simp
                  refine hK _ _ ?_
                  clear hK K
                  refine wpAny_ready (rs := [21]) (by kernel_rfl) (by simp) (AllReady.cons rfl (fun K hK => ?_) AllReady.nil)
                  go_simp
                  (with_reducible refine (hcw2.out _ hb6H.out _ _ _ hI6.out).mono ?_)
                  rintro e w7 ⟨rfl, hb7⟩
                  have q37 := cell_later hb7 q36
                  have hO7 := Lib.hid (OwnL.call hO6.out hb7)
                  have hb7H := Lib.hid (bcall hb6H.out hb7)
                  clear hb7
                  go_simp
                  (try (refine hK _ _ ?_))
                  clear hK K
                  refine takeD (i := 23) 72 (.bool true) rfl rfl (by kernel_rfl) (by kernel_rfl) (by kernel_rfl) (fun _ _ _ h => h) (by kernel_rfl) (fun w => by go_simp) ?_
                  simp only [Act.put, List.setIfInBounds_toArray, List.set_cons_zero, List.set_cons_succ]
                  refine takeD (i := 24) 73 (.bool true) rfl rfl (by kernel_rfl) (by kernel_rfl) (by kernel_rfl) (fun _ _ _ h => h) (by kernel_rfl) (fun w => by first | kernel_rfl | (go_simp; done)) ?_
                  simp only [Act.put, List.setIfInBounds_toArray, List.set_cons_zero, List.set_cons_succ]
                  refine wpAny_done (by kernel_rfl) ?_ _
                  (go_wp2_with fail; go_ret2; (first | rw [hfH.out] | rw [show findR s (Int.toNat 1) text.data.toList = _ from hfH.out]); exact ⟨_, rfl, OwnL.nil _ _ _ _ _, hb7H.out⟩)
        · go_wp2_with fail
          refine (styles_any _).mono ?_
          rintro e w4 ⟨rfl, hb4⟩
          have hix := style_at1
          obtain ⟨bs, hbs⟩ : ∃ bs, w4.heap.size = bs := ⟨_, rfl⟩
          obtain ⟨W0, hW0⟩ : ∃ W0, w4.alloc (.cells #[.func (.func 48) #[] #[], .func (.func 49) #[] #[]] 54) = W0 := ⟨_, rfl⟩
          have hbW : Below wr.heap.size wr W0 := by rw [← hW0]; exact bcall hb4 (below1 w4 _)
          have hrbr : rb < wr.heap.size := (Array.getElem?_eq_some_iff.1 hRH.out).1
          have hBW0 : Below w.heap.size w W0 := bcall hBrH.out hbW
          have hmbr := hVH.out.lt
          have hR0 : RdW W0 rb mb a1 c1 s W0 Lf [] := ⟨⟨aL, cL, .slice none 0 0, (hbW.block rb hrbr).trans hRH.out, ((hslH.out.same (.of_grown hGH.out (fun b hb e => by injection e with e; have := hb.1; omega))).below hbW).weak (fun b hb => ⟨by have := hb.2; have := hbW.size; omega, by have := hb.2; omega⟩), OwnL.nil _ _ _ _ _⟩, gby_refl' _ _, hTs, by have := hbW.size; omega⟩
          have hE0 : RdEnv W0 rb mb a1 c1 s := ⟨hxH.out, fun W hg => by
            have hbb : Below w.heap.size w W := hBW0.grown hg hBW0.size (fun i e => by injection e with e; omega)
            exact ⟨(h1H.out.below hbb).weak (fun _ _ => trivial), ⟨s.length, (hVH.out.below hbW hmbr).same (hg.block mb (by have := hbW.size; omega) (fun e => by injection e with e; omega))⟩, hLH.out.later hbb⟩⟩
          have hbs4 : wr.heap.size ≤ bs := by rw [← hbs]; exact hb4.size
          have s0 : W0.cell? ⟨bs, 0, none⟩ = some (.func (.func 48) #[] #[]) := by rw [← hW0, ← hbs]; clear hW0; go_simp
          have s1 : W0.cell? ⟨bs, 1, none⟩ = some (.func (.func 49) #[] #[]) := by rw [← hW0, ← hbs]; clear hW0; go_simp
          have hR0d : RdW W0 rb mb a1 c1 s W0.drew Lf [] := hR0.later (Below.drew (.refl _ _))
          have hrd := Lib.hid (arrows_rd hE0 62 W0.drew Lf [] hR0d (by decide) (by decide))
          have hft := Lib.hid (find_tok (s := s) (k := 2) (by decide) hTt)
          have hBd : Below w.heap.size w W0.drew := Below.drew hBW0
          have hcw := Lib.hid (fun (T : List Int) (hT : okT s T = true) (W : World) (hb : Below w.heap.size w W) (S2 : Nat → Prop) (a2 : Option Addr) (c2 : Nat) (hI : Ints S2 W a2 c2 T) => twritten_any (k := 2) (F := 48) (R := 49) a1 a2 c1 c2 s T W (h1H.out.below hb) hI hT (enters_of Tryd.func48 (by kernel_rfl) rfl)
            (fun S1 S2 b1 b2 d1 d2 n A W hn h1 h2 => arrows_any b1 b2 d1 d2 s n hn A W hxH.out h1 h2))
          have hcv := Lib.hid (fun (T : List Int) (W : World) (hb : Below w.heap.size w W) (S2 : Nat → Prop) (a2 : Option Addr) (c2 : Nat) (hI : Ints S2 W a2 c2 T) => Valid_any a1 a2 c1 c2 s T W (h1H.out.below hb) hI)
          have hgB := Lib.hid (fun (W : World) (hg : W0.grownBy W (some rb)) => (hBW0.grown hg hBW0.size (fun i e => by injection e with e; omega) : Below w.heap.size w W))
          have hwz : w.heap.size ≤ W0.heap.size := hBW0.size
          have hW0H := Lib.hid hW0
          have s0H := Lib.hid s0
          have s1d := cell_later (Below.drew (.refl W0.heap.size W0)) s1
          clear hR0 hR0d hE0 hbW hBW0 hBd hb4 hW0 s0 s1 hRH hBrH hGH hVH hslH hTt hTs
          go_upto_region 14 with fail
          rw [hW0H.out]
          obtain ⟨M, hM⟩ : ∃ M, rdM 2 s 62 (btk Lf, []) = M := ⟨_, rfl⟩
          rw [show arrM s 62 (btk Lf, []) = rdM 2 s 62 (btk Lf, []) from rfl, hM] at hrd
          rw [hM] at hft
          clear hM hW0H
          cases M with
          | none =>
            have hf := hft.out.1 rfl
            have hrd2 : Hid (Calls Tryd.prog 49 #[.pointer (some ⟨rb, 0, none⟩)] W0.drew fun e w' => e = .returned (.bool false) ∧ W0.grownBy w' (some rb)) := Lib.hid (hrd.out.mono fun e w' h => by
              rcases h with ⟨_, _, h, _⟩ | ⟨_, h1, _, _, h2⟩
              · cases h
              · exact ⟨h1, h2.gb⟩)
            have hr := Lib.hid (fun (W : World) (hg : W0.grownBy W (some rb)) => (⟨.slice none 0 0, rfl, OwnL.nil _ _ _ _ _, hgB.out W hg⟩ : ∃ v, Ending.returned (.tuple #[.slice none 0 0, .int .i64 2]) = .returned (.tuple #[v, .int .i64 (([], 2) : List Int × Int).2]) ∧ OwnI W w.heap.size v (([], 2) : List Int × Int).1 ∧ Below w.heap.size w W))
            have hfH := Lib.hid hf
            clear hf hft hrd
            refine wp_region_any (by kernel_rfl) ?_
            (try (change wpAny _ _ _ _ _ _ _ (World.drew _)))
            refine takeD (i := 0) 49 (.pointer (some ⟨bs, 1, none⟩)) rfl rfl (by kernel_rfl) (by kernel_rfl) (by kernel_rfl) (fun _ _ _ h => h) (by kernel_rfl) (fun w => by first | kernel_rfl | (go_simp; done)) ?_
            simp only [Act.put, List.setIfInBounds_toArray, List.set_cons_zero, List.set_cons_succ]
            refine takeD (i := 2) 51 (.pointer (some ⟨rb, 0, none⟩)) rfl rfl (by kernel_rfl) (by kernel_rfl) (by kernel_rfl) (fun _ _ _ h => h) (by kernel_rfl) (fun w => by first | kernel_rfl | (go_simp; done)) ?_
            simp only [Act.put, List.setIfInBounds_toArray, List.set_cons_zero, List.set_cons_succ]
            refine wpAny_ready (rs := [1]) (by kernel_rfl) (by simp) (AllReady.cons rfl (fun K hK => ?_) AllReady.nil)
            go_simp
            refine hK _ _ ?_
            clear hK K
            refine wpAny_ready (rs := [3]) (by kernel_rfl) (by simp) (AllReady.cons rfl (fun K hK => ?_) AllReady.nil)
            go_simp
            (with_reducible refine hrd2.out.mono ?_)
            rintro e w5 ⟨rfl, hg5⟩
            go_simp
            (try (refine hK _ _ ?_))
            clear hK K
            refine takeD (i := 4) 53 (.bool true) rfl rfl (by kernel_rfl) (by kernel_rfl) (by kernel_rfl) (fun _ _ _ h => h) (by kernel_rfl) (fun w => by first | kernel_rfl | (go_simp; done)) ?_
            simp only [Act.put, List.setIfInBounds_toArray, List.set_cons_zero, List.set_cons_succ]
            refine takeD (i := 5) 54 (.bool true) rfl rfl (by kernel_rfl) (by kernel_rfl) (by kernel_rfl) (fun _ _ _ h => h) (by kernel_rfl) (fun w => by first | kernel_rfl | (go_simp; done)) ?_
            simp only [Act.put, List.setIfInBounds_toArray, List.set_cons_zero, List.set_cons_succ]
            refine skipD (i := 6) 55 rfl rfl (by kernel_rfl) (by kernel_rfl) (by kernel_rfl) (fun _ _ _ h => h) (by kernel_rfl) ?_
            simp only [Act.put, List.setIfInBounds_toArray, List.set_cons_zero, List.set_cons_succ]
            refine skipD (i := 7) 56 rfl rfl (by kernel_rfl) (by kernel_rfl) (by kernel_rfl) (fun _ _ _ h => h) (by kernel_rfl) ?_
            simp only [Act.put, List.setIfInBounds_toArray, List.set_cons_zero, List.set_cons_succ]
            refine skipD (i := 8) 57 rfl rfl (by kernel_rfl) (by kernel_rfl) (by kernel_rfl) (fun _ _ _ h => h) (by kernel_rfl) ?_
            simp only [Act.put, List.setIfInBounds_toArray, List.set_cons_zero, List.set_cons_succ]
            refine skipD (i := 9) 58 rfl rfl (by kernel_rfl) (by kernel_rfl) (by kernel_rfl) (fun _ _ _ h => h) (by kernel_rfl) ?_
            simp only [Act.put, List.setIfInBounds_toArray, List.set_cons_zero, List.set_cons_succ]
            refine skipD (i := 10) 59 rfl rfl (by kernel_rfl) (by kernel_rfl) (by kernel_rfl) (fun _ _ _ h => h) (by kernel_rfl) ?_
            simp only [Act.put, List.setIfInBounds_toArray, List.set_cons_zero, List.set_cons_succ]
            refine skipD (i := 11) 60 rfl rfl (by kernel_rfl) (by kernel_rfl) (by kernel_rfl) (fun _ _ _ h => h) (by kernel_rfl) ?_
            simp only [Act.put, List.setIfInBounds_toArray, List.set_cons_zero, List.set_cons_succ]
            refine skipD (i := 12) 61 rfl rfl (by kernel_rfl) (by kernel_rfl) (by kernel_rfl) (fun _ _ _ h => h) (by kernel_rfl) ?_
            simp only [Act.put, List.setIfInBounds_toArray, List.set_cons_zero, List.set_cons_succ]
            refine takeD (i := 13) 62 (.bool true) rfl rfl (by kernel_rfl) (by kernel_rfl) (by kernel_rfl) (fun _ _ _ h => h) (by kernel_rfl) (fun w => by first | kernel_rfl | (go_simp; done)) ?_
            simp only [Act.put, List.setIfInBounds_toArray, List.set_cons_zero, List.set_cons_succ]
            refine takeD (i := 14) 63 (.bool true) rfl rfl (by kernel_rfl) (by kernel_rfl) (by kernel_rfl) (fun _ _ _ h => h) (by kernel_rfl) (fun w => by first | kernel_rfl | (go_simp; done)) ?_
            simp only [Act.put, List.setIfInBounds_toArray, List.set_cons_zero, List.set_cons_succ]
            refine skipD (i := 15) 64 rfl rfl (by kernel_rfl) (by kernel_rfl) (by kernel_rfl) (fun _ _ _ h => h) (by kernel_rfl) ?_
            simp only [Act.put, List.setIfInBounds_toArray, List.set_cons_zero, List.set_cons_succ]
            refine skipD (i := 16) 65 rfl rfl (by kernel_rfl) (by kernel_rfl) (by kernel_rfl) (fun _ _ _ h => h) (by kernel_rfl) ?_
            simp only [Act.put, List.setIfInBounds_toArray, List.set_cons_zero, List.set_cons_succ]
            refine skipD (i := 17) 66 rfl rfl (by kernel_rfl) (by kernel_rfl) (by kernel_rfl) (fun _ _ _ h => h) (by kernel_rfl) ?_
            simp only [Act.put, List.setIfInBounds_toArray, List.set_cons_zero, List.set_cons_succ]
            refine skipD (i := 18) 67 rfl rfl (by kernel_rfl) (by kernel_rfl) (by kernel_rfl) (fun _ _ _ h => h) (by kernel_rfl) ?_
            simp only [Act.put, List.setIfInBounds_toArray, List.set_cons_zero, List.set_cons_succ]
            refine skipD (i := 19) 68 rfl rfl (by kernel_rfl) (by kernel_rfl) (by kernel_rfl) (fun _ _ _ h => h) (by kernel_rfl) ?_
            simp only [Act.put, List.setIfInBounds_toArray, List.set_cons_zero, List.set_cons_succ]
            refine skipD (i := 20) 69 rfl rfl (by kernel_rfl) (by kernel_rfl) (by kernel_rfl) (fun _ _ _ h => h) (by kernel_rfl) ?_
            simp only [Act.put, List.setIfInBounds_toArray, List.set_cons_zero, List.set_cons_succ]
            refine skipD (i := 21) 70 rfl rfl (by kernel_rfl) (by kernel_rfl) (by kernel_rfl) (fun _ _ _ h => h) (by kernel_rfl) ?_
            simp only [Act.put, List.setIfInBounds_toArray, List.set_cons_zero, List.set_cons_succ]
            refine skipD (i := 22) 71 rfl rfl (by kernel_rfl) (by kernel_rfl) (by kernel_rfl) (fun _ _ _ h => h) (by kernel_rfl) ?_
            simp only [Act.put, List.setIfInBounds_toArray, List.set_cons_zero, List.set_cons_succ]
            refine skipD (i := 23) 72 rfl rfl (by kernel_rfl) (by kernel_rfl) (by kernel_rfl) (fun _ _ _ h => h) (by kernel_rfl) ?_
            simp only [Act.put, List.setIfInBounds_toArray, List.set_cons_zero, List.set_cons_succ]
            refine takeD (i := 24) 73 (.bool true) rfl rfl (by kernel_rfl) (by kernel_rfl) (by kernel_rfl) (fun _ _ _ h => h) (by kernel_rfl) (fun w => by first | kernel_rfl | (go_simp; done)) ?_
            simp only [Act.put, List.setIfInBounds_toArray, List.set_cons_zero, List.set_cons_succ]
            refine wpAny_done (by kernel_rfl) ?_ _
            all_goals (go_wp2_with fail; go_ret2; (first | rw [hfH.out] | rw [show findR s (Int.toNat 2) text.data.toList = _ from hfH.out]); exact hr.out _ hg5)
          | some M =>
            obtain ⟨LT, T⟩ := M
            have hft2 := hft.out.2 LT T rfl
            have hrd2 : Hid (Calls Tryd.prog 49 #[.pointer (some ⟨rb, 0, none⟩)] W0.drew fun e w' => e = .returned (.bool true) ∧ ∃ aT cT, w'.cell? ⟨rb, 3, none⟩ = some (.slice aT T.length cT) ∧ Hid (Ints (fun b => W0.heap.size ≤ b) w' aT cT T ∧ OwnI w' W0.heap.size (.slice aT T.length cT) T ∧ Below w.heap.size w w') ∧ w'.cell? ⟨bs, 0, none⟩ = some (.func (.func 48) #[] #[]) ∧ w'.cell? ⟨bs, 1, none⟩ = some (.func (.func 49) #[] #[])) := Lib.hid (hrd.out.mono fun e w' h => by
              rcases h with ⟨L', T', h, he, hw, _⟩ | ⟨h, _⟩
              · obtain ⟨-, rfl⟩ := Prod.mk.inj (Option.some.inj h)
                obtain ⟨aT, cT, f1, f2, f3⟩ := hw.facts
                have hne : bs ≠ rb := by omega
                exact ⟨he, aT, cT, f1, Lib.hid ⟨f2, f3, hgB.out _ hw.gb⟩, gby_cell hw.gb s0H.out hne, gby_cell hw.gb ((show W0.cell? ⟨bs, 1, none⟩ = W0.drew.cell? ⟨bs, 1, none⟩ from rfl).trans s1d) hne⟩
              · cases h)
            clear hft hrd hgB
            cases hv : okT s T with
            | false =>
              have hf := hft2.2 hv
              have hcv2 := Lib.hid (hcv.out T)
              rw [hv] at hcv2
              have hfH := Lib.hid hf
              clear hf hft2 hv hcv hcw
              refine wp_region_any (by kernel_rfl) ?_
              (try (change wpAny _ _ _ _ _ _ _ (World.drew _)))
              refine takeD (i := 0) 49 (.pointer (some ⟨bs, 1, none⟩)) rfl rfl (by kernel_rfl) (by kernel_rfl) (by kernel_rfl) (fun _ _ _ h => h) (by kernel_rfl) (fun w => by first | kernel_rfl | (go_simp; done)) ?_
              simp only [Act.put, List.setIfInBounds_toArray, List.set_cons_zero, List.set_cons_succ]
              refine takeD (i := 2) 51 (.pointer (some ⟨rb, 0, none⟩)) rfl rfl (by kernel_rfl) (by kernel_rfl) (by kernel_rfl) (fun _ _ _ h => h) (by kernel_rfl) (fun w => by first | kernel_rfl | (go_simp; done)) ?_
              simp only [Act.put, List.setIfInBounds_toArray, List.set_cons_zero, List.set_cons_succ]
              refine wpAny_ready (rs := [1]) (by kernel_rfl) (by simp) (AllReady.cons rfl (fun K hK => ?_) AllReady.nil)
              go_simp
              refine hK _ _ ?_
              clear hK K
              refine wpAny_ready (rs := [3]) (by kernel_rfl) (by simp) (AllReady.cons rfl (fun K hK => ?_) AllReady.nil)
              go_simp
              (with_reducible refine hrd2.out.mono ?_)
              rintro e w5 ⟨rfl, aT, cT, q3, hI5, t0, t1⟩
              go_simp
              (try (refine hK _ _ ?_))
              clear hK K
              refine takeD (i := 4) 53 (.bool false) rfl rfl (by kernel_rfl) (by kernel_rfl) (by kernel_rfl) (fun _ _ _ h => h) (by kernel_rfl) (fun w => by first | kernel_rfl | (go_simp; done)) ?_
              simp only [Act.put, List.setIfInBounds_toArray, List.set_cons_zero, List.set_cons_succ]
              refine takeD (i := 5) 54 (.bool false) rfl rfl (by kernel_rfl) (by kernel_rfl) (by kernel_rfl) (fun _ _ _ h => h) (by kernel_rfl) (fun w => by first | kernel_rfl | (go_simp; done)) ?_
              simp only [Act.put, List.setIfInBounds_toArray, List.set_cons_zero, List.set_cons_succ]
              refine takeD (i := 6) 55 (.slice a1 s.length c1) rfl rfl (by kernel_rfl) (by kernel_rfl) (by kernel_rfl) (fun _ _ _ h => h) (by kernel_rfl) (fun w => by first | kernel_rfl | (go_simp; done)) ?_
              simp only [Act.put, List.setIfInBounds_toArray, List.set_cons_zero, List.set_cons_succ]
              refine takeD (i := 7) 56 (.pointer (some ⟨rb, 0, none⟩)) rfl rfl (by kernel_rfl) (by kernel_rfl) (by kernel_rfl) (fun _ _ _ h => h) (by kernel_rfl) (fun w => by first | kernel_rfl | (go_simp; done)) ?_
              simp only [Act.put, List.setIfInBounds_toArray, List.set_cons_zero, List.set_cons_succ]
              refine takeD (i := 8) 57 (.pointer (some ⟨rb, 0, none⟩)) rfl rfl (by kernel_rfl) (by kernel_rfl) (by kernel_rfl) (fun _ _ _ h => h) (by kernel_rfl) (fun w => by first | kernel_rfl | (go_simp; done)) ?_
              simp only [Act.put, List.setIfInBounds_toArray, List.set_cons_zero, List.set_cons_succ]
              refine takeD (i := 9) 58 (.pointer (some ⟨rb, 3, none⟩)) rfl rfl (by kernel_rfl) (by kernel_rfl) (by kernel_rfl) (fun _ _ _ h => h) (by kernel_rfl) (fun w => by first | kernel_rfl | (go_simp; done)) ?_
              simp only [Act.put, List.setIfInBounds_toArray, List.set_cons_zero, List.set_cons_succ]
              refine wpAny_ready (rs := [10]) (by kernel_rfl) (by simp) (AllReady.cons rfl (fun K hK => ?_) AllReady.nil)
              go_simp
              refine hK _ _ ?_
              clear hK K
              refine wpAny_ready (rs := [11]) (by kernel_rfl) (by simp) (AllReady.cons rfl (fun K hK => ?_) AllReady.nil)
              go_simp
              (with_reducible refine (hcv2.out _ hI5.out.2.2 _ _ _ hI5.out.1).mono ?_)
              rintro e w6 ⟨rfl, hb6⟩
              go_simp
              (try (refine hK _ _ ?_))
              clear hK K
              refine takeD (i := 12) 61 (.bool true) rfl rfl (by kernel_rfl) (by kernel_rfl) (by kernel_rfl) (fun _ _ _ h => h) (by kernel_rfl) (fun w => by first | kernel_rfl | (go_simp; done)) ?_
              simp only [Act.put, List.setIfInBounds_toArray, List.set_cons_zero, List.set_cons_succ]
              refine takeD (i := 13) 62 (.bool true) rfl rfl (by kernel_rfl) (by kernel_rfl) (by kernel_rfl) (fun _ _ _ h => h) (by kernel_rfl) (fun w => by first | kernel_rfl | (go_simp; done)) ?_
              simp only [Act.put, List.setIfInBounds_toArray, List.set_cons_zero, List.set_cons_succ]
              refine takeD (i := 14) 63 (.bool true) rfl rfl (by kernel_rfl) (by kernel_rfl) (by kernel_rfl) (fun _ _ _ h => h) (by kernel_rfl) (fun w => by first | kernel_rfl | (go_simp; done)) ?_
              simp only [Act.put, List.setIfInBounds_toArray, List.set_cons_zero, List.set_cons_succ]
              refine skipD (i := 15) 64 rfl rfl (by kernel_rfl) (by kernel_rfl) (by kernel_rfl) (fun _ _ _ h => h) (by kernel_rfl) ?_
              simp only [Act.put, List.setIfInBounds_toArray, List.set_cons_zero, List.set_cons_succ]
              refine skipD (i := 16) 65 rfl rfl (by kernel_rfl) (by kernel_rfl) (by kernel_rfl) (fun _ _ _ h => h) (by kernel_rfl) ?_
              simp only [Act.put, List.setIfInBounds_toArray, List.set_cons_zero, List.set_cons_succ]
              refine skipD (i := 17) 66 rfl rfl (by kernel_rfl) (by kernel_rfl) (by kernel_rfl) (fun _ _ _ h => h) (by kernel_rfl) ?_
              simp only [Act.put, List.setIfInBounds_toArray, List.set_cons_zero, List.set_cons_succ]
              refine skipD (i := 18) 67 rfl rfl (by kernel_rfl) (by kernel_rfl) (by kernel_rfl) (fun _ _ _ h => h) (by kernel_rfl) ?_
              simp only [Act.put, List.setIfInBounds_toArray, List.set_cons_zero, List.set_cons_succ]
              refine skipD (i := 19) 68 rfl rfl (by kernel_rfl) (by kernel_rfl) (by kernel_rfl) (fun _ _ _ h => h) (by kernel_rfl) ?_
              simp only [Act.put, List.setIfInBounds_toArray, List.set_cons_zero, List.set_cons_succ]
              refine skipD (i := 20) 69 rfl rfl (by kernel_rfl) (by kernel_rfl) (by kernel_rfl) (fun _ _ _ h => h) (by kernel_rfl) ?_
              simp only [Act.put, List.setIfInBounds_toArray, List.set_cons_zero, List.set_cons_succ]
              refine skipD (i := 21) 70 rfl rfl (by kernel_rfl) (by kernel_rfl) (by kernel_rfl) (fun _ _ _ h => h) (by kernel_rfl) ?_
              simp only [Act.put, List.setIfInBounds_toArray, List.set_cons_zero, List.set_cons_succ]
              refine skipD (i := 22) 71 rfl rfl (by kernel_rfl) (by kernel_rfl) (by kernel_rfl) (fun _ _ _ h => h) (by kernel_rfl) ?_
              simp only [Act.put, List.setIfInBounds_toArray, List.set_cons_zero, List.set_cons_succ]
              refine skipD (i := 23) 72 rfl rfl (by kernel_rfl) (by kernel_rfl) (by kernel_rfl) (fun _ _ _ h => h) (by kernel_rfl) ?_
              simp only [Act.put, List.setIfInBounds_toArray, List.set_cons_zero, List.set_cons_succ]
              refine takeD (i := 24) 73 (.bool true) rfl rfl (by kernel_rfl) (by kernel_rfl) (by kernel_rfl) (fun _ _ _ h => h) (by kernel_rfl) (fun w => by first | kernel_rfl | (go_simp; done)) ?_
              simp only [Act.put, List.setIfInBounds_toArray, List.set_cons_zero, List.set_cons_succ]
              refine wpAny_done (by kernel_rfl) ?_ _
              all_goals (go_wp2_with fail; go_ret2; (first | rw [hfH.out] | rw [show findR s (Int.toNat 2) text.data.toList = _ from hfH.out]); exact ⟨_, rfl, OwnL.nil _ _ _ _ _, bcall hI5.out.2.2 hb6⟩)
            | true =>
              have hcv2 := Lib.hid (hcv.out T)
              rw [hv] at hcv2
              have hcw2 := Lib.hid (hcw.out T hv)
              by_cases hte : txt 2 s T = text.data.toList
              · have hf := find_ok hv hte
                have hte2 : toB (txt 2 s T) = text := by rw [hte]; exact ba_ext2 (by simp [toB])
                rw [hte2] at hcw2
                have hfH := Lib.hid hf
                clear hf hft2 hv hcv hcw hte hte2
                refine wp_region_any (by kernel_rfl) ?_
                (try (change wpAny _ _ _ _ _ _ _ (World.drew _)))
                refine takeD (i := 0) 49 (.pointer (some ⟨bs, 1, none⟩)) rfl rfl (by kernel_rfl) (by kernel_rfl) (by kernel_rfl) (fun _ _ _ h => h) (by kernel_rfl) (fun w => by first | kernel_rfl | (go_simp; done)) ?_
                simp only [Act.put, List.setIfInBounds_toArray, List.set_cons_zero, List.set_cons_succ]
                refine takeD (i := 2) 51 (.pointer (some ⟨rb, 0, none⟩)) rfl rfl (by kernel_rfl) (by kernel_rfl) (by kernel_rfl) (fun _ _ _ h => h) (by kernel_rfl) (fun w => by first | kernel_rfl | (go_simp; done)) ?_
                simp only [Act.put, List.setIfInBounds_toArray, List.set_cons_zero, List.set_cons_succ]
                refine wpAny_ready (rs := [1]) (by kernel_rfl) (by simp) (AllReady.cons rfl (fun K hK => ?_) AllReady.nil)
                go_simp
                refine hK _ _ ?_
                clear hK K
                refine wpAny_ready (rs := [3]) (by kernel_rfl) (by simp) (AllReady.cons rfl (fun K hK => ?_) AllReady.nil)
                go_simp
                (with_reducible refine hrd2.out.mono ?_)
                rintro e w5 ⟨rfl, aT, cT, q3, hI5, t0, t1⟩
                go_simp
                (try (refine hK _ _ ?_))
                clear hK K
                refine takeD (i := 4) 53 (.bool false) rfl rfl (by kernel_rfl) (by kernel_rfl) (by kernel_rfl) (fun _ _ _ h => h) (by kernel_rfl) (fun w => by first | kernel_rfl | (go_simp; done)) ?_
                simp only [Act.put, List.setIfInBounds_toArray, List.set_cons_zero, List.set_cons_succ]
                refine takeD (i := 5) 54 (.bool false) rfl rfl (by kernel_rfl) (by kernel_rfl) (by kernel_rfl) (fun _ _ _ h => h) (by kernel_rfl) (fun w => by first | kernel_rfl | (go_simp; done)) ?_
                simp only [Act.put, List.setIfInBounds_toArray, List.set_cons_zero, List.set_cons_succ]
                refine takeD (i := 6) 55 (.slice a1 s.length c1) rfl rfl (by kernel_rfl) (by kernel_rfl) (by kernel_rfl) (fun _ _ _ h => h) (by kernel_rfl) (fun w => by first | kernel_rfl | (go_simp; done)) ?_
                simp only [Act.put, List.setIfInBounds_toArray, List.set_cons_zero, List.set_cons_succ]
                refine takeD (i := 7) 56 (.pointer (some ⟨rb, 0, none⟩)) rfl rfl (by kernel_rfl) (by kernel_rfl) (by kernel_rfl) (fun _ _ _ h => h) (by kernel_rfl) (fun w => by first | kernel_rfl | (go_simp; done)) ?_
                simp only [Act.put, List.setIfInBounds_toArray, List.set_cons_zero, List.set_cons_succ]
                refine takeD (i := 8) 57 (.pointer (some ⟨rb, 0, none⟩)) rfl rfl (by kernel_rfl) (by kernel_rfl) (by kernel_rfl) (fun _ _ _ h => h) (by kernel_rfl) (fun w => by first | kernel_rfl | (go_simp; done)) ?_
                simp only [Act.put, List.setIfInBounds_toArray, List.set_cons_zero, List.set_cons_succ]
                refine takeD (i := 9) 58 (.pointer (some ⟨rb, 3, none⟩)) rfl rfl (by kernel_rfl) (by kernel_rfl) (by kernel_rfl) (fun _ _ _ h => h) (by kernel_rfl) (fun w => by first | kernel_rfl | (go_simp; done)) ?_
                simp only [Act.put, List.setIfInBounds_toArray, List.set_cons_zero, List.set_cons_succ]
                refine wpAny_ready (rs := [10]) (by kernel_rfl) (by simp) (AllReady.cons rfl (fun K hK => ?_) AllReady.nil)
                go_simp
                refine hK _ _ ?_
                clear hK K
                refine wpAny_ready (rs := [11]) (by kernel_rfl) (by simp) (AllReady.cons rfl (fun K hK => ?_) AllReady.nil)
                go_simp
                (with_reducible refine (hcv2.out _ hI5.out.2.2 _ _ _ hI5.out.1).mono ?_)
                rintro e w6 ⟨rfl, hb6⟩
                have q36 := cell_later hb6 q3
                have t06 := cell_later hb6 t0
                have t16 := cell_later hb6 t1
                have hI6 := Lib.hid (show Ints _ w6 aT cT T from hI5.out.1.below hb6)
                have hO6 := Lib.hid (OwnL.call hI5.out.2.1 hb6)
                have hb6H := Lib.hid (bcall hI5.out.2.2 hb6)
                clear hb6
                go_simp
                (try (refine hK _ _ ?_))
                clear hK K
                refine takeD (i := 12) 61 (.bool false) rfl rfl (by kernel_rfl) (by kernel_rfl) (by kernel_rfl) (fun _ _ _ h => h) (by kernel_rfl) (fun w => by first | kernel_rfl | (go_simp; done)) ?_
                simp only [Act.put, List.setIfInBounds_toArray, List.set_cons_zero, List.set_cons_succ]
                refine takeD (i := 13) 62 (.bool false) rfl rfl (by kernel_rfl) (by kernel_rfl) (by kernel_rfl) (fun _ _ _ h => h) (by kernel_rfl) (fun w => by first | kernel_rfl | (go_simp; done)) ?_
                simp only [Act.put, List.setIfInBounds_toArray, List.set_cons_zero, List.set_cons_succ]
                refine takeD (i := 14) 63 (.bool false) rfl rfl (by kernel_rfl) (by kernel_rfl) (by kernel_rfl) (fun _ _ _ h => h) (by kernel_rfl) (fun w => by first | kernel_rfl | (go_simp; done)) ?_
                simp only [Act.put, List.setIfInBounds_toArray, List.set_cons_zero, List.set_cons_succ]
                refine takeD (i := 15) 64 (.slice a1 s.length c1) rfl rfl (by kernel_rfl) (by kernel_rfl) (by kernel_rfl) (fun _ _ _ h => h) (by kernel_rfl) (fun w => by first | kernel_rfl | (go_simp; done)) ?_
                simp only [Act.put, List.setIfInBounds_toArray, List.set_cons_zero, List.set_cons_succ]
                refine takeD (i := 17) 66 (.pointer (some ⟨rb, 0, none⟩)) rfl rfl (by kernel_rfl) (by kernel_rfl) (by kernel_rfl) (fun _ _ _ h => h) (by kernel_rfl) (fun w => by first | kernel_rfl | (go_simp; done)) ?_
                simp only [Act.put, List.setIfInBounds_toArray, List.set_cons_zero, List.set_cons_succ]
                refine takeD (i := 18) 67 (.pointer (some ⟨rb, 0, none⟩)) rfl rfl (by kernel_rfl) (by kernel_rfl) (by kernel_rfl) (fun _ _ _ h => h) (by kernel_rfl) (fun w => by first | kernel_rfl | (go_simp; done)) ?_
                simp only [Act.put, List.setIfInBounds_toArray, List.set_cons_zero, List.set_cons_succ]
                refine takeD (i := 19) 68 (.pointer (some ⟨rb, 3, none⟩)) rfl rfl (by kernel_rfl) (by kernel_rfl) (by kernel_rfl) (fun _ _ _ h => h) (by kernel_rfl) (fun w => by first | kernel_rfl | (go_simp; done)) ?_
                simp only [Act.put, List.setIfInBounds_toArray, List.set_cons_zero, List.set_cons_succ]
                refine takeD (i := 22) 71 (.string text) rfl rfl (by kernel_rfl) (by kernel_rfl) (by kernel_rfl) (fun _ _ _ h => h) (by kernel_rfl) (fun w => by first | kernel_rfl | (go_simp; done)) ?_
                simp only [Act.put, List.setIfInBounds_toArray, List.set_cons_zero, List.set_cons_succ]
                refine wpAny_ready (rs := [16, 20]) (by kernel_rfl) (by simp) (AllReady.cons rfl (fun K hK => ?_) (AllReady.cons rfl (fun K hK => ?_) AllReady.nil))
                · go_simp
                  refine hK _ _ ?_
                  clear hK K
                  refine wpAny_ready (rs := [20]) (by kernel_rfl) (by simp) (AllReady.cons rfl (fun K hK => ?_) AllReady.nil)
                  go_simp
                  refine hK _ _ ?_
                  clear hK K
                  refine wpAny_ready (rs := [21]) (by kernel_rfl) (by simp) (AllReady.cons rfl (fun K hK => ?_) AllReady.nil)
                  go_simp
                  (with_reducible refine (hcw2.out _ hb6H.out _ _ _ hI6.out).mono ?_)
                  rintro e w7 ⟨rfl, hb7⟩
                  have q37 := cell_later hb7 q36
                  have hO7 := Lib.hid (OwnL.call hO6.out hb7)
                  have hb7H := Lib.hid (bcall hb6H.out hb7)
                  clear hb7
                  go_simp
                  (try (refine hK _ _ ?_))
                  clear hK K
                  refine takeD (i := 23) 72 (.bool false) rfl rfl (by kernel_rfl) (by kernel_rfl) (by kernel_rfl) (fun _ _ _ h => h) (by kernel_rfl) (fun w => by go_simp) ?_
                  simp only [Act.put, List.setIfInBounds_toArray, List.set_cons_zero, List.set_cons_succ]
                  refine takeD (i := 24) 73 (.bool false) rfl rfl (by kernel_rfl) (by kernel_rfl) (by kernel_rfl) (fun _ _ _ h => h) (by kernel_rfl) (fun w => by first | kernel_rfl | (go_simp; done)) ?_
                  simp only [Act.put, List.setIfInBounds_toArray, List.set_cons_zero, List.set_cons_succ]
                  refine wpAny_done (by kernel_rfl) ?_ _
                  (go_wp2_with fail; go_ret2; (first | rw [hfH.out] | rw [show findR s (Int.toNat 2) text.data.toList = _ from hfH.out]); exact ⟨_, rfl, hO7.out.baseMono hwz, hb7H.out⟩)
                · go_simp
                  refine hK _ _ ?_
                  clear hK K
                  refine wpAny_ready (rs := [16]) (by kernel_rfl) (by simp) (AllReady.cons rfl (fun K hK => ?_) AllReady.nil)
                  go_simp
                  refine hK _ _ ?_
                  clear hK K
                  refine wpAny_ready (rs := [21]) (by kernel_rfl) (by simp) (AllReady.cons rfl (fun K hK => ?_) AllReady.nil)
                  go_simp
                  (with_reducible refine (hcw2.out _ hb6H.out _ _ _ hI6.out).mono ?_)
                  rintro e w7 ⟨rfl, hb7⟩
                  have q37 := cell_later hb7 q36
                  have hO7 := Lib.hid (OwnL.call hO6.out hb7)
                  have hb7H := Lib.hid (bcall hb6H.out hb7)
                  clear hb7
                  go_simp
                  (try (refine hK _ _ ?_))
                  clear hK K
                  refine takeD (i := 23) 72 (.bool false) rfl rfl (by kernel_rfl) (by kernel_rfl) (by kernel_rfl) (fun _ _ _ h => h) (by kernel_rfl) (fun w => by go_simp) ?_
                  simp only [Act.put, List.setIfInBounds_toArray, List.set_cons_zero, List.set_cons_succ]
                  refine takeD (i := 24) 73 (.bool false) rfl rfl (by kernel_rfl) (by kernel_rfl) (by kernel_rfl) (fun _ _ _ h => h) (by kernel_rfl) (fun w => by first | kernel_rfl | (go_simp; done)) ?_
                  simp only [Act.put, List.setIfInBounds_toArray, List.set_cons_zero, List.set_cons_succ]
                  refine wpAny_done (by kernel_rfl) ?_ _
                  (go_wp2_with fail; go_ret2; (first | rw [hfH.out] | rw [show findR s (Int.toNat 2) text.data.toList = _ from hfH.out]); exact ⟨_, rfl, hO7.out.baseMono hwz, hb7H.out⟩)
              · have hf := hft2.1 hv hte
                obtain ⟨y, hy⟩ : ∃ y, toB (txt 2 s T) = y := ⟨_, rfl⟩
                have hyt : ¬ y = text := fun e => hte (by rw [← e, ← hy]; simp [toB])
                have hyl : (y.toList == text.toList) = false := by rw [ba_tl, ba_tl, beq_eq_false_iff_ne]; exact fun e => hyt (ba_ext2 e)
                rw [hy] at hcw2
                have hfH := Lib.hid hf
                clear hf hft2 hv hcv hcw hte hy
                refine wp_region_any (by kernel_rfl) ?_
                (try (change wpAny _ _ _ _ _ _ _ (World.drew _)))
                refine takeD (i := 0) 49 (.pointer (some ⟨bs, 1, none⟩)) rfl rfl (by kernel_rfl) (by kernel_rfl) (by kernel_rfl) (fun _ _ _ h => h) (by kernel_rfl) (fun w => by first | kernel_rfl | (go_simp; done)) ?_
                simp only [Act.put, List.setIfInBounds_toArray, List.set_cons_zero, List.set_cons_succ]
                refine takeD (i := 2) 51 (.pointer (some ⟨rb, 0, none⟩)) rfl rfl (by kernel_rfl) (by kernel_rfl) (by kernel_rfl) (fun _ _ _ h => h) (by kernel_rfl) (fun w => by first | kernel_rfl | (go_simp; done)) ?_
                simp only [Act.put, List.setIfInBounds_toArray, List.set_cons_zero, List.set_cons_succ]
                refine wpAny_ready (rs := [1]) (by kernel_rfl) (by simp) (AllReady.cons rfl (fun K hK => ?_) AllReady.nil)
                go_simp
                refine hK _ _ ?_
                clear hK K
                refine wpAny_ready (rs := [3]) (by kernel_rfl) (by simp) (AllReady.cons rfl (fun K hK => ?_) AllReady.nil)
                go_simp
                (with_reducible refine hrd2.out.mono ?_)
                rintro e w5 ⟨rfl, aT, cT, q3, hI5, t0, t1⟩
                go_simp
                (try (refine hK _ _ ?_))
                clear hK K
                refine takeD (i := 4) 53 (.bool false) rfl rfl (by kernel_rfl) (by kernel_rfl) (by kernel_rfl) (fun _ _ _ h => h) (by kernel_rfl) (fun w => by first | kernel_rfl | (go_simp; done)) ?_
                simp only [Act.put, List.setIfInBounds_toArray, List.set_cons_zero, List.set_cons_succ]
                refine takeD (i := 5) 54 (.bool false) rfl rfl (by kernel_rfl) (by kernel_rfl) (by kernel_rfl) (fun _ _ _ h => h) (by kernel_rfl) (fun w => by first | kernel_rfl | (go_simp; done)) ?_
                simp only [Act.put, List.setIfInBounds_toArray, List.set_cons_zero, List.set_cons_succ]
                refine takeD (i := 6) 55 (.slice a1 s.length c1) rfl rfl (by kernel_rfl) (by kernel_rfl) (by kernel_rfl) (fun _ _ _ h => h) (by kernel_rfl) (fun w => by first | kernel_rfl | (go_simp; done)) ?_
                simp only [Act.put, List.setIfInBounds_toArray, List.set_cons_zero, List.set_cons_succ]
                refine takeD (i := 7) 56 (.pointer (some ⟨rb, 0, none⟩)) rfl rfl (by kernel_rfl) (by kernel_rfl) (by kernel_rfl) (fun _ _ _ h => h) (by kernel_rfl) (fun w => by first | kernel_rfl | (go_simp; done)) ?_
                simp only [Act.put, List.setIfInBounds_toArray, List.set_cons_zero, List.set_cons_succ]
                refine takeD (i := 8) 57 (.pointer (some ⟨rb, 0, none⟩)) rfl rfl (by kernel_rfl) (by kernel_rfl) (by kernel_rfl) (fun _ _ _ h => h) (by kernel_rfl) (fun w => by first | kernel_rfl | (go_simp; done)) ?_
                simp only [Act.put, List.setIfInBounds_toArray, List.set_cons_zero, List.set_cons_succ]
                refine takeD (i := 9) 58 (.pointer (some ⟨rb, 3, none⟩)) rfl rfl (by kernel_rfl) (by kernel_rfl) (by kernel_rfl) (fun _ _ _ h => h) (by kernel_rfl) (fun w => by first | kernel_rfl | (go_simp; done)) ?_
                simp only [Act.put, List.setIfInBounds_toArray, List.set_cons_zero, List.set_cons_succ]
                refine wpAny_ready (rs := [10]) (by kernel_rfl) (by simp) (AllReady.cons rfl (fun K hK => ?_) AllReady.nil)
                go_simp
                refine hK _ _ ?_
                clear hK K
                refine wpAny_ready (rs := [11]) (by kernel_rfl) (by simp) (AllReady.cons rfl (fun K hK => ?_) AllReady.nil)
                go_simp
                (with_reducible refine (hcv2.out _ hI5.out.2.2 _ _ _ hI5.out.1).mono ?_)
                rintro e w6 ⟨rfl, hb6⟩
                have q36 := cell_later hb6 q3
                have t06 := cell_later hb6 t0
                have t16 := cell_later hb6 t1
                have hI6 := Lib.hid (show Ints _ w6 aT cT T from hI5.out.1.below hb6)
                have hO6 := Lib.hid (OwnL.call hI5.out.2.1 hb6)
                have hb6H := Lib.hid (bcall hI5.out.2.2 hb6)
                clear hb6
                go_simp
                (try (refine hK _ _ ?_))
                clear hK K
                refine takeD (i := 12) 61 (.bool false) rfl rfl (by kernel_rfl) (by kernel_rfl) (by kernel_rfl) (fun _ _ _ h => h) (by kernel_rfl) (fun w => by first | kernel_rfl | (go_simp; done)) ?_
                simp only [Act.put, List.setIfInBounds_toArray, List.set_cons_zero, List.set_cons_succ]
                refine takeD (i := 13) 62 (.bool false) rfl rfl (by kernel_rfl) (by kernel_rfl) (by kernel_rfl) (fun _ _ _ h => h) (by kernel_rfl) (fun w => by first | kernel_rfl | (go_simp; done)) ?_
                simp only [Act.put, List.setIfInBounds_toArray, List.set_cons_zero, List.set_cons_succ]
                refine takeD (i := 14) 63 (.bool false) rfl rfl (by kernel_rfl) (by kernel_rfl) (by kernel_rfl) (fun _ _ _ h => h) (by kernel_rfl) (fun w => by first | kernel_rfl | (go_simp; done)) ?_
                simp only [Act.put, List.setIfInBounds_toArray, List.set_cons_zero, List.set_cons_succ]
                refine takeD (i := 15) 64 (.slice a1 s.length c1) rfl rfl (by kernel_rfl) (by kernel_rfl) (by kernel_rfl) (fun _ _ _ h => h) (by kernel_rfl) (fun w => by first | kernel_rfl | (go_simp; done)) ?_
                simp only [Act.put, List.setIfInBounds_toArray, List.set_cons_zero, List.set_cons_succ]
                refine takeD (i := 17) 66 (.pointer (some ⟨rb, 0, none⟩)) rfl rfl (by kernel_rfl) (by kernel_rfl) (by kernel_rfl) (fun _ _ _ h => h) (by kernel_rfl) (fun w => by first | kernel_rfl | (go_simp; done)) ?_
                simp only [Act.put, List.setIfInBounds_toArray, List.set_cons_zero, List.set_cons_succ]
                refine takeD (i := 18) 67 (.pointer (some ⟨rb, 0, none⟩)) rfl rfl (by kernel_rfl) (by kernel_rfl) (by kernel_rfl) (fun _ _ _ h => h) (by kernel_rfl) (fun w => by first | kernel_rfl | (go_simp; done)) ?_
                simp only [Act.put, List.setIfInBounds_toArray, List.set_cons_zero, List.set_cons_succ]
                refine takeD (i := 19) 68 (.pointer (some ⟨rb, 3, none⟩)) rfl rfl (by kernel_rfl) (by kernel_rfl) (by kernel_rfl) (fun _ _ _ h => h) (by kernel_rfl) (fun w => by first | kernel_rfl | (go_simp; done)) ?_
                simp only [Act.put, List.setIfInBounds_toArray, List.set_cons_zero, List.set_cons_succ]
                refine takeD (i := 22) 71 (.string text) rfl rfl (by kernel_rfl) (by kernel_rfl) (by kernel_rfl) (fun _ _ _ h => h) (by kernel_rfl) (fun w => by first | kernel_rfl | (go_simp; done)) ?_
                simp only [Act.put, List.setIfInBounds_toArray, List.set_cons_zero, List.set_cons_succ]
                refine wpAny_ready (rs := [16, 20]) (by kernel_rfl) (by simp) (AllReady.cons rfl (fun K hK => ?_) (AllReady.cons rfl (fun K hK => ?_) AllReady.nil))
                · go_simp
                  refine hK _ _ ?_
                  clear hK K
                  refine wpAny_ready (rs := [20]) (by kernel_rfl) (by simp) (AllReady.cons rfl (fun K hK => ?_) AllReady.nil)
                  go_simp
                  refine hK _ _ ?_
                  clear hK K
                  refine wpAny_ready (rs := [21]) (by kernel_rfl) (by simp) (AllReady.cons rfl (fun K hK => ?_) AllReady.nil)
                  go_simp
                  (with_reducible refine (hcw2.out _ hb6H.out _ _ _ hI6.out).mono ?_)
                  rintro e w7 ⟨rfl, hb7⟩
                  have q37 := cell_later hb7 q36
                  have hO7 := Lib.hid (OwnL.call hO6.out hb7)
                  have hb7H := Lib.hid (bcall hb6H.out hb7)
                  clear hb7
                  go_simp
                  (try (refine hK _ _ ?_))
                  clear hK K
                  refine takeD (i := 23) 72 (.bool true) rfl rfl (by kernel_rfl) (by kernel_rfl) (by kernel_rfl) (fun _ _ _ h => h) (by kernel_rfl) (fun w => by go_simp) ?_
                  simp only [Act.put, List.setIfInBounds_toArray, List.set_cons_zero, List.set_cons_succ]
                  refine takeD (i := 24) 73 (.bool true) rfl rfl (by kernel_rfl) (by kernel_rfl) (by kernel_rfl) (fun _ _ _ h => h) (by kernel_rfl) (fun w => by first | kernel_rfl | (go_simp; done)) ?_
                  simp only [Act.put, List.setIfInBounds_toArray, List.set_cons_zero, List.set_cons_succ]
                  refine wpAny_done (by kernel_rfl) ?_ _
                  (go_wp2_with fail; go_ret2; (first | rw [hfH.out] | rw [show findR s (Int.toNat 2) text.data.toList = _ from hfH.out]); exact ⟨_, rfl, OwnL.nil _ _ _ _ _, hb7H.out⟩)
                · go_simp
                  refine hK _ _ ?_
                  clear hK K
                  refine wpAny_ready (rs := [16]) (by kernel_rfl) (by simp) (AllReady.cons rfl (fun K hK => ?_) AllReady.nil)
                  go_simp
                  refine hK _ _ ?_
                  clear hK K
                  refine wpAny_ready (rs := [21]) (by kernel_rfl) (by simp) (AllReady.cons rfl (fun K hK => ?_) AllReady.nil)
                  go_simp
                  (with_reducible refine (hcw2.out _ hb6H.out _ _ _ hI6.out).mono ?_)
                  rintro e w7 ⟨rfl, hb7⟩
                  have q37 := cell_later hb7 q36
                  have hO7 := Lib.hid (OwnL.call hO6.out hb7)
                  have hb7H := Lib.hid (bcall hb6H.out hb7)
                  clear hb7
                  go_simp
                  (try (refine hK _ _ ?_))
                  clear hK K
                  refine takeD (i := 23) 72 (.bool true) rfl rfl (by kernel_rfl) (by kernel_rfl) (by kernel_rfl) (fun _ _ _ h => h) (by kernel_rfl) (fun w => by go_simp) ?_
                  simp only [Act.put, List.setIfInBounds_toArray, List.set_cons_zero, List.set_cons_succ]
                  refine takeD (i := 24) 73 (.bool true) rfl rfl (by kernel_rfl) (by kernel_rfl) (by kernel_rfl) (fun _ _ _ h => h) (by kernel_rfl) (fun w => by first | kernel_rfl | (go_simp; done)) ?_
                  simp only [Act.put, List.setIfInBounds_toArray, List.set_cons_zero, List.set_cons_succ]
                  refine wpAny_done (by kernel_rfl) ?_ _
                  (go_wp2_with fail; go_ret2; (first | rw [hfH.out] | rw [show findR s (Int.toNat 2) text.data.toList = _ from hfH.out]); exact ⟨_, rfl, OwnL.nil _ _ _ _ _, hb7H.out⟩)
        · go_wp2_with fail
          refine (styles_any _).mono ?_
          rintro e w4 ⟨rfl, hb4⟩
          have hix := style_at2
          obtain ⟨bs, hbs⟩ : ∃ bs, w4.heap.size = bs := ⟨_, rfl⟩
          obtain ⟨W0, hW0⟩ : ∃ W0, w4.alloc (.cells #[.func (.func 50) #[] #[], .func (.func 51) #[] #[]] 54) = W0 := ⟨_, rfl⟩
          have hbW : Below wr.heap.size wr W0 := by rw [← hW0]; exact bcall hb4 (below1 w4 _)
          have hrbr : rb < wr.heap.size := (Array.getElem?_eq_some_iff.1 hRH.out).1
          have hBW0 : Below w.heap.size w W0 := bcall hBrH.out hbW
          have hmbr := hVH.out.lt
          have hR0 : RdW W0 rb mb a1 c1 s W0 Lf [] := ⟨⟨aL, cL, .slice none 0 0, (hbW.block rb hrbr).trans hRH.out, ((hslH.out.same (.of_grown hGH.out (fun b hb e => by injection e with e; have := hb.1; omega))).below hbW).weak (fun b hb => ⟨by have := hb.2; have := hbW.size; omega, by have := hb.2; omega⟩), OwnL.nil _ _ _ _ _⟩, gby_refl' _ _, hTs, by have := hbW.size; omega⟩
          have hE0 : RdEnv W0 rb mb a1 c1 s := ⟨hxH.out, fun W hg => by
            have hbb : Below w.heap.size w W := hBW0.grown hg hBW0.size (fun i e => by injection e with e; omega)
            exact ⟨(h1H.out.below hbb).weak (fun _ _ => trivial), ⟨s.length, (hVH.out.below hbW hmbr).same (hg.block mb (by have := hbW.size; omega) (fun e => by injection e with e; omega))⟩, hLH.out.later hbb⟩⟩
          have hbs4 : wr.heap.size ≤ bs := by rw [← hbs]; exact hb4.size
          have s0 : W0.cell? ⟨bs, 0, none⟩ = some (.func (.func 50) #[] #[]) := by rw [← hW0, ← hbs]; clear hW0; go_simp
          have s1 : W0.cell? ⟨bs, 1, none⟩ = some (.func (.func 51) #[] #[]) := by rw [← hW0, ← hbs]; clear hW0; go_simp
          have hR0d : RdW W0 rb mb a1 c1 s W0.drew Lf [] := hR0.later (Below.drew (.refl _ _))
          have hrd := Lib.hid (brackets_rd hE0 62 W0.drew Lf [] hR0d (by decide) (by decide))
          have hft := Lib.hid (find_tok (s := s) (k := 3) (by decide) hTt)
          have hBd : Below w.heap.size w W0.drew := Below.drew hBW0
          have hcw := Lib.hid (fun (T : List Int) (hT : okT s T = true) (W : World) (hb : Below w.heap.size w W) (S2 : Nat → Prop) (a2 : Option Addr) (c2 : Nat) (hI : Ints S2 W a2 c2 T) => twritten_any (k := 3) (F := 50) (R := 51) a1 a2 c1 c2 s T W (h1H.out.below hb) hI hT (enters_of Tryd.func50 (by kernel_rfl) rfl)
            (fun S1 S2 b1 b2 d1 d2 n A W hn h1 h2 => brackets_any b1 b2 d1 d2 s n hn A W hxH.out h1 h2))
          have hcv := Lib.hid (fun (T : List Int) (W : World) (hb : Below w.heap.size w W) (S2 : Nat → Prop) (a2 : Option Addr) (c2 : Nat) (hI : Ints S2 W a2 c2 T) => Valid_any a1 a2 c1 c2 s T W (h1H.out.below hb) hI)
          have hgB := Lib.hid (fun (W : World) (hg : W0.grownBy W (some rb)) => (hBW0.grown hg hBW0.size (fun i e => by injection e with e; omega) : Below w.heap.size w W))
          have hwz : w.heap.size ≤ W0.heap.size := hBW0.size
          have hW0H := Lib.hid hW0
          have s0H := Lib.hid s0
          have s1d := cell_later (Below.drew (.refl W0.heap.size W0)) s1
          clear hR0 hR0d hE0 hbW hBW0 hBd hb4 hW0 s0 s1 hRH hBrH hGH hVH hslH hTt hTs
          go_upto_region 14 with fail
          rw [hW0H.out]
          obtain ⟨M, hM⟩ : ∃ M, rdM 3 s 62 (btk Lf, []) = M := ⟨_, rfl⟩
          rw [show brkM s 62 (btk Lf, []) = rdM 3 s 62 (btk Lf, []) from rfl, hM] at hrd
          rw [hM] at hft
          clear hM hW0H
          cases M with
          | none =>
            have hf := hft.out.1 rfl
            have hrd2 : Hid (Calls Tryd.prog 51 #[.pointer (some ⟨rb, 0, none⟩)] W0.drew fun e w' => e = .returned (.bool false) ∧ W0.grownBy w' (some rb)) := Lib.hid (hrd.out.mono fun e w' h => by
              rcases h with ⟨_, _, h, _⟩ | ⟨_, h1, _, _, h2⟩
              · cases h
              · exact ⟨h1, h2.gb⟩)
            have hr := Lib.hid (fun (W : World) (hg : W0.grownBy W (some rb)) => (⟨.slice none 0 0, rfl, OwnL.nil _ _ _ _ _, hgB.out W hg⟩ : ∃ v, Ending.returned (.tuple #[.slice none 0 0, .int .i64 2]) = .returned (.tuple #[v, .int .i64 (([], 2) : List Int × Int).2]) ∧ OwnI W w.heap.size v (([], 2) : List Int × Int).1 ∧ Below w.heap.size w W))
            have hfH := Lib.hid hf
            clear hf hft hrd
            refine wp_region_any (by kernel_rfl) ?_
            (try (change wpAny _ _ _ _ _ _ _ (World.drew _)))
            refine takeD (i := 0) 49 (.pointer (some ⟨bs, 1, none⟩)) rfl rfl (by kernel_rfl) (by kernel_rfl) (by kernel_rfl) (fun _ _ _ h => h) (by kernel_rfl) (fun w => by first | kernel_rfl | (go_simp; done)) ?_
            simp only [Act.put, List.setIfInBounds_toArray, List.set_cons_zero, List.set_cons_succ]
            refine takeD (i := 2) 51 (.pointer (some ⟨rb, 0, none⟩)) rfl rfl (by kernel_rfl) (by kernel_rfl) (by kernel_rfl) (fun _ _ _ h => h) (by kernel_rfl) (fun w => by first | kernel_rfl | (go_simp; done)) ?_
            simp only [Act.put, List.setIfInBounds_toArray, List.set_cons_zero, List.set_cons_succ]
            refine wpAny_ready (rs := [1]) (by kernel_rfl) (by simp) (AllReady.cons rfl (fun K hK => ?_) AllReady.nil)
            go_simp
            refine hK _ _ ?_
            clear hK K
            refine wpAny_ready (rs := [3]) (by kernel_rfl) (by simp) (AllReady.cons rfl (fun K hK => ?_) AllReady.nil)
            go_simp
            (with_reducible refine hrd2.out.mono ?_)
            rintro e w5 ⟨rfl, hg5⟩
            go_simp
            (try (refine hK _ _ ?_))
            clear hK K
            refine takeD (i := 4) 53 (.bool true) rfl rfl (by kernel_rfl) (by kernel_rfl) (by kernel_rfl) (fun _ _ _ h => h) (by kernel_rfl) (fun w => by first | kernel_rfl | (go_simp; done)) ?_
            simp only [Act.put, List.setIfInBounds_toArray, List.set_cons_zero, List.set_cons_succ]
            refine takeD (i := 5) 54 (.bool true) rfl rfl (by kernel_rfl) (by kernel_rfl) (by kernel_rfl) (fun _ _ _ h => h) (by kernel_rfl) (fun w => by first | kernel_rfl | (go_simp; done)) ?_
            simp only [Act.put, List.setIfInBounds_toArray, List.set_cons_zero, List.set_cons_succ]
            refine skipD (i := 6) 55 rfl rfl (by kernel_rfl) (by kernel_rfl) (by kernel_rfl) (fun _ _ _ h => h) (by kernel_rfl) ?_
            simp only [Act.put, List.setIfInBounds_toArray, List.set_cons_zero, List.set_cons_succ]
            refine skipD (i := 7) 56 rfl rfl (by kernel_rfl) (by kernel_rfl) (by kernel_rfl) (fun _ _ _ h => h) (by kernel_rfl) ?_
            simp only [Act.put, List.setIfInBounds_toArray, List.set_cons_zero, List.set_cons_succ]
            refine skipD (i := 8) 57 rfl rfl (by kernel_rfl) (by kernel_rfl) (by kernel_rfl) (fun _ _ _ h => h) (by kernel_rfl) ?_
            simp only [Act.put, List.setIfInBounds_toArray, List.set_cons_zero, List.set_cons_succ]
            refine skipD (i := 9) 58 rfl rfl (by kernel_rfl) (by kernel_rfl) (by kernel_rfl) (fun _ _ _ h => h) (by kernel_rfl) ?_
            simp only [Act.put, List.setIfInBounds_toArray, List.set_cons_zero, List.set_cons_succ]
            refine skipD (i := 10) 59 rfl rfl (by kernel_rfl) (by kernel_rfl) (by kernel_rfl) (fun _ _ _ h => h) (by kernel_rfl) ?_
            simp only [Act.put, List.setIfInBounds_toArray, List.set_cons_zero, List.set_cons_succ]
            refine skipD (i := 11) 60 rfl rfl (by kernel_rfl) (by kernel_rfl) (by kernel_rfl) (fun _ _ _ h => h) (by kernel_rfl) ?_
            simp only [Act.put, List.setIfInBounds_toArray, List.set_cons_zero, List.set_cons_succ]
            refine skipD (i := 12) 61 rfl rfl (by kernel_rfl) (by kernel_rfl) (by kernel_rfl) (fun _ _ _ h => h) (by kernel_rfl) ?_
            simp only [Act.put, List.setIfInBounds_toArray, List.set_cons_zero, List.set_cons_succ]
            refine takeD (i := 13) 62 (.bool true) rfl rfl (by kernel_rfl) (by kernel_rfl) (by kernel_rfl) (fun _ _ _ h => h) (by kernel_rfl) (fun w => by first | kernel_rfl | (go_simp; done)) ?_
            simp only [Act.put, List.setIfInBounds_toArray, List.set_cons_zero, List.set_cons_succ]
            refine takeD (i := 14) 63 (.bool true) rfl rfl (by kernel_rfl) (by kernel_rfl) (by kernel_rfl) (fun _ _ _ h => h) (by kernel_rfl) (fun w => by first | kernel_rfl | (go_simp; done)) ?_
            simp only [Act.put, List.setIfInBounds_toArray, List.set_cons_zero, List.set_cons_succ]
            refine skipD (i := 15) 64 rfl rfl (by kernel_rfl) (by kernel_rfl) (by kernel_rfl) (fun _ _ _ h => h) (by kernel_rfl) ?_
            simp only [Act.put, List.setIfInBounds_toArray, List.set_cons_zero, List.set_cons_succ]
            refine skipD (i := 16) 65 rfl rfl (by kernel_rfl) (by kernel_rfl) (by kernel_rfl) (fun _ _ _ h => h) (by kernel_rfl) ?_
            simp only [Act.put, List.setIfInBounds_toArray, List.set_cons_zero, List.set_cons_succ]
            refine skipD (i := 17) 66 rfl rfl (by kernel_rfl) (by kernel_rfl) (by kernel_rfl) (fun _ _ _ h => h) (by kernel_rfl) ?_
            simp only [Act.put, List.setIfInBounds_toArray, List.set_cons_zero, List.set_cons_succ]
            refine skipD (i := 18) 67 rfl rfl (by kernel_rfl) (by kernel_rfl) (by kernel_rfl) (fun _ _ _ h => h) (by kernel_rfl) ?_
            simp only [Act.put, List.setIfInBounds_toArray, List.set_cons_zero, List.set_cons_succ]
            refine skipD (i := 19) 68 rfl rfl (by kernel_rfl) (by kernel_rfl) (by kernel_rfl) (fun _ _ _ h => h) (by kernel_rfl) ?_
            simp only [Act.put, List.setIfInBounds_toArray, List.set_cons_zero, List.set_cons_succ]
            refine skipD (i := 20) 69 rfl rfl (by kernel_rfl) (by kernel_rfl) (by kernel_rfl) (fun _ _ _ h => h) (by kernel_rfl) ?_
            simp only [Act.put, List.setIfInBounds_toArray, List.set_cons_zero, List.set_cons_succ]
            refine skipD (i := 21) 70 rfl rfl (by kernel_rfl) (by kernel_rfl) (by kernel_rfl) (fun _ _ _ h => h) (by kernel_rfl) ?_
            simp only [Act.put, List.setIfInBounds_toArray, List.set_cons_zero, List.set_cons_succ]
            refine skipD (i := 22) 71 rfl rfl (by kernel_rfl) (by kernel_rfl) (by kernel_rfl) (fun _ _ _ h => h) (by kernel_rfl) ?_
            simp only [Act.put, List.setIfInBounds_toArray, List.set_cons_zero, List.set_cons_succ]
            refine skipD (i := 23) 72 rfl rfl (by kernel_rfl) (by kernel_rfl) (by kernel_rfl) (fun _ _ _ h => h) (by kernel_rfl) ?_
            simp only [Act.put, List.setIfInBounds_toArray, List.set_cons_zero, List.set_cons_succ]
            refine takeD (i := 24) 73 (.bool true) rfl rfl (by kernel_rfl) (by kernel_rfl) (by kernel_rfl) (fun _ _ _ h => h) (by kernel_rfl) (fun w => by first | kernel_rfl | (go_simp; done)) ?_
            simp only [Act.put, List.setIfInBounds_toArray, List.set_cons_zero, List.set_cons_succ]
            refine wpAny_done (by kernel_rfl) ?_ _
            all_goals (go_wp2_with fail; go_ret2; (first | rw [hfH.out] | rw [show findR s (Int.toNat 3) text.data.toList = _ from hfH.out]); exact hr.out _ hg5)
          | some M =>
            obtain ⟨LT, T⟩ := M
            have hft2 := hft.out.2 LT T rfl
            have hrd2 : Hid (Calls Tryd.prog 51 #[.pointer (some ⟨rb, 0, none⟩)] W0.drew fun e w' => e = .returned (.bool true) ∧ ∃ aT cT, w'.cell? ⟨rb, 3, none⟩ = some (.slice aT T.length cT) ∧ Hid (Ints (fun b => W0.heap.size ≤ b) w' aT cT T ∧ OwnI w' W0.heap.size (.slice aT T.length cT) T ∧ Below w.heap.size w w') ∧ w'.cell? ⟨bs, 0, none⟩ = some (.func (.func 50) #[] #[]) ∧ w'.cell? ⟨bs, 1, none⟩ = some (.func (.func 51) #[] #[])) := Lib.hid (hrd.out.mono fun e w' h => by
              rcases h with ⟨L', T', h, he, hw, _⟩ | ⟨h, _⟩
              · obtain ⟨-, rfl⟩ := Prod.mk.inj (Option.some.inj h)
                obtain ⟨aT, cT, f1, f2, f3⟩ := hw.facts
                have hne : bs ≠ rb := by omega
                exact ⟨he, aT, cT, f1, Lib.hid ⟨f2, f3, hgB.out _ hw.gb⟩, gby_cell hw.gb s0H.out hne, gby_cell hw.gb ((show W0.cell? ⟨bs, 1, none⟩ = W0.drew.cell? ⟨bs, 1, none⟩ from rfl).trans s1d) hne⟩
              · cases h)
            clear hft hrd hgB
            cases hv : okT s T with
            | false =>
              have hf := hft2.2 hv
              have hcv2 := Lib.hid (hcv.out T)
              rw [hv] at hcv2
              have hfH := Lib.hid hf
              clear hf hft2 hv hcv hcw
              refine wp_region_any (by kernel_rfl) ?_
              (try (change wpAny _ _ _ _ _ _ _ (World.drew _)))
              refine takeD (i := 0) 49 (.pointer (some ⟨bs, 1, none⟩)) rfl rfl (by kernel_rfl) (by kernel_rfl) (by kernel_rfl) (fun _ _ _ h => h) (by kernel_rfl) (fun w => by first | kernel_rfl | (go_simp; done)) ?_
              simp only [Act.put, List.setIfInBounds_toArray, List.set_cons_zero, List.set_cons_succ]
              refine takeD (i := 2) 51 (.pointer (some ⟨rb, 0, none⟩)) rfl rfl (by kernel_rfl) (by kernel_rfl) (by kernel_rfl) (fun _ _ _ h => h) (by kernel_rfl) (fun w => by first | kernel_rfl | (go_simp; done)) ?_
              simp only [Act.put, List.setIfInBounds_toArray, List.set_cons_zero, List.set_cons_succ]
              refine wpAny_ready (rs := [1]) (by kernel_rfl) (by simp) (AllReady.cons rfl (fun K hK => ?_) AllReady.nil)
              go_simp
              refine hK _ _ ?_
              clear hK K
              refine wpAny_ready (rs := [3]) (by kernel_rfl) (by simp) (AllReady.cons rfl (fun K hK => ?_) AllReady.nil)
              go_simp
              (with_reducible refine hrd2.out.mono ?_)
              rintro e w5 ⟨rfl, aT, cT, q3, hI5, t0, t1⟩
              go_simp
              (try (refine hK _ _ ?_))
              clear hK K
              refine takeD (i := 4) 53 (.bool false) rfl rfl (by kernel_rfl) (by kernel_rfl) (by kernel_rfl) (fun _ _ _ h => h) (by kernel_rfl) (fun w => by first | kernel_rfl | (go_simp; done)) ?_
              simp only [Act.put, List.setIfInBounds_toArray, List.set_cons_zero, List.set_cons_succ]
              refine takeD (i := 5) 54 (.bool false) rfl rfl (by kernel_rfl) (by kernel_rfl) (by kernel_rfl) (fun _ _ _ h => h) (by kernel_rfl) (fun w => by first | kernel_rfl | (go_simp; done)) ?_
              simp only [Act.put, List.setIfInBounds_toArray, List.set_cons_zero, List.set_cons_succ]
              refine takeD (i := 6) 55 (.slice a1 s.length c1) rfl rfl (by kernel_rfl) (by kernel_rfl) (by kernel_rfl) (fun _ _ _ h => h) (by kernel_rfl) (fun w => by first | kernel_rfl | (go_simp; done)) ?_
              simp only [Act.put, List.setIfInBounds_toArray, List.set_cons_zero, List.set_cons_succ]
              refine takeD (i := 7) 56 (.pointer (some ⟨rb, 0, none⟩)) rfl rfl (by kernel_rfl) (by kernel_rfl) (by kernel_rfl) (fun _ _ _ h => h) (by kernel_rfl) (fun w => by first | kernel_rfl | (go_simp; done)) ?_
              simp only [Act.put, List.setIfInBounds_toArray, List.set_cons_zero, List.set_cons_succ]
              refine takeD (i := 8) 57 (.pointer (some ⟨rb, 0, none⟩)) rfl rfl (by kernel_rfl) (by kernel_rfl) (by kernel_rfl) (fun _ _ _ h => h) (by kernel_rfl) (fun w => by first | kernel_rfl | (go_simp; done)) ?_
              simp only [Act.put, List.setIfInBounds_toArray, List.set_cons_zero, List.set_cons_succ]
              refine takeD (i := 9) 58 (.pointer (some ⟨rb, 3, none⟩)) rfl rfl (by kernel_rfl) (by kernel_rfl) (by kernel_rfl) (fun _ _ _ h => h) (by kernel_rfl) (fun w => by first | kernel_rfl | (go_simp; done)) ?_
              simp only [Act.put, List.setIfInBounds_toArray, List.set_cons_zero, List.set_cons_succ]
              refine wpAny_ready (rs := [10]) (by kernel_rfl) (by simp) (AllReady.cons rfl (fun K hK => ?_) AllReady.nil)
              go_simp
              refine hK _ _ ?_
              clear hK K
              refine wpAny_ready (rs := [11]) (by kernel_rfl) (by simp) (AllReady.cons rfl (fun K hK => ?_) AllReady.nil)
              go_simp
              (with_reducible refine (hcv2.out _ hI5.out.2.2 _ _ _ hI5.out.1).mono ?_)
              rintro e w6 ⟨rfl, hb6⟩
              go_simp
              (try (refine hK _ _ ?_))
              clear hK K
              refine takeD (i := 12) 61 (.bool true) rfl rfl (by kernel_rfl) (by kernel_rfl) (by kernel_rfl) (fun _ _ _ h => h) (by kernel_rfl) (fun w => by first | kernel_rfl | (go_simp; done)) ?_
              simp only [Act.put, List.setIfInBounds_toArray, List.set_cons_zero, List.set_cons_succ]
              refine takeD (i := 13) 62 (.bool true) rfl rfl (by kernel_rfl) (by kernel_rfl) (by kernel_rfl) (fun _ _ _ h => h) (by kernel_rfl) (fun w => by first | kernel_rfl | (go_simp; done)) ?_
              simp only [Act.put, List.setIfInBounds_toArray, List.set_cons_zero, List.set_cons_succ]
              refine takeD (i := 14) 63 (.bool true) rfl rfl (by kernel_rfl) (by kernel_rfl) (by kernel_rfl) (fun _ _ _ h => h) (by kernel_rfl) (fun w => by first | kernel_rfl | (go_simp; done)) ?_
              simp only [Act.put, List.setIfInBounds_toArray, List.set_cons_zero, List.set_cons_succ]
              refine skipD (i := 15) 64 rfl rfl (by kernel_rfl) (by kernel_rfl) (by kernel_rfl) (fun _ _ _ h => h) (by kernel_rfl) ?_
              simp only [Act.put, List.setIfInBounds_toArray, List.set_cons_zero, List.set_cons_succ]
              refine skipD (i := 16) 65 rfl rfl (by kernel_rfl) (by kernel_rfl) (by kernel_rfl) (fun _ _ _ h => h) (by kernel_rfl) ?_
              simp only [Act.put, List.setIfInBounds_toArray, List.set_cons_zero, List.set_cons_succ]
              refine skipD (i := 17) 66 rfl rfl (by kernel_rfl) (by kernel_rfl) (by kernel_rfl) (fun _ _ _ h => h) (by kernel_rfl) ?_
              simp only [Act.put, List.setIfInBounds_toArray, List.set_cons_zero, List.set_cons_succ]
              refine skipD (i := 18) 67 rfl rfl (by kernel_rfl) (by kernel_rfl) (by kernel_rfl) (fun _ _ _ h => h) (by kernel_rfl) ?_
              simp only [Act.put, List.setIfInBounds_toArray, List.set_cons_zero, List.set_cons_succ]
              refine skipD (i := 19) 68 rfl rfl (by kernel_rfl) (by kernel_rfl) (by kernel_rfl) (fun _ _ _ h => h) (by kernel_rfl) ?_
              simp only [Act.put, List.setIfInBounds_toArray, List.set_cons_zero, List.set_cons_succ]
              refine skipD (i := 20) 69 rfl rfl (by kernel_rfl) (by kernel_rfl) (by kernel_rfl) (fun _ _ _ h => h) (by kernel_rfl) ?_
              simp only [Act.put, List.setIfInBounds_toArray, List.set_cons_zero, List.set_cons_succ]
              refine skipD (i := 21) 70 rfl rfl (by kernel_rfl) (by kernel_rfl) (by kernel_rfl) (fun _ _ _ h => h) (by kernel_rfl) ?_
              simp only [Act.put, List.setIfInBounds_toArray, List.set_cons_zero, List.set_cons_succ]
              refine skipD (i := 22) 71 rfl rfl (by kernel_rfl) (by kernel_rfl) (by kernel_rfl) (fun _ _ _ h => h) (by kernel_rfl) ?_
              simp only [Act.put, List.setIfInBounds_toArray, List.set_cons_zero, List.set_cons_succ]
              refine skipD (i := 23) 72 rfl rfl (by kernel_rfl) (by kernel_rfl) (by kernel_rfl) (fun _ _ _ h => h) (by kernel_rfl) ?_
              simp only [Act.put, List.setIfInBounds_toArray, List.set_cons_zero, List.set_cons_succ]
              refine takeD (i := 24) 73 (.bool true) rfl rfl (by kernel_rfl) (by kernel_rfl) (by kernel_rfl) (fun _ _ _ h => h) (by kernel_rfl) (fun w => by first | kernel_rfl | (go_simp; done)) ?_
              simp only [Act.put, List.setIfInBounds_toArray, List.set_cons_zero, List.set_cons_succ]
              refine wpAny_done (by kernel_rfl) ?_ _
              all_goals (go_wp2_with fail; go_ret2; (first | rw [hfH.out] | rw [show findR s (Int.toNat 3) text.data.toList = _ from hfH.out]); exact ⟨_, rfl, OwnL.nil _ _ _ _ _, bcall hI5.out.2.2 hb6⟩)
            | true =>
              have hcv2 := Lib.hid (hcv.out T)
              rw [hv] at hcv2
              have hcw2 := Lib.hid (hcw.out T hv)
              by_cases hte : txt 3 s T = text.data.toList
              · have hf := find_ok hv hte
                have hte2 : toB (txt 3 s T) = text := by rw [hte]; exact ba_ext2 (by simp [toB])
                rw [hte2] at hcw2
                have hfH := Lib.hid hf
                clear hf hft2 hv hcv hcw hte hte2
                refine wp_region_any (by kernel_rfl) ?_
                (try (change wpAny _ _ _ _ _ _ _ (World.drew _)))
                refine takeD (i := 0) 49 (.pointer (some ⟨bs, 1, none⟩)) rfl rfl (by kernel_rfl) (by kernel_rfl) (by kernel_rfl) (fun _ _ _ h => h) (by kernel_rfl) (fun w => by first | kernel_rfl | (go_simp; done)) ?_
                simp only [Act.put, List.setIfInBounds_toArray, List.set_cons_zero, List.set_cons_succ]
                refine takeD (i := 2) 51 (.pointer (some ⟨rb, 0, none⟩)) rfl rfl (by kernel_rfl) (by kernel_rfl) (by kernel_rfl) (fun _ _ _ h => h) (by kernel_rfl) (fun w => by first | kernel_rfl | (go_simp; done)) ?_
                simp only [Act.put, List.setIfInBounds_toArray, List.set_cons_zero, List.set_cons_succ]
                refine wpAny_ready (rs := [1]) (by kernel_rfl) (by simp) (AllReady.cons rfl (fun K hK => ?_) AllReady.nil)
                go_simp
                refine hK _ _ ?_
                clear hK K
                refine wpAny_ready (rs := [3]) (by kernel_rfl) (by simp) (AllReady.cons rfl (fun K hK => ?_) AllReady.nil)
                go_simp
                (with_reducible refine hrd2.out.mono ?_)
                rintro e w5 ⟨rfl, aT, cT, q3, hI5, t0, t1⟩
                go_simp
                (try (refine hK _ _ ?_))
                clear hK K
                refine takeD (i := 4) 53 (.bool false) rfl rfl (by kernel_rfl) (by kernel_rfl) (by kernel_rfl) (fun _ _ _ h => h) (by kernel_rfl) (fun w => by first | kernel_rfl | (go_simp; done)) ?_
                simp only [Act.put, List.setIfInBounds_toArray, List.set_cons_zero, List.set_cons_succ]
                refine takeD (i := 5) 54 (.bool false) rfl rfl (by kernel_rfl) (by kernel_rfl) (by kernel_rfl) (fun _ _ _ h => h) (by kernel_rfl) (fun w => by first | kernel_rfl | (go_simp; done)) ?_
                simp only [Act.put, List.setIfInBounds_toArray, List.set_cons_zero, List.set_cons_succ]
                refine takeD (i := 6) 55 (.slice a1 s.length c1) rfl rfl (by kernel_rfl) (by kernel_rfl) (by kernel_rfl) (fun _ _ _ h => h) (by kernel_rfl) (fun w => by first | kernel_rfl | (go_simp; done)) ?_
                simp only [Act.put, List.setIfInBounds_toArray, List.set_cons_zero, List.set_cons_succ]
                refine takeD (i := 7) 56 (.pointer (some ⟨rb, 0, none⟩)) rfl rfl (by kernel_rfl) (by kernel_rfl) (by kernel_rfl) (fun _ _ _ h => h) (by kernel_rfl) (fun w => by first | kernel_rfl | (go_simp; done)) ?_
                simp only [Act.put, List.setIfInBounds_toArray, List.set_cons_zero, List.set_cons_succ]
                refine takeD (i := 8) 57 (.pointer (some ⟨rb, 0, none⟩)) rfl rfl (by kernel_rfl) (by kernel_rfl) (by kernel_rfl) (fun _ _ _ h => h) (by kernel_rfl) (fun w => by first | kernel_rfl | (go_simp; done)) ?_
                simp only [Act.put, List.setIfInBounds_toArray, List.set_cons_zero, List.set_cons_succ]
                refine takeD (i := 9) 58 (.pointer (some ⟨rb, 3, none⟩)) rfl rfl (by kernel_rfl) (by kernel_rfl) (by kernel_rfl) (fun _ _ _ h => h) (by kernel_rfl) (fun w => by first | kernel_rfl | (go_simp; done)) ?_
                simp only [Act.put, List.setIfInBounds_toArray, List.set_cons_zero, List.set_cons_succ]
                refine wpAny_ready (rs := [10]) (by kernel_rfl) (by simp) (AllReady.cons rfl (fun K hK => ?_) AllReady.nil)
                go_simp
                refine hK _ _ ?_
                clear hK K
                refine wpAny_ready (rs := [11]) (by kernel_rfl) (by simp) (AllReady.cons rfl (fun K hK => ?_) AllReady.nil)
                go_simp
                (with_reducible refine (hcv2.out _ hI5.out.2.2 _ _ _ hI5.out.1).mono ?_)
                rintro e w6 ⟨rfl, hb6⟩
                have q36 := cell_later hb6 q3
                have t06 := cell_later hb6 t0
                have t16 := cell_later hb6 t1
                have hI6 := Lib.hid (show Ints _ w6 aT cT T from hI5.out.1.below hb6)
                have hO6 := Lib.hid (OwnL.call hI5.out.2.1 hb6)
                have hb6H := Lib.hid (bcall hI5.out.2.2 hb6)
                clear hb6
                go_simp
                (try (refine hK _ _ ?_))
                clear hK K
                refine takeD (i := 12) 61 (.bool false) rfl rfl (by kernel_rfl) (by kernel_rfl) (by kernel_rfl) (fun _ _ _ h => h) (by kernel_rfl) (fun w => by first | kernel_rfl | (go_simp; done)) ?_
                simp only [Act.put, List.setIfInBounds_toArray, List.set_cons_zero, List.set_cons_succ]
                refine takeD (i := 13) 62 (.bool false) rfl rfl (by kernel_rfl) (by kernel_rfl) (by kernel_rfl) (fun _ _ _ h => h) (by kernel_rfl) (fun w => by first | kernel_rfl | (go_simp; done)) ?_
                simp only [Act.put, List.setIfInBounds_toArray, List.set_cons_zero, List.set_cons_succ]
                refine takeD (i := 14) 63 (.bool false) rfl rfl (by kernel_rfl) (by kernel_rfl) (by kernel_rfl) (fun _ _ _ h => h) (by kernel_rfl) (fun w => by first | kernel_rfl | (go_simp; done)) ?_
                simp only [Act.put, List.setIfInBounds_toArray, List.set_cons_zero, List.set_cons_succ]
                refine takeD (i := 15) 64 (.slice a1 s.length c1) rfl rfl (by kernel_rfl) (by kernel_rfl) (by kernel_rfl) (fun _ _ _ h => h) (by kernel_rfl) (fun w => by first | kernel_rfl | (go_simp; done)) ?_
                simp only [Act.put, List.setIfInBounds_toArray, List.set_cons_zero, List.set_cons_succ]
                refine takeD (i := 17) 66 (.pointer (some ⟨rb, 0, none⟩)) rfl rfl (by kernel_rfl) (by kernel_rfl) (by kernel_rfl) (fun _ _ _ h => h) (by kernel_rfl) (fun w => by first | kernel_rfl | (go_simp; done)) ?_
                simp only [Act.put, List.setIfInBounds_toArray, List.set_cons_zero, List.set_cons_succ]
                refine takeD (i := 18) 67 (.pointer (some ⟨rb, 0, none⟩)) rfl rfl (by kernel_rfl) (by kernel_rfl) (by kernel_rfl) (fun _ _ _ h => h) (by kernel_rfl) (fun w => by first | kernel_rfl | (go_simp; done)) ?_
                simp only [Act.put, List.setIfInBounds_toArray, List.set_cons_zero, List.set_cons_succ]
                refine takeD (i := 19) 68 (.pointer (some ⟨rb, 3, none⟩)) rfl rfl (by kernel_rfl) (by kernel_rfl) (by kernel_rfl) (fun _ _ _ h => h) (by kernel_rfl) (fun w => by first | kernel_rfl | (go_simp; done)) ?_
                simp only [Act.put, List.setIfInBounds_toArray, List.set_cons_zero, List.set_cons_succ]
                refine takeD (i := 22) 71 (.string text) rfl rfl (by kernel_rfl) (by kernel_rfl) (by kernel_rfl) (fun _ _ _ h => h) (by kernel_rfl) (fun w => by first | kernel_rfl | (go_simp; done)) ?_
                simp only [Act.put, List.setIfInBounds_toArray, List.set_cons_zero, List.set_cons_succ]
                refine wpAny_ready (rs := [16, 20]) (by kernel_rfl) (by simp) (AllReady.cons rfl (fun K hK => ?_) (AllReady.cons rfl (fun K hK => ?_) AllReady.nil))
                · go_simp
                  refine hK _ _ ?_
                  clear hK K
                  refine wpAny_ready (rs := [20]) (by kernel_rfl) (by simp) (AllReady.cons rfl (fun K hK => ?_) AllReady.nil)
                  go_simp
                  refine hK _ _ ?_
                  clear hK K
                  refine wpAny_ready (rs := [21]) (by kernel_rfl) (by simp) (AllReady.cons rfl (fun K hK => ?_) AllReady.nil)
                  go_simp
                  (with_reducible refine (hcw2.out _ hb6H.out _ _ _ hI6.out).mono ?_)
                  rintro e w7 ⟨rfl, hb7⟩
                  have q37 := cell_later hb7 q36
                  have hO7 := Lib.hid (OwnL.call hO6.out hb7)
                  have hb7H := Lib.hid (bcall hb6H.out hb7)
                  clear hb7
                  go_simp
                  (try (refine hK _ _ ?_))
                  clear hK K
                  refine takeD (i := 23) 72 (.bool false) rfl rfl (by kernel_rfl) (by kernel_rfl) (by kernel_rfl) (fun _ _ _ h => h) (by kernel_rfl) (fun w => by go_simp) ?_
                  simp only [Act.put, List.setIfInBounds_toArray, List.set_cons_zero, List.set_cons_succ]
                  refine takeD (i := 24) 73 (.bool false) rfl rfl (by kernel_rfl) (by kernel_rfl) (by kernel_rfl) (fun _ _ _ h => h) (by kernel_rfl) (fun w => by first | kernel_rfl | (go_simp; done)) ?_
                  simp only [Act.put, List.setIfInBounds_toArray, List.set_cons_zero, List.set_cons_succ]
                  refine wpAny_done (by kernel_rfl) ?_ _
                  (go_wp2_with fail; go_ret2; (first | rw [hfH.out] | rw [show findR s (Int.toNat 3) text.data.toList = _ from hfH.out]); exact ⟨_, rfl, hO7.out.baseMono hwz, hb7H.out⟩)
                · go_simp
                  refine hK _ _ ?_
                  clear hK K
                  refine wpAny_ready (rs := [16]) (by kernel_rfl) (by simp) (AllReady.cons rfl (fun K hK => ?_) AllReady.nil)
                  go_simp
                  refine hK _ _ ?_
                  clear hK K
                  refine wpAny_ready (rs := [21]) (by kernel_rfl) (by simp) (AllReady.cons rfl (fun K hK => ?_) AllReady.nil)
                  go_simp
                  (with_reducible refine (hcw2.out _ hb6H.out _ _ _ hI6.out).mono ?_)
                  rintro e w7 ⟨rfl, hb7⟩
                  have q37 := cell_later hb7 q36
                  have hO7 := Lib.hid (OwnL.call hO6.out hb7)
                  have hb7H := Lib.hid (bcall hb6H.out hb7)
                  clear hb7
                  go_simp
                  (try (refine hK _ _ ?_))
                  clear hK K
                  refine takeD (i := 23) 72 (.bool false) rfl rfl (by kernel_rfl) (by kernel_rfl) (by kernel_rfl) (fun _ _ _ h => h) (by kernel_rfl) (fun w => by go_simp) ?_
                  simp only [Act.put, List.setIfInBounds_toArray, List.set_cons_zero, List.set_cons_succ]
                  refine takeD (i := 24) 73 (.bool false) rfl rfl (by kernel_rfl) (by kernel_rfl) (by kernel_rfl) (fun _ _ _ h => h) (by kernel_rfl) (fun w => by first | kernel_rfl | (go_simp; done)) ?_
                  simp only [Act.put, List.setIfInBounds_toArray, List.set_cons_zero, List.set_cons_succ]
                  refine wpAny_done (by kernel_rfl) ?_ _
                  (go_wp2_with fail; go_ret2; (first | rw [hfH.out] | rw [show findR s (Int.toNat 3) text.data.toList = _ from hfH.out]); exact ⟨_, rfl, hO7.out.baseMono hwz, hb7H.out⟩)
              · have hf := hft2.1 hv hte
                obtain ⟨y, hy⟩ : ∃ y, toB (txt 3 s T) = y := ⟨_, rfl⟩
                have hyt : ¬ y = text := fun e => hte (by rw [← e, ← hy]; simp [toB])
                have hyl : (y.toList == text.toList) = false := by rw [ba_tl, ba_tl, beq_eq_false_iff_ne]; exact fun e => hyt (ba_ext2 e)
                rw [hy] at hcw2
                have hfH := Lib.hid hf
                clear hf hft2 hv hcv hcw hte hy
                refine wp_region_any (by kernel_rfl) ?_
                (try (change wpAny _ _ _ _ _ _ _ (World.drew _)))
                refine takeD (i := 0) 49 (.pointer (some ⟨bs, 1, none⟩)) rfl rfl (by kernel_rfl) (by kernel_rfl) (by kernel_rfl) (fun _ _ _ h => h) (by kernel_rfl) (fun w => by first | kernel_rfl | (go_simp; done)) ?_
                simp only [Act.put, List.setIfInBounds_toArray, List.set_cons_zero, List.set_cons_succ]
                refine takeD (i := 2) 51 (.pointer (some ⟨rb, 0, none⟩)) rfl rfl (by kernel_rfl) (by kernel_rfl) (by kernel_rfl) (fun _ _ _ h => h) (by kernel_rfl) (fun w => by first | kernel_rfl | (go_simp; done)) ?_
                simp only [Act.put, List.setIfInBounds_toArray, List.set_cons_zero, List.set_cons_succ]
                refine wpAny_ready (rs := [1]) (by kernel_rfl) (by simp) (AllReady.cons rfl (fun K hK => ?_) AllReady.nil)
                go_simp
                refine hK _ _ ?_
                clear hK K
                refine wpAny_ready (rs := [3]) (by kernel_rfl) (by simp) (AllReady.cons rfl (fun K hK => ?_) AllReady.nil)
                go_simp
                (with_reducible refine hrd2.out.mono ?_)
                rintro e w5 ⟨rfl, aT, cT, q3, hI5, t0, t1⟩
                go_simp
                (try (refine hK _ _ ?_))
                clear hK K
                refine takeD (i := 4) 53 (.bool false) rfl rfl (by kernel_rfl) (by kernel_rfl) (by kernel_rfl) (fun _ _ _ h => h) (by kernel_rfl) (fun w => by first | kernel_rfl | (go_simp; done)) ?_
                simp only [Act.put, List.setIfInBounds_toArray, List.set_cons_zero, List.set_cons_succ]
                refine takeD (i := 5) 54 (.bool false) rfl rfl (by kernel_rfl) (by kernel_rfl) (by kernel_rfl) (fun _ _ _ h => h) (by kernel_rfl) (fun w => by first | kernel_rfl | (go_simp; done)) ?_
                simp only [Act.put, List.setIfInBounds_toArray, List.set_cons_zero, List.set_cons_succ]
                refine takeD (i := 6) 55 (.slice a1 s.length c1) rfl rfl (by kernel_rfl) (by kernel_rfl) (by kernel_rfl) (fun _ _ _ h => h) (by kernel_rfl) (fun w => by first | kernel_rfl | (go_simp; done)) ?_
                simp only [Act.put, List.setIfInBounds_toArray, List.set_cons_zero, List.set_cons_succ]
                refine takeD (i := 7) 56 (.pointer (some ⟨rb, 0, none⟩)) rfl rfl (by kernel_rfl) (by kernel_rfl) (by kernel_rfl) (fun _ _ _ h => h) (by kernel_rfl) (fun w => by first | kernel_rfl | (go_simp; done)) ?_
                simp only [Act.put, List.setIfInBounds_toArray, List.set_cons_zero, List.set_cons_succ]
                refine takeD (i := 8) 57 (.pointer (some ⟨rb, 0, none⟩)) rfl rfl (by kernel_rfl) (by kernel_rfl) (by kernel_rfl) (fun _ _ _ h => h) (by kernel_rfl) (fun w => by first | kernel_rfl | (go_simp; done)) ?_
                simp only [Act.put, List.setIfInBounds_toArray, List.set_cons_zero, List.set_cons_succ]
                refine takeD (i := 9) 58 (.pointer (some ⟨rb, 3, none⟩)) rfl rfl (by kernel_rfl) (by kernel_rfl) (by kernel_rfl) (fun _ _ _ h => h) (by kernel_rfl) (fun w => by first | kernel_rfl | (go_simp; done)) ?_
                simp only [Act.put, List.setIfInBounds_toArray, List.set_cons_zero, List.set_cons_succ]
                refine wpAny_ready (rs := [10]) (by kernel_rfl) (by simp) (AllReady.cons rfl (fun K hK => ?_) AllReady.nil)
                go_simp
                refine hK _ _ ?_
                clear hK K
                refine wpAny_ready (rs := [11]) (by kernel_rfl) (by simp) (AllReady.cons rfl (fun K hK => ?_) AllReady.nil)
                go_simp
                (with_reducible refine (hcv2.out _ hI5.out.2.2 _ _ _ hI5.out.1).mono ?_)
                rintro e w6 ⟨rfl, hb6⟩
                have q36 := cell_later hb6 q3
                have t06 := cell_later hb6 t0
                have t16 := cell_later hb6 t1
                have hI6 := Lib.hid (show Ints _ w6 aT cT T from hI5.out.1.below hb6)
                have hO6 := Lib.hid (OwnL.call hI5.out.2.1 hb6)
                have hb6H := Lib.hid (bcall hI5.out.2.2 hb6)
                clear hb6
                go_simp
                (try (refine hK _ _ ?_))
                clear hK K
                refine takeD (i := 12) 61 (.bool false) rfl rfl (by kernel_rfl) (by kernel_rfl) (by kernel_rfl) (fun _ _ _ h => h) (by kernel_rfl) (fun w => by first | kernel_rfl | (go_simp; done)) ?_
                simp only [Act.put, List.setIfInBounds_toArray, List.set_cons_zero, List.set_cons_succ]
                refine takeD (i := 13) 62 (.bool false) rfl rfl (by kernel_rfl) (by kernel_rfl) (by kernel_rfl) (fun _ _ _ h => h) (by kernel_rfl) (fun w => by first | kernel_rfl | (go_simp; done)) ?_
                simp only [Act.put, List.setIfInBounds_toArray, List.set_cons_zero, List.set_cons_succ]
                refine takeD (i := 14) 63 (.bool false) rfl rfl (by kernel_rfl) (by kernel_rfl) (by kernel_rfl) (fun _ _ _ h => h) (by kernel_rfl) (fun w => by first | kernel_rfl | (go_simp; done)) ?_
                simp only [Act.put, List.setIfInBounds_toArray, List.set_cons_zero, List.set_cons_succ]
                refine takeD (i := 15) 64 (.slice a1 s.length c1) rfl rfl (by kernel_rfl) (by kernel_rfl) (by kernel_rfl) (fun _ _ _ h => h) (by kernel_rfl) (fun w => by first | kernel_rfl | (go_simp; done)) ?_
                simp only [Act.put, List.setIfInBounds_toArray, List.set_cons_zero, List.set_cons_succ]
                refine takeD (i := 17) 66 (.pointer (some ⟨rb, 0, none⟩)) rfl rfl (by kernel_rfl) (by kernel_rfl) (by kernel_rfl) (fun _ _ _ h => h) (by kernel_rfl) (fun w => by first | kernel_rfl | (go_simp; done)) ?_
                simp only [Act.put, List.setIfInBounds_toArray, List.set_cons_zero, List.set_cons_succ]
                refine takeD (i := 18) 67 (.pointer (some ⟨rb, 0, none⟩)) rfl rfl (by kernel_rfl) (by kernel_rfl) (by kernel_rfl) (fun _ _ _ h => h) (by kernel_rfl) (fun w => by first | kernel_rfl | (go_simp; done)) ?_
                simp only [Act.put, List.setIfInBounds_toArray, List.set_cons_zero, List.set_cons_succ]
                refine takeD (i := 19) 68 (.pointer (some ⟨rb, 3, none⟩)) rfl rfl (by kernel_rfl) (by kernel_rfl) (by kernel_rfl) (fun _ _ _ h => h) (by kernel_rfl) (fun w => by first | kernel_rfl | (go_simp; done)) ?_
                simp only [Act.put, List.setIfInBounds_toArray, List.set_cons_zero, List.set_cons_succ]
                refine takeD (i := 22) 71 (.string text) rfl rfl (by kernel_rfl) (by kernel_rfl) (by kernel_rfl) (fun _ _ _ h => h) (by kernel_rfl) (fun w => by first | kernel_rfl | (go_simp; done)) ?_
                simp only [Act.put, List.setIfInBounds_toArray, List.set_cons_zero, List.set_cons_succ]
                refine wpAny_ready (rs := [16, 20]) (by kernel_rfl) (by simp) (AllReady.cons rfl (fun K hK => ?_) (AllReady.cons rfl (fun K hK => ?_) AllReady.nil))
                · go_simp
                  refine hK _ _ ?_
                  clear hK K
                  refine wpAny_ready (rs := [20]) (by kernel_rfl) (by simp) (AllReady.cons rfl (fun K hK => ?_) AllReady.nil)
                  go_simp
                  refine hK _ _ ?_
                  clear hK K
                  refine wpAny_ready (rs := [21]) (by kernel_rfl) (by simp) (AllReady.cons rfl (fun K hK => ?_) AllReady.nil)
                  go_simp
                  (with_reducible refine (hcw2.out _ hb6H.out _ _ _ hI6.out).mono ?_)
                  rintro e w7 ⟨rfl, hb7⟩
                  have q37 := cell_later hb7 q36
                  have hO7 := Lib.hid (OwnL.call hO6.out hb7)
                  have hb7H := Lib.hid (bcall hb6H.out hb7)
                  clear hb7
                  go_simp
                  (try (refine hK _ _ ?_))
                  clear hK K
                  refine takeD (i := 23) 72 (.bool true) rfl rfl (by kernel_rfl) (by kernel_rfl) (by kernel_rfl) (fun _ _ _ h => h) (by kernel_rfl) (fun w => by go_simp) ?_
                  simp only [Act.put, List.setIfInBounds_toArray, List.set_cons_zero, List.set_cons_succ]
                  refine takeD (i := 24) 73 (.bool true) rfl rfl (by kernel_rfl) (by kernel_rfl) (by kernel_rfl) (fun _ _ _ h => h) (by kernel_rfl) (fun w => by first | kernel_rfl | (go_simp; done)) ?_
                  simp only [Act.put, List.setIfInBounds_toArray, List.set_cons_zero, List.set_cons_succ]
                  refine wpAny_done (by kernel_rfl) ?_ _
                  (go_wp2_with fail; go_ret2; (first | rw [hfH.out] | rw [show findR s (Int.toNat 3) text.data.toList = _ from hfH.out]); exact ⟨_, rfl, OwnL.nil _ _ _ _ _, hb7H.out⟩)
                · go_simp
                  refine hK _ _ ?_
                  clear hK K
                  refine wpAny_ready (rs := [16]) (by kernel_rfl) (by simp) (AllReady.cons rfl (fun K hK => ?_) AllReady.nil)
                  go_simp
                  refine hK _ _ ?_
                  clear hK K
                  refine wpAny_ready (rs := [21]) (by kernel_rfl) (by simp) (AllReady.cons rfl (fun K hK => ?_) AllReady.nil)
                  go_simp
                  (with_reducible refine (hcw2.out _ hb6H.out _ _ _ hI6.out).mono ?_)
                  rintro e w7 ⟨rfl, hb7⟩
                  have q37 := cell_later hb7 q36
                  have hO7 := Lib.hid (OwnL.call hO6.out hb7)
                  have hb7H := Lib.hid (bcall hb6H.out hb7)
                  clear hb7
                  go_simp
                  (try (refine hK _ _ ?_))
                  clear hK K
                  refine takeD (i := 23) 72 (.bool true) rfl rfl (by kernel_rfl) (by kernel_rfl) (by kernel_rfl) (fun _ _ _ h => h) (by kernel_rfl) (fun w => by go_simp) ?_
                  simp only [Act.put, List.setIfInBounds_toArray, List.set_cons_zero, List.set_cons_succ]
                  refine takeD (i := 24) 73 (.bool true) rfl rfl (by kernel_rfl) (by kernel_rfl) (by kernel_rfl) (fun _ _ _ h => h) (by kernel_rfl) (fun w => by first | kernel_rfl | (go_simp; done)) ?_
                  simp only [Act.put, List.setIfInBounds_toArray, List.set_cons_zero, List.set_cons_succ]
                  refine wpAny_done (by kernel_rfl) ?_ _
                  (go_wp2_with fail; go_ret2; (first | rw [hfH.out] | rw [show findR s (Int.toNat 3) text.data.toList = _ from hfH.out]); exact ⟨_, rfl, OwnL.nil _ _ _ _ _, hb7H.out⟩)
  · have hR := Lib.hid (show readE s k text.data.toList = ([], 3) by rw [readE, if_pos hx, if_pos hm, if_neg (by rw [hsz]; exact h65)])
    have hgt : decide ((65536 : Int) < (text.size : Int)) = true := decide_eq_true (by omega)
    clear h1 hx hm hmm hL hsz h65
    go_enter Tryd.func11, Tryd.ntmps11
    go_wp2_with fail
    refine v1.out.mono ?_
    rintro e w1 ⟨rfl, hb1⟩
    go_wp2_with fail
    refine (v2.out _).mono ?_
    rintro e w2 ⟨rfl, rfl⟩
    go_wp2_with fail
    go_ret2
    rw [hR.out]
    exact ⟨_, rfl, OwnL.nil _ _ _ _ _, hb1⟩
end Go.Proofs.YtnhaoalcpbefoaaDoor

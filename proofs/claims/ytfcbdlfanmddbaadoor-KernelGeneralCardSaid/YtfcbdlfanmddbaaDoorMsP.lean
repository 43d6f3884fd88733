/- The proof of a statement, some of its texts joined in build order: part P. -/
import Derived.Test.YtfcbdlfanmddbaaDoorMsC
import Derived.Test.YtfcbdlfanmddbaaDoorUMatch
import Derived.Test.YtfcbdlfanmddbaaDoorMsB
import Derived.Test.YtfcbdlfanmddbaaDoorRegion
import Derived.StillTailTactics
import Derived.Test.YtfcbdlfanmddbaaDoorMsR
/- Detachment is most general, and names of variables do not matter to it. No program is named. -/
namespace Go.Proofs.YtfcbdlfanmddbaaDoor

/-- for the vars of a term that was moved apart ζ, for others η -/
def twoS (η ζ : Int → List Int) (n : Int) : List Int := if n < -12 then ζ (n + 12) else η n
theorem twoS_w {s : Sg} {η ζ : Int → List Int} (h : Wsub s η) (k : Wsub s ζ) : Wsub s (twoS η ζ) := fun n hn => by
  unfold twoS; split
  · exact k _ (by omega)
  · exact h n hn
theorem twoS_low {s : Sg} {η ζ : Int → List Int} {t : List Int} (h : okT s t = true) : ap (twoS η ζ) t = ap η t := ap_congr (fun n hn h0 => by unfold twoS; exact if_neg (by have := okT_rg h n hn h0; omega))
theorem twoS_apart {η ζ : Int → List Int} {t : List Int} : ap (twoS η ζ) (apartT t) = ap ζ t := by
  rw [ap_apart]
  refine ap_congr (fun n hn h0 => ?_)
  unfold twoS
  rw [if_pos (by omega), show n - 12 + 12 = n by omega]
theorem det_general {s : Sg} {M N : List Int} (hM : okT s M = true) (hN : okT s N = true) (h0 : M.headD 0 = 0) {η ζ : Int → List Int} (hη : Wsub s η) (hζ : Wsub s ζ) {A' B' : List Int} (hA' : W1 s A') (e : ap η M = 0 :: (A' ++ B')) (he : A' = ap ζ N) :
    ∃ A B, argsT s M = [A, B] ∧ uniB s A (apartT N) = true ∧ ((detE s M N).2 = 4 ∨ ((detE s M N).2 = 0 ∧ Ins s (detE s M N).1 B')) := by
  rcases det_cases hM hN with ⟨h, -⟩ | ⟨A, B, eL, eM, hA, hB, hU⟩
  · exact (h h0).elim
  · have hok := (okT_parts hM).1
    refine ⟨A, B, eL, ?_⟩
    rw [eM, ap_pos (by decide), ap_append] at e
    obtain ⟨e1, e2⟩ := W1.uniq ((okT_w1 hA).ap hη) hA' (List.cons.inj e).2
    have hx := twoS_w hη hζ
    have heq : ap (twoS η ζ) A = ap (twoS η ζ) (apartT N) := by rw [twoS_low hA, twoS_apart, e1, he]
    rcases hU with ⟨θ, hθ, e3, hu⟩ | ⟨k1, -, -⟩
    · refine ⟨hu, ?_⟩
      rw [e3]
      by_cases hz : (madeE θ B).2 = 0
      · refine .inr ⟨hz, ?_⟩
        rw [(madeE_ok hok hθ.th (okT_w1 hB) hz).2]
        obtain ⟨τ, ht, hb⟩ := canon_back (s := s) (ap θ B)
        refine ⟨fun n => ap (twoS η ζ) (τ n), fun n hn => (ht n hn).ap hx, ?_⟩
        rw [← ap_ap, hb, hθ.most hx heq B, twoS_low hB, e2]
      · refine .inl ?_
        unfold madeE at hz ⊢
        split
        · rename_i hc; rw [if_pos hc] at hz; exact (hz rfl).elim
        · rfl
    · exact (k1 _ hx heq).elim
theorem okT_canon_iff {s : Sg} {t : List Int} (h : okT s t = true) : okT s (canon t) = true := okT_canon h
theorem det_canon {s : Sg} {m n : List Int} (hm : okT s m = true) (hn : okT s n = true) : detE s (canon m) (canon n) = detE s m n := by
  rcases det_cases hm hn with ⟨h, e⟩ | ⟨A, B, eL, eM, hA, hB, -⟩
  · rw [e, detE_state (okT_canon hm) (okT_canon hn)]
    intro hh
    refine h ?_
    cases m with
    | nil => rfl
    | cons x r =>
      simp only [List.headD_cons] at h
      unfold canon at hh
      simp only [List.map_cons, List.headD_cons] at hh
      by_cases h0 : x < 0
      · have := canonW_lt (v := varsC (x :: r)) h0; omega
      · rw [canonW_pos (by omega)] at hh; exact (h hh).elim
  · have hok := (okT_parts hm).1
    obtain ⟨σ, hσd⟩ : ∃ σ : Int → List Int, σ = fun k => [canonW (varsC m) k] := ⟨_, rfl⟩
    obtain ⟨σ', hσd'⟩ : ∃ σ : Int → List Int, σ = fun k => [canonW (varsC n) k] := ⟨_, rfl⟩
    have hσ : Wsub s σ := by rw [hσd]; exact fun k hk => W1.var (canonW_lt hk)
    have hσ' : Wsub s σ' := by rw [hσd']; exact fun k hk => W1.var (canonW_lt hk)
    have cm : canon m = ap σ m := by rw [hσd]; exact canon_ap m
    have cn : canon n = ap σ' n := by rw [hσd']; exact canon_ap n
    obtain ⟨τ, hτ, bm⟩ := canon_back (s := s) m
    obtain ⟨τ', hτ', bn⟩ := canon_back (s := s) n
    have eC : canon m = 0 :: (ap σ A ++ ap σ B) := by rw [cm, eM, ap_pos (by decide), ap_append]
    obtain ⟨-, oA, oB⟩ := halves_of (okT_canon hm) eC ((okT_w1 hA).ap hσ)
    rw [detE_at (okT_canon hm) (okT_canon hn) eC ((okT_w1 hA).ap hσ), detE_at hm hn eM (okT_w1 hA)]
    rw [eC, eM, ap_pos (by decide), ap_append] at bm
    obtain ⟨bA, bB⟩ := W1.uniq ((okT_w1 oA).ap hτ) (okT_w1 hA) (List.cons.inj bm).2
    have hs1 : Wsub s (fun k => apartT (σ' k)) := fun k hk => apartT_w (hσ' k hk)
    have hs2 : Wsub s (fun k => apartT (τ' k)) := fun k hk => apartT_w (hτ' k hk)
    have hap : ∀ (φ : Int → List Int) (t : List Int), ap (fun k => apartT (φ k)) t = apartT (ap φ t) := fun φ t => by
      rw [apartT_eq (ap φ t), ap_ap]
      exact ap_congr (fun k _ _ => apartT_eq _)
    have q1 : ap (twoS σ (fun k => apartT (σ' k))) (apartT n) = apartT (canon n) := by rw [twoS_apart, hap, cn]
    have q2 : ap (twoS τ (fun k => apartT (τ' k))) (apartT (canon n)) = apartT n := by rw [twoS_apart, hap, bn]
    exact ((uniE_turn hok (twoS_w hσ hs1) (twoS_w hτ hs2) (okT_w1 hA) (apartT_w (okT_w1 hn)) (okT_Rg hA) (apartT_rg hn) (okT_w1 oA) (apartT_w (okT_w1 (okT_canon hn))) (okT_Rg oA) (apartT_rg (okT_canon hn))
      (twoS_low hA) q1 (twoS_low hB) ((twoS_low oA).trans bA) q2 ((twoS_low oB).trans bB)).1).symm
end Go.Proofs.YtfcbdlfanmddbaaDoor

/- Binds put into terms, in plain words; what KernelGeneral says. No program is named. -/
namespace Go.Proofs.YtfcbdlfanmddbaaDoor

abbrev Bnd := Int × List Int
/-- binds by the numbers of their variables in terms -/
def tabL : List Bnd → Bd → Bd
  | [], B => B
  | b :: L, B => tabL L (upB B (-b.1 - 1) b.2)
def tabB (L : List Bnd) : Bd := tabL L (fun _ => none)
theorem tabL_snoc : ∀ (L : List Bnd) (B : Bd) (b : Bnd), tabL (L ++ [b]) B = upB (tabL L B) (-b.1 - 1) b.2
  | [], _, _ => rfl
  | _ :: L, B, b => by rw [List.cons_append, tabL, tabL_snoc L, tabL]
theorem tabL_mem : ∀ (L : List Bnd) (B : Bd) {n : Int} {u : List Int}, tabL L B n = some u → B n = some u ∨ ∃ b ∈ L, n = -b.1 - 1 ∧ u = b.2
  | [], _, _, _, h => .inl h
  | b :: L, B, n, u, h => by
    rw [tabL] at h
    rcases tabL_mem L _ h with h | ⟨b', hb, h1, h2⟩
    · unfold upB at h
      by_cases e : n = -b.1 - 1
      · rw [if_pos e] at h; exact .inr ⟨b, by simp, e, (Option.some.inj h).symm⟩
      · rw [if_neg e] at h; exact .inl h
    · exact .inr ⟨b', by simp [hb], h1, h2⟩
theorem tabB_mem {L : List Bnd} {n : Int} {u : List Int} (h : tabB L n = some u) : ∃ b ∈ L, n = -b.1 - 1 ∧ u = b.2 := by
  rcases tabL_mem L _ h with h | h
  · cases h
  · exact h
def putF (B : Bd) (n : Int) : List Int := (B n).getD [n]
def putT (B : Bd) (t : List Int) : List Int := t.flatMap (putF B)
/-- whether bind i is right -/
def bindOk (s : Sg) (L : List Bnd) (i : Nat) : Bool :=
  decide (0 ≤ (L.getD i (0, [])).1) && decide ((L.getD i (0, [])).1 ≤ 11) && (decide (i = 0) || decide ((L.getD (i - 1) (0, [])).1 < (L.getD i (0, [])).1)) && okT s (L.getD i (0, [])).2 && !decide ((L.getD i (0, [])).2 = [-(L.getD i (0, [])).1 - 1])
def bindsB (s : Sg) (L : List Bnd) : Bool := (List.range L.length).all (bindOk s L) && okSign s
theorem bindsTo_succ (s : Sg) (L : List Bnd) (k : Nat) : (List.range (k + 1)).all (bindOk s L) = ((List.range k).all (bindOk s L) && bindOk s L k) := by
  rw [List.range_succ, List.all_append]; simp
theorem bindsB_no {s : Sg} {L : List Bnd} {k : Nat} (hk : k < L.length) (h : bindOk s L k = false) : bindsB s L = false := by
  unfold bindsB
  rw [show (List.range L.length).all (bindOk s L) = false from ?_]
  · rfl
  · rw [List.all_eq_false]
    exact ⟨k, List.mem_range.2 hk, by rw [h]; decide⟩
theorem bindsB_mem {s : Sg} {L : List Bnd} (h : bindsB s L = true) : ∀ b ∈ L, 0 ≤ b.1 ∧ b.1 ≤ 11 ∧ okT s b.2 = true := by
  intro b hb
  obtain ⟨i, hi, rfl⟩ := List.getElem_of_mem hb
  unfold bindsB at h
  rw [Bool.and_eq_true, List.all_eq_true] at h
  have := h.1 i (List.mem_range.2 hi)
  unfold bindOk at this
  simp only [Bool.and_eq_true, decide_eq_true_eq, List.getD_eq_getElem?_getD, List.getElem?_eq_getElem hi, Option.getD_some] at this
  exact ⟨this.1.1.1.1, this.1.1.1.2, this.1.2⟩
def applyE (s : Sg) (L : List Bnd) (t : List Int) : List Int × Int :=
  if okT s t = true then (if bindsB s L = true then (if (putT (tabB L) t).length ≤ 60 then (putT (tabB L) t, 0) else ([], 4)) else ([], 1)) else ([], 1)
theorem tab_w {s : Sg} {L : List Bnd} (h : bindsB s L = true) : Wsub s (putF (tabB L)) := fun n hn => by
  unfold putF
  cases hB : tabB L n with
  | none => exact W1.var hn
  | some u =>
    obtain ⟨b, hb, -, rfl⟩ := tabB_mem hB
    exact okT_w1 (bindsB_mem h b hb).2.2
theorem put_ap {s : Sg} {L : List Bnd} (h : bindsB s L = true) (t : List Int) : putT (tabB L) t = ap (putF (tabB L)) t := by
  unfold putT ap
  congr 1
  funext n
  by_cases hn : n < 0
  · rw [if_pos hn]
  · rw [if_neg hn]
    unfold putF
    cases hB : tabB L n with
    | none => rfl
    | some u =>
      obtain ⟨b, hb, e, -⟩ := tabB_mem hB
      have := bindsB_mem h b hb
      omega
theorem apply_ok {s : Sg} {L : List Bnd} {t m : List Int} (h : applyE s L t = (m, 0)) : okT s t = true ∧ Wsub s (putF (tabB L)) ∧ m = ap (putF (tabB L)) t ∧ okT s m = true := by
  unfold applyE at h
  by_cases ht : okT s t = true
  · rw [if_pos ht] at h
    by_cases hb : bindsB s L = true
    · rw [if_pos hb] at h
      by_cases hl : (putT (tabB L) t).length ≤ 60
      · rw [if_pos hl] at h
        injection h with h1 _
        subst h1
        refine ⟨ht, tab_w hb, put_ap hb t, ?_⟩
        rw [put_ap hb t] at hl ⊢
        refine okT_of_w1 (okT_parts ht).1 ((okT_w1 ht).ap (tab_w hb)) hl fun n hn h0 => ?_
        rcases mem_ap.1 hn with ⟨-, h⟩ | ⟨v, hv, hv0, hm⟩
        · exact (h h0).elim
        · unfold putF at hm
          cases hB : tabB L v with
          | none => rw [hB] at hm; simp at hm; subst hm; exact okT_rg ht n hv h0
          | some u =>
            rw [hB] at hm
            obtain ⟨b, hb2, -, rfl⟩ := tabB_mem hB
            exact okT_rg (bindsB_mem hb b hb2).2.2 n hm h0
      · rw [if_neg hl] at h; cases h
    · rw [if_neg hb] at h; cases h
  · rw [if_neg ht] at h; cases h
/-- P4.2 -/
theorem general_plain {s : Sg} {L K : List Bnd} {M N m n : List Int} (h1 : applyE s L M = (m, 0)) (h2 : applyE s K N = (n, 0)) (h0 : M.headD 0 = 0) :
    ∃ a b, argsT s m = [a, b] ∧ okT s m = true ∧ okT s M = true ∧ okT s N = true ∧ okT s b = true ∧ (a = n → ∃ A B, argsT s M = [A, B] ∧ uniB s A (apartT N) = true ∧ ((detE s M N).2 = 4 ∨ ((detE s M N).2 = 0 ∧ instB s (detE s M N).1 b = true))) := by
  obtain ⟨hM, hη, e1, hm⟩ := apply_ok h1
  obtain ⟨hN, hζ, e2, hn⟩ := apply_ok h2
  rcases det_cases hM hN with ⟨h, -⟩ | ⟨A, B, eL, eM, hA, hB, -⟩
  · exact (h h0).elim
  · have em : m = 0 :: (ap (putF (tabB L)) A ++ ap (putF (tabB L)) B) := by rw [e1, eM, ap_pos (by decide), ap_append]
    obtain ⟨q1, q2, q3⟩ := halves_of hm em ((okT_w1 hA).ap hη)
    refine ⟨_, _, q1, hm, hM, hN, q3, fun hab => ?_⟩
    obtain ⟨A', B', r1, r2, r3⟩ := det_general hM hN h0 hη hζ ((okT_w1 hA).ap hη) (by rw [← e1]; exact em) (by rw [hab]; exact e2)
    refine ⟨A', B', r1, r2, ?_⟩
    rcases r3 with r3 | ⟨r3, η, g1, g2⟩
    · exact .inl r3
    · exact .inr ⟨r3, instB_yes g1 g2⟩
end Go.Proofs.YtfcbdlfanmddbaaDoor

/- Walks of package unify: ValidBinds, table, put, fits, Apply. -/
namespace Go.Proofs.YtfcbdlfanmddbaaDoor
open Go Go.RowKit Go.Maps

def bindE : Enc Bnd := pairE intE (slE intE)
abbrev Binds := Sl bindE
theorem Sl.bnd {S : Nat → Prop} {w : World} {a : Option Addr} {c : Nat} {l : List Bnd} (h : Binds S w a c l) (i : Nat) (hi : i < l.length) :
    ∃ b off a' c', a = some ⟨b, off, none⟩ ∧ S b ∧ w.cell? ⟨b, off + i * 2, none⟩ = some (.int .i64 l[i].1) ∧ w.cell? ⟨b, off + i * 2 + 1, none⟩ = some (.slice a' l[i].2.length c') ∧ inRange l[i].1 ∧ Ints S w a' c' l[i].2 := by
  obtain ⟨b, off, ha, hb, _, vs, _, hv, hr⟩ := h.at1 i hi
  obtain ⟨us, ts, rfl, ⟨rfl, h1⟩, ⟨a', c', rfl, h2⟩⟩ := hr
  have h0 := hv 0 (by simp)
  have h3 := hv 1 (by simp)
  simp [bindE, pairE, slE, intE] at h0 h3
  exact ⟨b, off, a', c', ha, hb, h0, h3, h1, h2⟩
theorem VB4.call {p0 p1 p2 : Addr} {u0 u1 u2 : Value} {W w1 w2 : World} (h : w1.cell? p0 = some u0 ∧ w1.cell? p1 = some u1 ∧ w1.cell? p2 = some u2 ∧ Below W.heap.size W w1) (hb : Below w1.heap.size w1 w2) :
    w2.cell? p0 = some u0 ∧ w2.cell? p1 = some u1 ∧ w2.cell? p2 = some u2 ∧ Below W.heap.size W w2 := ⟨cell_later hb h.1, cell_later hb h.2.1, cell_later hb h.2.2.1, h.2.2.2.trans (hb.mono h.2.2.2.size)⟩
theorem VB3.call {p0 p1 : Addr} {u0 u1 : Value} {W w1 w2 : World} (h : w1.cell? p0 = some u0 ∧ w1.cell? p1 = some u1 ∧ Below W.heap.size W w1) (hb : Below w1.heap.size w1 w2) :
    w2.cell? p0 = some u0 ∧ w2.cell? p1 = some u1 ∧ Below W.heap.size W w2 := ⟨cell_later hb h.1, cell_later hb h.2.1, h.2.2.trans (hb.mono h.2.2.size)⟩
theorem code_arg (w : World) {x : Int} (h : inRange x) : Ints (fun _ => True) (w.alloc (.cells #[.int .i64 x] 3)) (some ⟨w.heap.size, 0, none⟩) 1 [x] := by
  refine ⟨Nat.le_refl _, (by unfold big; exact of_decide_eq_true rfl), (fun h => by cases h), fun _ => ⟨w.heap.size, 0, rfl, trivial, by simp, fun i hi => ?_⟩⟩
  have hi0 : i = 0 := by simpa using hi
  subst hi0
  refine ⟨[.int .i64 x], rfl, fun j hj => ?_, rfl, h⟩
  have := cell_new (w := w) [.int .i64 x] 3 j hj
  rw [Nat.zero_mul, Nat.zero_add]; exact this
theorem uwithin_any (n lo hi : Int) (w : World) :
    Calls Tryd.prog 33 #[.int .i64 n, .int .i64 lo, .int .i64 hi] w fun e w' => e = .returned (.bool (decide (lo ≤ n) && decide (n ≤ hi))) ∧ w = w' := by
  go_enter Tryd.func33, Tryd.ntmps33
  go_wp2
  all_goals go_ret
  all_goals exact ⟨ret_bool (by simp; omega), rfl⟩
def vbI (s : Sg) (L : List Bnd) (w : World) (iV : Value) (wr : World) : Prop :=
  ∃ k : Nat, iV = .int .i64 k ∧ k ≤ L.length ∧ (List.range k).all (bindOk s L) = true ∧ Below w.heap.size w wr
theorem getD_bnd {L : List Bnd} {k : Nat} (h : k < L.length) : L.getD k (0, []) = L[k] := by rw [List.getD_eq_getElem?_getD, List.getElem?_eq_getElem h]; rfl
set_option maxRecDepth 100000 in
set_option maxHeartbeats 8000000 in
theorem ValidBinds_any {S1 S2 : Nat → Prop} (a1 a2 : Option Addr) (c1 c2 : Nat) (s : Sg) (L : List Bnd) (w : World) (h1 : Sign S1 w a1 c1 s) (h2 : Binds S2 w a2 c2 L) :
    Calls Tryd.prog 15 #[.slice a1 s.length c1, .slice a2 L.length c2] w fun e w' => e = .returned (.bool (bindsB s L)) ∧ Below w.heap.size w w' := by
  have m1 := h1.le
  have m2 := h2.le
  have h1H := Lib.hid h1
  have h2H := Lib.hid h2
  clear h1 h2
  go_enter Tryd.func15, Tryd.ntmps15
  go_wp2_with fail
  go_loopw [5, 6, 9] (fun _ _ iV wr => vbI s L w iV wr) (fun _ _ iV _ => L.length - (intOf iV).toNat)
  case atStart => exact ⟨0, rfl, Nat.zero_le _, rfl, Below.refl _ _⟩
  case round =>
    obtain ⟨k, rfl, hk, hall, hB⟩ := hrel
    by_cases hlt : k < L.length
    · obtain ⟨bl, ol, at_, ct, hae, -, q0, q1, hvr, hto⟩ := (h2H.out.below hB).bnd k hlt
      have hno := fun (h : bindOk s L k = false) => bindsB_no (s := s) hlt h
      have hyes := fun (h : bindOk s L k = true) => (show (List.range (k + 1)).all (bindOk s L) = true by rw [bindsTo_succ, hall, h]; rfl)
      have hpv : 0 < k → wr.cell? ⟨bl, ol + (k - 1) * 2, none⟩ = some (.int .i64 (L.getD (k - 1) (0, [])).1) := fun h0 => by
        obtain ⟨bl', ol', _, _, hae', -, q0', -⟩ := (h2H.out.below hB).bnd (k - 1) (by omega)
        rw [hae] at hae'; cases hae'
        rw [getD_bnd (by omega)]; exact q0'
      have hbo : bindOk s L k = (decide (0 ≤ L[k].1) && decide (L[k].1 ≤ 11) && (decide (k = 0) || decide ((L.getD (k - 1) (0, [])).1 < L[k].1)) && okT s L[k].2 && !decide (L[k].2 = [-L[k].1 - 1])) := by
        unfold bindOk; rw [getD_bnd hlt]
      obtain ⟨pv, hpve⟩ : ∃ pv, (L.getD (k - 1) (0, [])).1 = pv := ⟨_, rfl⟩
      rw [hpve] at hpv hbo
      obtain ⟨x, hxe⟩ : ∃ x, L[k] = x := ⟨_, rfl⟩
      rw [hxe] at q0 q1 hvr hto hbo
      obtain ⟨v, to⟩ := x
      dsimp only at q0 q1 hvr hto hbo
      have mto := hto.le
      obtain ⟨Wx, hWx⟩ : ∃ W, wr.alloc (.cells #[.int .i64 v, .slice at_ to.length ct] 77) = W := ⟨_, rfl⟩
      have hbx : Below wr.heap.size wr Wx := by rw [← hWx]; exact below1 wr _
      have x0 : Wx.cell? ⟨wr.heap.size, 0, none⟩ = some (.int .i64 v) := by rw [← hWx]; clear hWx; go_simp
      have x1 : Wx.cell? ⟨wr.heap.size, 1, none⟩ = some (.slice at_ to.length ct) := by rw [← hWx]; clear hWx; go_simp
      have hto := hto.below hbx
      have hsx := (h1H.out.below hB).below hbx
      have cvH := Lib.hid (fun W' (hb : Below Wx.heap.size Wx W') => Valid_any a1 at_ c1 ct s to W' (hsx.below hb) (hto.below hb))
      obtain ⟨bv, hbv⟩ : ∃ b, okT s to = b := ⟨_, rfl⟩
      obtain ⟨be, hbe⟩ : ∃ b, decide (to = [-v - 1]) = b := ⟨_, rfl⟩
      have ceH := Lib.hid (fun (W' : World) (hb : Below Wx.heap.size Wx W') (a' : Option Addr) (hp : Ints (fun _ => True) W' a' 1 [-v - 1]) => (show Calls Tryd.prog 34 #[.slice at_ to.length ct, .slice a' 1 1] W' fun e w' => e = .returned (.bool be) ∧ Drew W' w' by
        rw [← hbe]; exact Equal_any at_ a' ct 1 to [-v - 1] W' (hto.below hb) hp))
      rw [hbv] at cvH hbo
      rw [hbe] at hbo
      have hB2 := bcall hB hbx
      have hB2H := Lib.hid hB2
      have cwH := Lib.hid (fun W => uwithin_any v 0 11 W)
      obtain ⟨bw, hbw⟩ : ∃ b, (decide ((0 : Int) ≤ v) && decide (v ≤ 11)) = b := ⟨_, rfl⟩
      rw [hbw] at cwH hbo
      subst hae
      clear hto hsx hB hB2 hbv hbe hxe hpve
      cases bw with
      | false =>
        have hfin := hno (by rw [hbo]; rfl)
        have hfinH := Lib.hid hfin
        clear hno hyes hbo hfin cvH ceH hpv hbw
        go_wp2_with fail
        try rw [hWx]
        refine wp_region_held_drew (S := fun w' => w'.cell? ⟨wr.heap.size, 0, none⟩ = some (.int .i64 v) ∧ w'.cell? ⟨wr.heap.size, 1, none⟩ = some (.slice at_ to.length ct) ∧ Below Wx.heap.size Wx w') (by kernel_rfl) ⟨x0, x1, (Below.refl _ _).drew⟩ (fun hS => ?_)
        refine region_take 0 (some 14) (v := ?_) rfl rfl (by kernel_rfl) (by kernel_rfl) (by kernel_rfl) (fun _ _ _ h => h) rfl ?_ hS ?_
        rotate_left
        · (intro w9 hS9; go_simp; try (with_reducible rfl))
        simp only [Act.put, List.setIfInBounds_toArray, List.set_cons_zero, List.set_cons_succ]
        refine region_take 1 (some 15) (v := ?_) rfl rfl (by kernel_rfl) (by kernel_rfl) (by kernel_rfl) (fun _ _ _ h => h) rfl ?_ hS ?_
        rotate_left
        · (intro w9 hS9; go_simp; try (with_reducible rfl))
        simp only [Act.put, List.setIfInBounds_toArray, List.set_cons_zero, List.set_cons_succ]
        refine region_call 2 rfl (by kernel_rfl) (fun K hK => ?_)
        go_simp
        refine (cwH.out _).mono ?_
        rintro e w8 ⟨rfl, rfl⟩
        refine hK.out _ _ hS ?_
        clear hK
        intro hS
        refine region_take 3 (some 17) (v := ?_) rfl rfl (by kernel_rfl) (by kernel_rfl) (by kernel_rfl) (fun _ _ _ h => h) rfl ?_ hS ?_
        rotate_left
        · (intro w9 hS9; go_simp; try (with_reducible rfl))
        simp only [Act.put, List.setIfInBounds_toArray, List.set_cons_zero, List.set_cons_succ]
        refine region_take 4 (some 18) (v := ?_) rfl rfl (by kernel_rfl) (by kernel_rfl) (by kernel_rfl) (fun _ _ _ h => h) rfl ?_ hS ?_
        rotate_left
        · (intro w9 hS9; go_simp; try (with_reducible rfl))
        simp only [Act.put, List.setIfInBounds_toArray, List.set_cons_zero, List.set_cons_succ]
        refine region_skip 5 (some 19) rfl rfl (by kernel_rfl) (by kernel_rfl) (by kernel_rfl) (fun _ _ _ h => h) rfl hS ?_
        simp only [Act.put, List.setIfInBounds_toArray, List.set_cons_zero, List.set_cons_succ]
        refine region_skip 6 (some 20) rfl rfl (by kernel_rfl) (by kernel_rfl) (by kernel_rfl) (fun _ _ _ h => h) rfl hS ?_
        simp only [Act.put, List.setIfInBounds_toArray, List.set_cons_zero, List.set_cons_succ]
        refine region_skip 7 (some 21) rfl rfl (by kernel_rfl) (by kernel_rfl) (by kernel_rfl) (fun _ _ _ h => h) rfl hS ?_
        simp only [Act.put, List.setIfInBounds_toArray, List.set_cons_zero, List.set_cons_succ]
        refine region_skip 8 (some 22) rfl rfl (by kernel_rfl) (by kernel_rfl) (by kernel_rfl) (fun _ _ _ h => h) rfl hS ?_
        simp only [Act.put, List.setIfInBounds_toArray, List.set_cons_zero, List.set_cons_succ]
        refine region_skip 9 (some 23) rfl rfl (by kernel_rfl) (by kernel_rfl) (by kernel_rfl) (fun _ _ _ h => h) rfl hS ?_
        simp only [Act.put, List.setIfInBounds_toArray, List.set_cons_zero, List.set_cons_succ]
        refine region_skip 10 (some 24) rfl rfl (by kernel_rfl) (by kernel_rfl) (by kernel_rfl) (fun _ _ _ h => h) rfl hS ?_
        simp only [Act.put, List.setIfInBounds_toArray, List.set_cons_zero, List.set_cons_succ]
        refine region_skip 11 (some 25) rfl rfl (by kernel_rfl) (by kernel_rfl) (by kernel_rfl) (fun _ _ _ h => h) rfl hS ?_
        simp only [Act.put, List.setIfInBounds_toArray, List.set_cons_zero, List.set_cons_succ]
        refine region_skip 12 (some 26) rfl rfl (by kernel_rfl) (by kernel_rfl) (by kernel_rfl) (fun _ _ _ h => h) rfl hS ?_
        simp only [Act.put, List.setIfInBounds_toArray, List.set_cons_zero, List.set_cons_succ]
        refine region_skip 13 (some 27) rfl rfl (by kernel_rfl) (by kernel_rfl) (by kernel_rfl) (fun _ _ _ h => h) rfl hS ?_
        simp only [Act.put, List.setIfInBounds_toArray, List.set_cons_zero, List.set_cons_succ]
        refine region_skip 14 (some 28) rfl rfl (by kernel_rfl) (by kernel_rfl) (by kernel_rfl) (fun _ _ _ h => h) rfl hS ?_
        simp only [Act.put, List.setIfInBounds_toArray, List.set_cons_zero, List.set_cons_succ]
        refine region_skip 15 (some 29) rfl rfl (by kernel_rfl) (by kernel_rfl) (by kernel_rfl) (fun _ _ _ h => h) rfl hS ?_
        simp only [Act.put, List.setIfInBounds_toArray, List.set_cons_zero, List.set_cons_succ]
        refine region_skip 16 (some 30) rfl rfl (by kernel_rfl) (by kernel_rfl) (by kernel_rfl) (fun _ _ _ h => h) rfl hS ?_
        simp only [Act.put, List.setIfInBounds_toArray, List.set_cons_zero, List.set_cons_succ]
        refine region_skip 17 (some 31) rfl rfl (by kernel_rfl) (by kernel_rfl) (by kernel_rfl) (fun _ _ _ h => h) rfl hS ?_
        simp only [Act.put, List.setIfInBounds_toArray, List.set_cons_zero, List.set_cons_succ]
        refine region_take 18 (some 32) (v := ?_) rfl rfl (by kernel_rfl) (by kernel_rfl) (by kernel_rfl) (fun _ _ _ h => h) rfl ?_ hS ?_
        rotate_left
        · (intro w9 hS9; go_simp; try (with_reducible rfl))
        simp only [Act.put, List.setIfInBounds_toArray, List.set_cons_zero, List.set_cons_succ]
        refine region_take 19 (some 33) (v := ?_) rfl rfl (by kernel_rfl) (by kernel_rfl) (by kernel_rfl) (fun _ _ _ h => h) rfl ?_ hS ?_
        rotate_left
        · (intro w9 hS9; go_simp; try (with_reducible rfl))
        simp only [Act.put, List.setIfInBounds_toArray, List.set_cons_zero, List.set_cons_succ]
        refine region_skip 20 (some 34) rfl rfl (by kernel_rfl) (by kernel_rfl) (by kernel_rfl) (fun _ _ _ h => h) rfl hS ?_
        simp only [Act.put, List.setIfInBounds_toArray, List.set_cons_zero, List.set_cons_succ]
        refine region_skip 21 (some 35) rfl rfl (by kernel_rfl) (by kernel_rfl) (by kernel_rfl) (fun _ _ _ h => h) rfl hS ?_
        simp only [Act.put, List.setIfInBounds_toArray, List.set_cons_zero, List.set_cons_succ]
        refine region_skip 22 (some 36) rfl rfl (by kernel_rfl) (by kernel_rfl) (by kernel_rfl) (fun _ _ _ h => h) rfl hS ?_
        simp only [Act.put, List.setIfInBounds_toArray, List.set_cons_zero, List.set_cons_succ]
        refine region_skip 23 (some 37) rfl rfl (by kernel_rfl) (by kernel_rfl) (by kernel_rfl) (fun _ _ _ h => h) rfl hS ?_
        simp only [Act.put, List.setIfInBounds_toArray, List.set_cons_zero, List.set_cons_succ]
        refine region_skip 24 (some 38) rfl rfl (by kernel_rfl) (by kernel_rfl) (by kernel_rfl) (fun _ _ _ h => h) rfl hS ?_
        simp only [Act.put, List.setIfInBounds_toArray, List.set_cons_zero, List.set_cons_succ]
        refine region_take 25 (some 39) (v := ?_) rfl rfl (by kernel_rfl) (by kernel_rfl) (by kernel_rfl) (fun _ _ _ h => h) rfl ?_ hS ?_
        rotate_left
        · (intro w9 hS9; go_simp; try (with_reducible rfl))
        simp only [Act.put, List.setIfInBounds_toArray, List.set_cons_zero, List.set_cons_succ]
        refine region_take 26 (some 40) (v := ?_) rfl rfl (by kernel_rfl) (by kernel_rfl) (by kernel_rfl) (fun _ _ _ h => h) rfl ?_ hS ?_
        rotate_left
        · (intro w9 hS9; go_simp; try (with_reducible rfl))
        simp only [Act.put, List.setIfInBounds_toArray, List.set_cons_zero, List.set_cons_succ]
        refine region_skip 27 (some 41) rfl rfl (by kernel_rfl) (by kernel_rfl) (by kernel_rfl) (fun _ _ _ h => h) rfl hS ?_
        simp only [Act.put, List.setIfInBounds_toArray, List.set_cons_zero, List.set_cons_succ]
        refine region_skip 28 (some 42) rfl rfl (by kernel_rfl) (by kernel_rfl) (by kernel_rfl) (fun _ _ _ h => h) rfl hS ?_
        simp only [Act.put, List.setIfInBounds_toArray, List.set_cons_zero, List.set_cons_succ]
        refine region_skip 29 (some 43) rfl rfl (by kernel_rfl) (by kernel_rfl) (by kernel_rfl) (fun _ _ _ h => h) rfl hS ?_
        simp only [Act.put, List.setIfInBounds_toArray, List.set_cons_zero, List.set_cons_succ]
        refine region_skip 30 (some 44) rfl rfl (by kernel_rfl) (by kernel_rfl) (by kernel_rfl) (fun _ _ _ h => h) rfl hS ?_
        simp only [Act.put, List.setIfInBounds_toArray, List.set_cons_zero, List.set_cons_succ]
        refine region_skip 31 (some 45) rfl rfl (by kernel_rfl) (by kernel_rfl) (by kernel_rfl) (fun _ _ _ h => h) rfl hS ?_
        simp only [Act.put, List.setIfInBounds_toArray, List.set_cons_zero, List.set_cons_succ]
        refine region_skip 32 (some 46) rfl rfl (by kernel_rfl) (by kernel_rfl) (by kernel_rfl) (fun _ _ _ h => h) rfl hS ?_
        simp only [Act.put, List.setIfInBounds_toArray, List.set_cons_zero, List.set_cons_succ]
        refine region_skip 33 (some 47) rfl rfl (by kernel_rfl) (by kernel_rfl) (by kernel_rfl) (fun _ _ _ h => h) rfl hS ?_
        simp only [Act.put, List.setIfInBounds_toArray, List.set_cons_zero, List.set_cons_succ]
        refine region_take 34 (some 48) (v := ?_) rfl rfl (by kernel_rfl) (by kernel_rfl) (by kernel_rfl) (fun _ _ _ h => h) rfl ?_ hS ?_
        rotate_left
        · (intro w9 hS9; go_simp; try (with_reducible rfl))
        simp only [Act.put, List.setIfInBounds_toArray, List.set_cons_zero, List.set_cons_succ]
        refine wpAnyH_done (by kernel_rfl) ?_ _
        have B8 := hS.2.2
        clear hS
        go_wp2_with fail
        go_ret
        rw [hfinH.out]
        exact ⟨rfl, bcall hB2H.out B8⟩
      | true =>
        simp only [Bool.and_eq_true, decide_eq_true_eq] at hbw
        have hcr : inRange (-v - 1) := by unfold inRange; omega
        have ccH := Lib.hid (fun W => code_any v W (by omega) (by omega))
        rw [Bool.true_and] at hbo
        by_cases h0 : k = 0
        · subst h0
          rw [Nat.zero_mul, Nat.add_zero] at q0 q1
          have hbo' : bindOk s L 0 = (bv && !be) := by rw [hbo, decide_eq_true rfl, Bool.true_or, Bool.true_and]
          clear hbo hpv
          cases bv with
          | false =>
            have hfin := hno (by rw [hbo']; rfl)
            have hfinH := Lib.hid hfin
            clear hno hyes hbo' hfin ceH ccH hbw hcr
            go_wp2_with fail
            try rw [hWx]
            refine wp_region_held_drew (S := fun w' => w'.cell? ⟨wr.heap.size, 0, none⟩ = some (.int .i64 v) ∧ w'.cell? ⟨wr.heap.size, 1, none⟩ = some (.slice at_ to.length ct) ∧ Below Wx.heap.size Wx w') (by kernel_rfl) ⟨x0, x1, (Below.refl _ _).drew⟩ (fun hS => ?_)
            refine region_take 0 (some 14) (v := ?_) rfl rfl (by kernel_rfl) (by kernel_rfl) (by kernel_rfl) (fun _ _ _ h => h) rfl ?_ hS ?_
            rotate_left
            · (intro w9 hS9; go_simp; try (with_reducible rfl))
            simp only [Act.put, List.setIfInBounds_toArray, List.set_cons_zero, List.set_cons_succ]
            refine region_take 1 (some 15) (v := ?_) rfl rfl (by kernel_rfl) (by kernel_rfl) (by kernel_rfl) (fun _ _ _ h => h) rfl ?_ hS ?_
            rotate_left
            · (intro w9 hS9; go_simp; try (with_reducible rfl))
            simp only [Act.put, List.setIfInBounds_toArray, List.set_cons_zero, List.set_cons_succ]
            refine region_call 2 rfl (by kernel_rfl) (fun K hK => ?_)
            go_simp
            refine (cwH.out _).mono ?_
            rintro e w8 ⟨rfl, rfl⟩
            refine hK.out _ _ hS ?_
            clear hK
            intro hS
            refine region_take 3 (some 17) (v := ?_) rfl rfl (by kernel_rfl) (by kernel_rfl) (by kernel_rfl) (fun _ _ _ h => h) rfl ?_ hS ?_
            rotate_left
            · (intro w9 hS9; go_simp; try (with_reducible rfl))
            simp only [Act.put, List.setIfInBounds_toArray, List.set_cons_zero, List.set_cons_succ]
            refine region_take 4 (some 18) (v := ?_) rfl rfl (by kernel_rfl) (by kernel_rfl) (by kernel_rfl) (fun _ _ _ h => h) rfl ?_ hS ?_
            rotate_left
            · (intro w9 hS9; go_simp; try (with_reducible rfl))
            simp only [Act.put, List.setIfInBounds_toArray, List.set_cons_zero, List.set_cons_succ]
            refine region_take 5 (some 19) (v := ?_) rfl rfl (by kernel_rfl) (by kernel_rfl) (by kernel_rfl) (fun _ _ _ h => h) rfl ?_ hS ?_
            rotate_left
            · (intro w9 hS9; go_simp; try (with_reducible rfl))
            simp only [Act.put, List.setIfInBounds_toArray, List.set_cons_zero, List.set_cons_succ]
            refine region_take 6 (some 20) (v := ?_) rfl rfl (by kernel_rfl) (by kernel_rfl) (by kernel_rfl) (fun _ _ _ h => h) rfl ?_ hS ?_
            rotate_left
            · (intro w9 hS9; go_simp; try (with_reducible rfl))
            simp only [Act.put, List.setIfInBounds_toArray, List.set_cons_zero, List.set_cons_succ]
            refine region_take 7 (some 21) (v := ?_) rfl rfl (by kernel_rfl) (by kernel_rfl) (by kernel_rfl) (fun _ _ _ h => h) rfl ?_ hS ?_
            rotate_left
            · (intro w9 hS9; go_simp; try (with_reducible rfl))
            simp only [Act.put, List.setIfInBounds_toArray, List.set_cons_zero, List.set_cons_succ]
            refine region_skip 8 (some 22) rfl rfl (by kernel_rfl) (by kernel_rfl) (by kernel_rfl) (fun _ _ _ h => h) rfl hS ?_
            simp only [Act.put, List.setIfInBounds_toArray, List.set_cons_zero, List.set_cons_succ]
            refine region_skip 9 (some 23) rfl rfl (by kernel_rfl) (by kernel_rfl) (by kernel_rfl) (fun _ _ _ h => h) rfl hS ?_
            simp only [Act.put, List.setIfInBounds_toArray, List.set_cons_zero, List.set_cons_succ]
            refine region_skip 10 (some 24) rfl rfl (by kernel_rfl) (by kernel_rfl) (by kernel_rfl) (fun _ _ _ h => h) rfl hS ?_
            simp only [Act.put, List.setIfInBounds_toArray, List.set_cons_zero, List.set_cons_succ]
            refine region_skip 11 (some 25) rfl rfl (by kernel_rfl) (by kernel_rfl) (by kernel_rfl) (fun _ _ _ h => h) rfl hS ?_
            simp only [Act.put, List.setIfInBounds_toArray, List.set_cons_zero, List.set_cons_succ]
            refine region_skip 12 (some 26) rfl rfl (by kernel_rfl) (by kernel_rfl) (by kernel_rfl) (fun _ _ _ h => h) rfl hS ?_
            simp only [Act.put, List.setIfInBounds_toArray, List.set_cons_zero, List.set_cons_succ]
            refine region_skip 13 (some 27) rfl rfl (by kernel_rfl) (by kernel_rfl) (by kernel_rfl) (fun _ _ _ h => h) rfl hS ?_
            simp only [Act.put, List.setIfInBounds_toArray, List.set_cons_zero, List.set_cons_succ]
            refine region_skip 14 (some 28) rfl rfl (by kernel_rfl) (by kernel_rfl) (by kernel_rfl) (fun _ _ _ h => h) rfl hS ?_
            simp only [Act.put, List.setIfInBounds_toArray, List.set_cons_zero, List.set_cons_succ]
            refine region_skip 15 (some 29) rfl rfl (by kernel_rfl) (by kernel_rfl) (by kernel_rfl) (fun _ _ _ h => h) rfl hS ?_
            simp only [Act.put, List.setIfInBounds_toArray, List.set_cons_zero, List.set_cons_succ]
            refine region_skip 16 (some 30) rfl rfl (by kernel_rfl) (by kernel_rfl) (by kernel_rfl) (fun _ _ _ h => h) rfl hS ?_
            simp only [Act.put, List.setIfInBounds_toArray, List.set_cons_zero, List.set_cons_succ]
            refine region_take 17 (some 31) (v := ?_) rfl rfl (by kernel_rfl) (by kernel_rfl) (by kernel_rfl) (fun _ _ _ h => h) rfl ?_ hS ?_
            rotate_left
            · (intro w9 hS9; go_simp; try (with_reducible rfl))
            simp only [Act.put, List.setIfInBounds_toArray, List.set_cons_zero, List.set_cons_succ]
            refine region_take 18 (some 32) (v := ?_) rfl rfl (by kernel_rfl) (by kernel_rfl) (by kernel_rfl) (fun _ _ _ h => h) rfl ?_ hS ?_
            rotate_left
            · (intro w9 hS9; go_simp; try (with_reducible rfl))
            simp only [Act.put, List.setIfInBounds_toArray, List.set_cons_zero, List.set_cons_succ]
            refine region_take 19 (some 33) (v := ?_) rfl rfl (by kernel_rfl) (by kernel_rfl) (by kernel_rfl) (fun _ _ _ h => h) rfl ?_ hS ?_
            rotate_left
            · (intro w9 hS9; go_simp; try (with_reducible rfl))
            simp only [Act.put, List.setIfInBounds_toArray, List.set_cons_zero, List.set_cons_succ]
            refine region_take 20 (some 34) (v := ?_) rfl rfl (by kernel_rfl) (by kernel_rfl) (by kernel_rfl) (fun _ _ _ h => h) rfl ?_ hS ?_
            rotate_left
            · (intro w9 hS9; go_simp; try (with_reducible rfl))
            simp only [Act.put, List.setIfInBounds_toArray, List.set_cons_zero, List.set_cons_succ]
            refine region_take 21 (some 35) (v := ?_) rfl rfl (by kernel_rfl) (by kernel_rfl) (by kernel_rfl) (fun _ _ _ h => h) rfl ?_ hS ?_
            rotate_left
            · (intro w9 hS9; go_simp; try (with_reducible rfl))
            simp only [Act.put, List.setIfInBounds_toArray, List.set_cons_zero, List.set_cons_succ]
            refine region_take 22 (some 36) (v := ?_) rfl rfl (by kernel_rfl) (by kernel_rfl) (by kernel_rfl) (fun _ _ _ h => h) rfl ?_ hS ?_
            rotate_left
            · (intro w9 hS9; go_simp; try (with_reducible rfl))
            simp only [Act.put, List.setIfInBounds_toArray, List.set_cons_zero, List.set_cons_succ]
            refine region_call 23 rfl (by kernel_rfl) (fun K hK => ?_)
            go_simp
            refine (cvH.out _ (hS.2.2)).mono ?_
            rintro e w8 ⟨rfl, hb8⟩
            refine hK.out _ _ (VB3.call hS hb8) ?_
            clear hS hK
            intro hS
            refine region_take 24 (some 38) (v := ?_) rfl rfl (by kernel_rfl) (by kernel_rfl) (by kernel_rfl) (fun _ _ _ h => h) rfl ?_ hS ?_
            rotate_left
            · (intro w9 hS9; go_simp; try (with_reducible rfl))
            simp only [Act.put, List.setIfInBounds_toArray, List.set_cons_zero, List.set_cons_succ]
            refine region_take 25 (some 39) (v := ?_) rfl rfl (by kernel_rfl) (by kernel_rfl) (by kernel_rfl) (fun _ _ _ h => h) rfl ?_ hS ?_
            rotate_left
            · (intro w9 hS9; go_simp; try (with_reducible rfl))
            simp only [Act.put, List.setIfInBounds_toArray, List.set_cons_zero, List.set_cons_succ]
            refine region_take 26 (some 40) (v := ?_) rfl rfl (by kernel_rfl) (by kernel_rfl) (by kernel_rfl) (fun _ _ _ h => h) rfl ?_ hS ?_
            rotate_left
            · (intro w9 hS9; go_simp; try (with_reducible rfl))
            simp only [Act.put, List.setIfInBounds_toArray, List.set_cons_zero, List.set_cons_succ]
            refine region_skip 27 (some 41) rfl rfl (by kernel_rfl) (by kernel_rfl) (by kernel_rfl) (fun _ _ _ h => h) rfl hS ?_
            simp only [Act.put, List.setIfInBounds_toArray, List.set_cons_zero, List.set_cons_succ]
            refine region_skip 28 (some 42) rfl rfl (by kernel_rfl) (by kernel_rfl) (by kernel_rfl) (fun _ _ _ h => h) rfl hS ?_
            simp only [Act.put, List.setIfInBounds_toArray, List.set_cons_zero, List.set_cons_succ]
            refine region_skip 29 (some 43) rfl rfl (by kernel_rfl) (by kernel_rfl) (by kernel_rfl) (fun _ _ _ h => h) rfl hS ?_
            simp only [Act.put, List.setIfInBounds_toArray, List.set_cons_zero, List.set_cons_succ]
            refine region_skip 30 (some 44) rfl rfl (by kernel_rfl) (by kernel_rfl) (by kernel_rfl) (fun _ _ _ h => h) rfl hS ?_
            simp only [Act.put, List.setIfInBounds_toArray, List.set_cons_zero, List.set_cons_succ]
            refine region_skip 31 (some 45) rfl rfl (by kernel_rfl) (by kernel_rfl) (by kernel_rfl) (fun _ _ _ h => h) rfl hS ?_
            simp only [Act.put, List.setIfInBounds_toArray, List.set_cons_zero, List.set_cons_succ]
            refine region_skip 32 (some 46) rfl rfl (by kernel_rfl) (by kernel_rfl) (by kernel_rfl) (fun _ _ _ h => h) rfl hS ?_
            simp only [Act.put, List.setIfInBounds_toArray, List.set_cons_zero, List.set_cons_succ]
            refine region_skip 33 (some 47) rfl rfl (by kernel_rfl) (by kernel_rfl) (by kernel_rfl) (fun _ _ _ h => h) rfl hS ?_
            simp only [Act.put, List.setIfInBounds_toArray, List.set_cons_zero, List.set_cons_succ]
            refine region_take 34 (some 48) (v := ?_) rfl rfl (by kernel_rfl) (by kernel_rfl) (by kernel_rfl) (fun _ _ _ h => h) rfl ?_ hS ?_
            rotate_left
            · (intro w9 hS9; go_simp; try (with_reducible rfl))
            simp only [Act.put, List.setIfInBounds_toArray, List.set_cons_zero, List.set_cons_succ]
            refine wpAnyH_done (by kernel_rfl) ?_ _
            have B8 := hS.2.2
            clear hS
            go_wp2_with fail
            go_ret
            rw [hfinH.out]
            exact ⟨rfl, bcall hB2H.out B8⟩
          | true =>
            rw [Bool.true_and] at hbo'
            have hnoH := Lib.hid hno
            have hyesH := Lib.hid hyes
            have hboH := Lib.hid hbo'
            clear hno hyes hbo' hbw
            go_wp2_with fail
            try rw [hWx]
            refine wp_region_held_drew (S := fun w' => w'.cell? ⟨wr.heap.size, 0, none⟩ = some (.int .i64 v) ∧ w'.cell? ⟨wr.heap.size, 1, none⟩ = some (.slice at_ to.length ct) ∧ Below Wx.heap.size Wx w') (by kernel_rfl) ⟨x0, x1, (Below.refl _ _).drew⟩ (fun hS => ?_)
            refine region_take 0 (some 14) (v := ?_) rfl rfl (by kernel_rfl) (by kernel_rfl) (by kernel_rfl) (fun _ _ _ h => h) rfl ?_ hS ?_
            rotate_left
            · (intro w9 hS9; go_simp; try (with_reducible rfl))
            simp only [Act.put, List.setIfInBounds_toArray, List.set_cons_zero, List.set_cons_succ]
            refine region_take 1 (some 15) (v := ?_) rfl rfl (by kernel_rfl) (by kernel_rfl) (by kernel_rfl) (fun _ _ _ h => h) rfl ?_ hS ?_
            rotate_left
            · (intro w9 hS9; go_simp; try (with_reducible rfl))
            simp only [Act.put, List.setIfInBounds_toArray, List.set_cons_zero, List.set_cons_succ]
            refine region_call 2 rfl (by kernel_rfl) (fun K hK => ?_)
            go_simp
            refine (cwH.out _).mono ?_
            rintro e w8 ⟨rfl, rfl⟩
            refine hK.out _ _ hS ?_
            clear hK
            intro hS
            refine region_take 3 (some 17) (v := ?_) rfl rfl (by kernel_rfl) (by kernel_rfl) (by kernel_rfl) (fun _ _ _ h => h) rfl ?_ hS ?_
            rotate_left
            · (intro w9 hS9; go_simp; try (with_reducible rfl))
            simp only [Act.put, List.setIfInBounds_toArray, List.set_cons_zero, List.set_cons_succ]
            refine region_take 4 (some 18) (v := ?_) rfl rfl (by kernel_rfl) (by kernel_rfl) (by kernel_rfl) (fun _ _ _ h => h) rfl ?_ hS ?_
            rotate_left
            · (intro w9 hS9; go_simp; try (with_reducible rfl))
            simp only [Act.put, List.setIfInBounds_toArray, List.set_cons_zero, List.set_cons_succ]
            refine region_take 5 (some 19) (v := ?_) rfl rfl (by kernel_rfl) (by kernel_rfl) (by kernel_rfl) (fun _ _ _ h => h) rfl ?_ hS ?_
            rotate_left
            · (intro w9 hS9; go_simp; try (with_reducible rfl))
            simp only [Act.put, List.setIfInBounds_toArray, List.set_cons_zero, List.set_cons_succ]
            refine region_take 6 (some 20) (v := ?_) rfl rfl (by kernel_rfl) (by kernel_rfl) (by kernel_rfl) (fun _ _ _ h => h) rfl ?_ hS ?_
            rotate_left
            · (intro w9 hS9; go_simp; try (with_reducible rfl))
            simp only [Act.put, List.setIfInBounds_toArray, List.set_cons_zero, List.set_cons_succ]
            refine region_take 7 (some 21) (v := ?_) rfl rfl (by kernel_rfl) (by kernel_rfl) (by kernel_rfl) (fun _ _ _ h => h) rfl ?_ hS ?_
            rotate_left
            · (intro w9 hS9; go_simp; try (with_reducible rfl))
            simp only [Act.put, List.setIfInBounds_toArray, List.set_cons_zero, List.set_cons_succ]
            refine region_skip 8 (some 22) rfl rfl (by kernel_rfl) (by kernel_rfl) (by kernel_rfl) (fun _ _ _ h => h) rfl hS ?_
            simp only [Act.put, List.setIfInBounds_toArray, List.set_cons_zero, List.set_cons_succ]
            refine region_skip 9 (some 23) rfl rfl (by kernel_rfl) (by kernel_rfl) (by kernel_rfl) (fun _ _ _ h => h) rfl hS ?_
            simp only [Act.put, List.setIfInBounds_toArray, List.set_cons_zero, List.set_cons_succ]
            refine region_skip 10 (some 24) rfl rfl (by kernel_rfl) (by kernel_rfl) (by kernel_rfl) (fun _ _ _ h => h) rfl hS ?_
            simp only [Act.put, List.setIfInBounds_toArray, List.set_cons_zero, List.set_cons_succ]
            refine region_skip 11 (some 25) rfl rfl (by kernel_rfl) (by kernel_rfl) (by kernel_rfl) (fun _ _ _ h => h) rfl hS ?_
            simp only [Act.put, List.setIfInBounds_toArray, List.set_cons_zero, List.set_cons_succ]
            refine region_skip 12 (some 26) rfl rfl (by kernel_rfl) (by kernel_rfl) (by kernel_rfl) (fun _ _ _ h => h) rfl hS ?_
            simp only [Act.put, List.setIfInBounds_toArray, List.set_cons_zero, List.set_cons_succ]
            refine region_skip 13 (some 27) rfl rfl (by kernel_rfl) (by kernel_rfl) (by kernel_rfl) (fun _ _ _ h => h) rfl hS ?_
            simp only [Act.put, List.setIfInBounds_toArray, List.set_cons_zero, List.set_cons_succ]
            refine region_skip 14 (some 28) rfl rfl (by kernel_rfl) (by kernel_rfl) (by kernel_rfl) (fun _ _ _ h => h) rfl hS ?_
            simp only [Act.put, List.setIfInBounds_toArray, List.set_cons_zero, List.set_cons_succ]
            refine region_skip 15 (some 29) rfl rfl (by kernel_rfl) (by kernel_rfl) (by kernel_rfl) (fun _ _ _ h => h) rfl hS ?_
            simp only [Act.put, List.setIfInBounds_toArray, List.set_cons_zero, List.set_cons_succ]
            refine region_skip 16 (some 30) rfl rfl (by kernel_rfl) (by kernel_rfl) (by kernel_rfl) (fun _ _ _ h => h) rfl hS ?_
            simp only [Act.put, List.setIfInBounds_toArray, List.set_cons_zero, List.set_cons_succ]
            refine region_take 17 (some 31) (v := ?_) rfl rfl (by kernel_rfl) (by kernel_rfl) (by kernel_rfl) (fun _ _ _ h => h) rfl ?_ hS ?_
            rotate_left
            · (intro w9 hS9; go_simp; try (with_reducible rfl))
            simp only [Act.put, List.setIfInBounds_toArray, List.set_cons_zero, List.set_cons_succ]
            refine region_take 18 (some 32) (v := ?_) rfl rfl (by kernel_rfl) (by kernel_rfl) (by kernel_rfl) (fun _ _ _ h => h) rfl ?_ hS ?_
            rotate_left
            · (intro w9 hS9; go_simp; try (with_reducible rfl))
            simp only [Act.put, List.setIfInBounds_toArray, List.set_cons_zero, List.set_cons_succ]
            refine region_take 19 (some 33) (v := ?_) rfl rfl (by kernel_rfl) (by kernel_rfl) (by kernel_rfl) (fun _ _ _ h => h) rfl ?_ hS ?_
            rotate_left
            · (intro w9 hS9; go_simp; try (with_reducible rfl))
            simp only [Act.put, List.setIfInBounds_toArray, List.set_cons_zero, List.set_cons_succ]
            refine region_take 20 (some 34) (v := ?_) rfl rfl (by kernel_rfl) (by kernel_rfl) (by kernel_rfl) (fun _ _ _ h => h) rfl ?_ hS ?_
            rotate_left
            · (intro w9 hS9; go_simp; try (with_reducible rfl))
            simp only [Act.put, List.setIfInBounds_toArray, List.set_cons_zero, List.set_cons_succ]
            refine region_take 21 (some 35) (v := ?_) rfl rfl (by kernel_rfl) (by kernel_rfl) (by kernel_rfl) (fun _ _ _ h => h) rfl ?_ hS ?_
            rotate_left
            · (intro w9 hS9; go_simp; try (with_reducible rfl))
            simp only [Act.put, List.setIfInBounds_toArray, List.set_cons_zero, List.set_cons_succ]
            refine region_take 22 (some 36) (v := ?_) rfl rfl (by kernel_rfl) (by kernel_rfl) (by kernel_rfl) (fun _ _ _ h => h) rfl ?_ hS ?_
            rotate_left
            · (intro w9 hS9; go_simp; try (with_reducible rfl))
            simp only [Act.put, List.setIfInBounds_toArray, List.set_cons_zero, List.set_cons_succ]
            refine region_call 23 rfl (by kernel_rfl) (fun K hK => ?_)
            go_simp
            refine (cvH.out _ (hS.2.2)).mono ?_
            rintro e w8 ⟨rfl, hb8⟩
            refine hK.out _ _ (VB3.call hS hb8) ?_
            clear hS hK
            intro hS
            refine region_take 24 (some 38) (v := ?_) rfl rfl (by kernel_rfl) (by kernel_rfl) (by kernel_rfl) (fun _ _ _ h => h) rfl ?_ hS ?_
            rotate_left
            · (intro w9 hS9; go_simp; try (with_reducible rfl))
            simp only [Act.put, List.setIfInBounds_toArray, List.set_cons_zero, List.set_cons_succ]
            refine region_take 25 (some 39) (v := ?_) rfl rfl (by kernel_rfl) (by kernel_rfl) (by kernel_rfl) (fun _ _ _ h => h) rfl ?_ hS ?_
            rotate_left
            · (intro w9 hS9; go_simp; try (with_reducible rfl))
            simp only [Act.put, List.setIfInBounds_toArray, List.set_cons_zero, List.set_cons_succ]
            refine region_take 26 (some 40) (v := ?_) rfl rfl (by kernel_rfl) (by kernel_rfl) (by kernel_rfl) (fun _ _ _ h => h) rfl ?_ hS ?_
            rotate_left
            · (intro w9 hS9; go_simp; try (with_reducible rfl))
            simp only [Act.put, List.setIfInBounds_toArray, List.set_cons_zero, List.set_cons_succ]
            refine region_take 27 (some 41) (v := ?_) rfl rfl (by kernel_rfl) (by kernel_rfl) (by kernel_rfl) (fun _ _ _ h => h) rfl ?_ hS ?_
            rotate_left
            · (intro w9 hS9; go_simp; try (with_reducible rfl))
            simp only [Act.put, List.setIfInBounds_toArray, List.set_cons_zero, List.set_cons_succ]
            refine region_take 28 (some 42) (v := ?_) rfl rfl (by kernel_rfl) (by kernel_rfl) (by kernel_rfl) (fun _ _ _ h => h) rfl ?_ hS ?_
            rotate_left
            · (intro w9 hS9; go_simp; try (with_reducible rfl))
            simp only [Act.put, List.setIfInBounds_toArray, List.set_cons_zero, List.set_cons_succ]
            refine region_take 29 (some 43) (v := ?_) rfl rfl (by kernel_rfl) (by kernel_rfl) (by kernel_rfl) (fun _ _ _ h => h) rfl ?_ hS ?_
            rotate_left
            · (intro w9 hS9; go_simp; try (with_reducible rfl))
            simp only [Act.put, List.setIfInBounds_toArray, List.set_cons_zero, List.set_cons_succ]
            refine region_take 30 (some 44) (v := ?_) rfl rfl (by kernel_rfl) (by kernel_rfl) (by kernel_rfl) (fun _ _ _ h => h) rfl ?_ hS ?_
            rotate_left
            · (intro w9 hS9; go_simp; try (with_reducible rfl))
            simp only [Act.put, List.setIfInBounds_toArray, List.set_cons_zero, List.set_cons_succ]
            refine region_call 31 rfl (by kernel_rfl) (fun K hK => ?_)
            go_simp
            refine (ccH.out _).mono ?_
            rintro e w10 ⟨rfl, rfl⟩
            refine hK.out _ _ hS ?_
            clear hK
            intro hS
            refine region_call 32 rfl (by kernel_rfl) (fun K hK => ?_)
            go_simp
            refine hK.out _ _ (VB3.call hS (below1 _ _)) ?_
            clear hS hK
            intro hS
            refine region_call 33 rfl (by kernel_rfl) (fun K hK => ?_)
            go_simp
            refine (ceH.out _ (hS.2.2) _ (code_arg _ hcr)).mono ?_
            rintro e w11 ⟨rfl, hd11⟩
            refine hK.out _ _ (VB3.call hS (hd11.below _)) ?_
            clear hS hK
            intro hS
            refine region_take 34 (some 48) (v := ?_) rfl rfl (by kernel_rfl) (by kernel_rfl) (by kernel_rfl) (fun _ _ _ h => h) rfl ?_ hS ?_
            rotate_left
            · (intro w9 hS9; go_simp; try (with_reducible rfl))
            simp only [Act.put, List.setIfInBounds_toArray, List.set_cons_zero, List.set_cons_succ]
            refine wpAnyH_done (by kernel_rfl) ?_ _
            have B8 := hS.2.2
            clear hS
            cases be with
            | true =>
              go_wp2_with fail
              go_ret
              rw [hnoH.out (by rw [hboH.out]; rfl)]
              exact ⟨rfl, bcall hB2H.out B8⟩
            | false =>
              go_wp2_with fail
              go_roundw
              case rel => exact ⟨0 + 1, by first | rfl | go_num, by omega, hyesH.out (by rw [hboH.out]; rfl), bcall hB2H.out B8⟩
              case measure => simp [intOf]; omega
        · have hk0 : (0 : Int) < (k : Int) := by omega
          have y0 := cell_later hbx (hpv (by omega))
          obtain ⟨j, rfl⟩ : ∃ j, k = j + 1 := ⟨k - 1, by omega⟩
          rw [Nat.add_sub_cancel] at y0
          rw [decide_eq_false h0, Bool.false_or] at hbo
          have ej : ((j + 1 : Nat) : Int) - 1 = (j : Int) := by omega
          have hj1 : ((j : Int) < (L.length : Int)) = True := eq_true (by omega)
          have ewj : IntKind.i64.wrap (j : Int) = (j : Int) := IntWalk.i64_in _ (by omega)
          clear hpv
          by_cases hpl : pv < v
          · rw [decide_eq_true hpl, Bool.true_and] at hbo
            have hpl' : (v ≤ pv) = False := eq_false (by omega)
            cases bv with
            | false =>
              have hfin := hno (by rw [hbo]; rfl)
              have hfinH := Lib.hid hfin
              clear hno hyes hbo hfin ceH ccH hbw hcr
              go_wp2_with fail
              try rw [hWx]
              refine wp_region_held_drew (S := fun w' => w'.cell? ⟨wr.heap.size, 0, none⟩ = some (.int .i64 v) ∧ w'.cell? ⟨wr.heap.size, 1, none⟩ = some (.slice at_ to.length ct) ∧ w'.cell? ⟨bl, ol + j * 2, none⟩ = some (.int .i64 pv) ∧ Below Wx.heap.size Wx w') (by kernel_rfl) ⟨x0, x1, y0, (Below.refl _ _).drew⟩ (fun hS => ?_)
              refine region_take 0 (some 14) (v := ?_) rfl rfl (by kernel_rfl) (by kernel_rfl) (by kernel_rfl) (fun _ _ _ h => h) rfl ?_ hS ?_
              rotate_left
              · (intro w9 hS9; go_simp; try (with_reducible rfl))
              simp only [Act.put, List.setIfInBounds_toArray, List.set_cons_zero, List.set_cons_succ]
              refine region_take 1 (some 15) (v := ?_) rfl rfl (by kernel_rfl) (by kernel_rfl) (by kernel_rfl) (fun _ _ _ h => h) rfl ?_ hS ?_
              rotate_left
              · (intro w9 hS9; go_simp; try (with_reducible rfl))
              simp only [Act.put, List.setIfInBounds_toArray, List.set_cons_zero, List.set_cons_succ]
              refine region_call 2 rfl (by kernel_rfl) (fun K hK => ?_)
              go_simp
              refine (cwH.out _).mono ?_
              rintro e w8 ⟨rfl, rfl⟩
              refine hK.out _ _ hS ?_
              clear hK
              intro hS
              refine region_take 3 (some 17) (v := ?_) rfl rfl (by kernel_rfl) (by kernel_rfl) (by kernel_rfl) (fun _ _ _ h => h) rfl ?_ hS ?_
              rotate_left
              · (intro w9 hS9; go_simp; try (with_reducible rfl))
              simp only [Act.put, List.setIfInBounds_toArray, List.set_cons_zero, List.set_cons_succ]
              refine region_take 4 (some 18) (v := ?_) rfl rfl (by kernel_rfl) (by kernel_rfl) (by kernel_rfl) (fun _ _ _ h => h) rfl ?_ hS ?_
              rotate_left
              · (intro w9 hS9; go_simp; try (with_reducible rfl))
              simp only [Act.put, List.setIfInBounds_toArray, List.set_cons_zero, List.set_cons_succ]
              refine region_take 5 (some 19) (v := ?_) rfl rfl (by kernel_rfl) (by kernel_rfl) (by kernel_rfl) (fun _ _ _ h => h) rfl ?_ hS ?_
              rotate_left
              · (intro w9 hS9; go_simp; try (with_reducible rfl))
              simp only [Act.put, List.setIfInBounds_toArray, List.set_cons_zero, List.set_cons_succ]
              refine region_take 6 (some 20) (v := ?_) rfl rfl (by kernel_rfl) (by kernel_rfl) (by kernel_rfl) (fun _ _ _ h => h) rfl ?_ hS ?_
              rotate_left
              · (intro w9 hS9; go_simp; try (with_reducible rfl))
              simp only [Act.put, List.setIfInBounds_toArray, List.set_cons_zero, List.set_cons_succ]
              refine region_take 7 (some 21) (v := ?_) rfl rfl (by kernel_rfl) (by kernel_rfl) (by kernel_rfl) (fun _ _ _ h => h) rfl ?_ hS ?_
              rotate_left
              · (intro w9 hS9; go_simp; try (with_reducible rfl))
              simp only [Act.put, List.setIfInBounds_toArray, List.set_cons_zero, List.set_cons_succ]
              refine region_take 8 (some 22) (v := ?_) rfl rfl (by kernel_rfl) (by kernel_rfl) (by kernel_rfl) (fun _ _ _ h => h) rfl ?_ hS ?_
              rotate_left
              · (intro w9 hS9; go_simp; try (with_reducible rfl))
              simp only [Act.put, List.setIfInBounds_toArray, List.set_cons_zero, List.set_cons_succ]
              refine region_take 9 (some 23) (v := ?_) rfl rfl (by kernel_rfl) (by kernel_rfl) (by kernel_rfl) (fun _ _ _ h => h) rfl ?_ hS ?_
              rotate_left
              · (intro w9 hS9; go_simp; try (with_reducible rfl))
              simp only [Act.put, List.setIfInBounds_toArray, List.set_cons_zero, List.set_cons_succ]
              refine region_take 10 (some 24) (v := ?_) rfl rfl (by kernel_rfl) (by kernel_rfl) (by kernel_rfl) (fun _ _ _ h => h) rfl ?_ hS ?_
              rotate_left
              · (intro w9 hS9; go_simp; try (with_reducible rfl))
              simp only [Act.put, List.setIfInBounds_toArray, List.set_cons_zero, List.set_cons_succ]
              refine region_take 11 (some 25) (v := ?_) rfl rfl (by kernel_rfl) (by kernel_rfl) (by kernel_rfl) (fun _ _ _ h => h) rfl ?_ hS ?_
              rotate_left
              · (intro w9 hS9; go_simp; try (with_reducible rfl))
              simp only [Act.put, List.setIfInBounds_toArray, List.set_cons_zero, List.set_cons_succ]
              refine region_take 12 (some 26) (v := ?_) rfl rfl (by kernel_rfl) (by kernel_rfl) (by kernel_rfl) (fun _ _ _ h => h) rfl ?_ hS ?_
              rotate_left
              · (intro w9 hS9; go_simp; try (with_reducible rfl))
              simp only [Act.put, List.setIfInBounds_toArray, List.set_cons_zero, List.set_cons_succ]
              refine region_take 13 (some 27) (v := ?_) rfl rfl (by kernel_rfl) (by kernel_rfl) (by kernel_rfl) (fun _ _ _ h => h) rfl ?_ hS ?_
              rotate_left
              · (intro w9 hS9; go_simp; try (with_reducible rfl))
              simp only [Act.put, List.setIfInBounds_toArray, List.set_cons_zero, List.set_cons_succ]
              refine region_take 14 (some 28) (v := ?_) rfl rfl (by kernel_rfl) (by kernel_rfl) (by kernel_rfl) (fun _ _ _ h => h) rfl ?_ hS ?_
              rotate_left
              · (intro w9 hS9; go_simp; try (with_reducible rfl))
              simp only [Act.put, List.setIfInBounds_toArray, List.set_cons_zero, List.set_cons_succ]
              refine region_take 15 (some 29) (v := ?_) rfl rfl (by kernel_rfl) (by kernel_rfl) (by kernel_rfl) (fun _ _ _ h => h) rfl ?_ hS ?_
              rotate_left
              · (intro w9 hS9; go_simp; try (with_reducible rfl))
              simp only [Act.put, List.setIfInBounds_toArray, List.set_cons_zero, List.set_cons_succ]
              refine region_take 16 (some 30) (v := ?_) rfl rfl (by kernel_rfl) (by kernel_rfl) (by kernel_rfl) (fun _ _ _ h => h) rfl ?_ hS ?_
              rotate_left
              · (intro w9 hS9; go_simp; try (with_reducible rfl))
              simp only [Act.put, List.setIfInBounds_toArray, List.set_cons_zero, List.set_cons_succ]
              refine region_take 17 (some 31) (v := ?_) rfl rfl (by kernel_rfl) (by kernel_rfl) (by kernel_rfl) (fun _ _ _ h => h) rfl ?_ hS ?_
              rotate_left
              · (intro w9 hS9; go_simp; try (with_reducible rfl))
              simp only [Act.put, List.setIfInBounds_toArray, List.set_cons_zero, List.set_cons_succ]
              refine region_take 18 (some 32) (v := ?_) rfl rfl (by kernel_rfl) (by kernel_rfl) (by kernel_rfl) (fun _ _ _ h => h) rfl ?_ hS ?_
              rotate_left
              · (intro w9 hS9; go_simp; try (with_reducible rfl))
              simp only [Act.put, List.setIfInBounds_toArray, List.set_cons_zero, List.set_cons_succ]
              refine region_take 19 (some 33) (v := ?_) rfl rfl (by kernel_rfl) (by kernel_rfl) (by kernel_rfl) (fun _ _ _ h => h) rfl ?_ hS ?_
              rotate_left
              · (intro w9 hS9; go_simp; try (with_reducible rfl))
              simp only [Act.put, List.setIfInBounds_toArray, List.set_cons_zero, List.set_cons_succ]
              refine region_take 20 (some 34) (v := ?_) rfl rfl (by kernel_rfl) (by kernel_rfl) (by kernel_rfl) (fun _ _ _ h => h) rfl ?_ hS ?_
              rotate_left
              · (intro w9 hS9; go_simp; try (with_reducible rfl))
              simp only [Act.put, List.setIfInBounds_toArray, List.set_cons_zero, List.set_cons_succ]
              refine region_take 21 (some 35) (v := ?_) rfl rfl (by kernel_rfl) (by kernel_rfl) (by kernel_rfl) (fun _ _ _ h => h) rfl ?_ hS ?_
              rotate_left
              · (intro w9 hS9; go_simp; try (with_reducible rfl))
              simp only [Act.put, List.setIfInBounds_toArray, List.set_cons_zero, List.set_cons_succ]
              refine region_take 22 (some 36) (v := ?_) rfl rfl (by kernel_rfl) (by kernel_rfl) (by kernel_rfl) (fun _ _ _ h => h) rfl ?_ hS ?_
              rotate_left
              · (intro w9 hS9; go_simp; try (with_reducible rfl))
              simp only [Act.put, List.setIfInBounds_toArray, List.set_cons_zero, List.set_cons_succ]
              refine region_call 23 rfl (by kernel_rfl) (fun K hK => ?_)
              go_simp
              refine (cvH.out _ (hS.2.2.2)).mono ?_
              rintro e w8 ⟨rfl, hb8⟩
              refine hK.out _ _ (VB4.call hS hb8) ?_
              clear hS hK
              intro hS
              refine region_take 24 (some 38) (v := ?_) rfl rfl (by kernel_rfl) (by kernel_rfl) (by kernel_rfl) (fun _ _ _ h => h) rfl ?_ hS ?_
              rotate_left
              · (intro w9 hS9; go_simp; try (with_reducible rfl))
              simp only [Act.put, List.setIfInBounds_toArray, List.set_cons_zero, List.set_cons_succ]
              refine region_take 25 (some 39) (v := ?_) rfl rfl (by kernel_rfl) (by kernel_rfl) (by kernel_rfl) (fun _ _ _ h => h) rfl ?_ hS ?_
              rotate_left
              · (intro w9 hS9; go_simp; try (with_reducible rfl))
              simp only [Act.put, List.setIfInBounds_toArray, List.set_cons_zero, List.set_cons_succ]
              refine region_take 26 (some 40) (v := ?_) rfl rfl (by kernel_rfl) (by kernel_rfl) (by kernel_rfl) (fun _ _ _ h => h) rfl ?_ hS ?_
              rotate_left
              · (intro w9 hS9; go_simp; try (with_reducible rfl))
              simp only [Act.put, List.setIfInBounds_toArray, List.set_cons_zero, List.set_cons_succ]
              refine region_skip 27 (some 41) rfl rfl (by kernel_rfl) (by kernel_rfl) (by kernel_rfl) (fun _ _ _ h => h) rfl hS ?_
              simp only [Act.put, List.setIfInBounds_toArray, List.set_cons_zero, List.set_cons_succ]
              refine region_skip 28 (some 42) rfl rfl (by kernel_rfl) (by kernel_rfl) (by kernel_rfl) (fun _ _ _ h => h) rfl hS ?_
              simp only [Act.put, List.setIfInBounds_toArray, List.set_cons_zero, List.set_cons_succ]
              refine region_skip 29 (some 43) rfl rfl (by kernel_rfl) (by kernel_rfl) (by kernel_rfl) (fun _ _ _ h => h) rfl hS ?_
              simp only [Act.put, List.setIfInBounds_toArray, List.set_cons_zero, List.set_cons_succ]
              refine region_skip 30 (some 44) rfl rfl (by kernel_rfl) (by kernel_rfl) (by kernel_rfl) (fun _ _ _ h => h) rfl hS ?_
              simp only [Act.put, List.setIfInBounds_toArray, List.set_cons_zero, List.set_cons_succ]
              refine region_skip 31 (some 45) rfl rfl (by kernel_rfl) (by kernel_rfl) (by kernel_rfl) (fun _ _ _ h => h) rfl hS ?_
              simp only [Act.put, List.setIfInBounds_toArray, List.set_cons_zero, List.set_cons_succ]
              refine region_skip 32 (some 46) rfl rfl (by kernel_rfl) (by kernel_rfl) (by kernel_rfl) (fun _ _ _ h => h) rfl hS ?_
              simp only [Act.put, List.setIfInBounds_toArray, List.set_cons_zero, List.set_cons_succ]
              refine region_skip 33 (some 47) rfl rfl (by kernel_rfl) (by kernel_rfl) (by kernel_rfl) (fun _ _ _ h => h) rfl hS ?_
              simp only [Act.put, List.setIfInBounds_toArray, List.set_cons_zero, List.set_cons_succ]
              refine region_take 34 (some 48) (v := ?_) rfl rfl (by kernel_rfl) (by kernel_rfl) (by kernel_rfl) (fun _ _ _ h => h) rfl ?_ hS ?_
              rotate_left
              · (intro w9 hS9; go_simp; try (with_reducible rfl))
              simp only [Act.put, List.setIfInBounds_toArray, List.set_cons_zero, List.set_cons_succ]
              refine wpAnyH_done (by kernel_rfl) ?_ _
              have B8 := hS.2.2.2
              clear hS
              go_wp2_with fail
              go_ret
              rw [hfinH.out]
              exact ⟨rfl, bcall hB2H.out B8⟩
            | true =>
              rw [Bool.true_and] at hbo
              have hnoH := Lib.hid hno
              have hyesH := Lib.hid hyes
              have hboH := Lib.hid hbo
              clear hno hyes hbo hbw
              go_wp2_with fail
              try rw [hWx]
              refine wp_region_held_drew (S := fun w' => w'.cell? ⟨wr.heap.size, 0, none⟩ = some (.int .i64 v) ∧ w'.cell? ⟨wr.heap.size, 1, none⟩ = some (.slice at_ to.length ct) ∧ w'.cell? ⟨bl, ol + j * 2, none⟩ = some (.int .i64 pv) ∧ Below Wx.heap.size Wx w') (by kernel_rfl) ⟨x0, x1, y0, (Below.refl _ _).drew⟩ (fun hS => ?_)
              refine region_take 0 (some 14) (v := ?_) rfl rfl (by kernel_rfl) (by kernel_rfl) (by kernel_rfl) (fun _ _ _ h => h) rfl ?_ hS ?_
              rotate_left
              · (intro w9 hS9; go_simp; try (with_reducible rfl))
              simp only [Act.put, List.setIfInBounds_toArray, List.set_cons_zero, List.set_cons_succ]
              refine region_take 1 (some 15) (v := ?_) rfl rfl (by kernel_rfl) (by kernel_rfl) (by kernel_rfl) (fun _ _ _ h => h) rfl ?_ hS ?_
              rotate_left
              · (intro w9 hS9; go_simp; try (with_reducible rfl))
              simp only [Act.put, List.setIfInBounds_toArray, List.set_cons_zero, List.set_cons_succ]
              refine region_call 2 rfl (by kernel_rfl) (fun K hK => ?_)
              go_simp
              refine (cwH.out _).mono ?_
              rintro e w8 ⟨rfl, rfl⟩
              refine hK.out _ _ hS ?_
              clear hK
              intro hS
              refine region_take 3 (some 17) (v := ?_) rfl rfl (by kernel_rfl) (by kernel_rfl) (by kernel_rfl) (fun _ _ _ h => h) rfl ?_ hS ?_
              rotate_left
              · (intro w9 hS9; go_simp; try (with_reducible rfl))
              simp only [Act.put, List.setIfInBounds_toArray, List.set_cons_zero, List.set_cons_succ]
              refine region_take 4 (some 18) (v := ?_) rfl rfl (by kernel_rfl) (by kernel_rfl) (by kernel_rfl) (fun _ _ _ h => h) rfl ?_ hS ?_
              rotate_left
              · (intro w9 hS9; go_simp; try (with_reducible rfl))
              simp only [Act.put, List.setIfInBounds_toArray, List.set_cons_zero, List.set_cons_succ]
              refine region_take 5 (some 19) (v := ?_) rfl rfl (by kernel_rfl) (by kernel_rfl) (by kernel_rfl) (fun _ _ _ h => h) rfl ?_ hS ?_
              rotate_left
              · (intro w9 hS9; go_simp; try (with_reducible rfl))
              simp only [Act.put, List.setIfInBounds_toArray, List.set_cons_zero, List.set_cons_succ]
              refine region_take 6 (some 20) (v := ?_) rfl rfl (by kernel_rfl) (by kernel_rfl) (by kernel_rfl) (fun _ _ _ h => h) rfl ?_ hS ?_
              rotate_left
              · (intro w9 hS9; go_simp; try (with_reducible rfl))
              simp only [Act.put, List.setIfInBounds_toArray, List.set_cons_zero, List.set_cons_succ]
              refine region_take 7 (some 21) (v := ?_) rfl rfl (by kernel_rfl) (by kernel_rfl) (by kernel_rfl) (fun _ _ _ h => h) rfl ?_ hS ?_
              rotate_left
              · (intro w9 hS9; go_simp; try (with_reducible rfl))
              simp only [Act.put, List.setIfInBounds_toArray, List.set_cons_zero, List.set_cons_succ]
              refine region_take 8 (some 22) (v := ?_) rfl rfl (by kernel_rfl) (by kernel_rfl) (by kernel_rfl) (fun _ _ _ h => h) rfl ?_ hS ?_
              rotate_left
              · (intro w9 hS9; go_simp; try (with_reducible rfl))
              simp only [Act.put, List.setIfInBounds_toArray, List.set_cons_zero, List.set_cons_succ]
              refine region_take 9 (some 23) (v := ?_) rfl rfl (by kernel_rfl) (by kernel_rfl) (by kernel_rfl) (fun _ _ _ h => h) rfl ?_ hS ?_
              rotate_left
              · (intro w9 hS9; go_simp; try (with_reducible rfl))
              simp only [Act.put, List.setIfInBounds_toArray, List.set_cons_zero, List.set_cons_succ]
              refine region_take 10 (some 24) (v := ?_) rfl rfl (by kernel_rfl) (by kernel_rfl) (by kernel_rfl) (fun _ _ _ h => h) rfl ?_ hS ?_
              rotate_left
              · (intro w9 hS9; go_simp; try (with_reducible rfl))
              simp only [Act.put, List.setIfInBounds_toArray, List.set_cons_zero, List.set_cons_succ]
              refine region_take 11 (some 25) (v := ?_) rfl rfl (by kernel_rfl) (by kernel_rfl) (by kernel_rfl) (fun _ _ _ h => h) rfl ?_ hS ?_
              rotate_left
              · (intro w9 hS9; go_simp; try (with_reducible rfl))
              simp only [Act.put, List.setIfInBounds_toArray, List.set_cons_zero, List.set_cons_succ]
              refine region_take 12 (some 26) (v := ?_) rfl rfl (by kernel_rfl) (by kernel_rfl) (by kernel_rfl) (fun _ _ _ h => h) rfl ?_ hS ?_
              rotate_left
              · (intro w9 hS9; go_simp; try (with_reducible rfl))
              simp only [Act.put, List.setIfInBounds_toArray, List.set_cons_zero, List.set_cons_succ]
              refine region_take 13 (some 27) (v := ?_) rfl rfl (by kernel_rfl) (by kernel_rfl) (by kernel_rfl) (fun _ _ _ h => h) rfl ?_ hS ?_
              rotate_left
              · (intro w9 hS9; go_simp; try (with_reducible rfl))
              simp only [Act.put, List.setIfInBounds_toArray, List.set_cons_zero, List.set_cons_succ]
              refine region_take 14 (some 28) (v := ?_) rfl rfl (by kernel_rfl) (by kernel_rfl) (by kernel_rfl) (fun _ _ _ h => h) rfl ?_ hS ?_
              rotate_left
              · (intro w9 hS9; go_simp; try (with_reducible rfl))
              simp only [Act.put, List.setIfInBounds_toArray, List.set_cons_zero, List.set_cons_succ]
              refine region_take 15 (some 29) (v := ?_) rfl rfl (by kernel_rfl) (by kernel_rfl) (by kernel_rfl) (fun _ _ _ h => h) rfl ?_ hS ?_
              rotate_left
              · (intro w9 hS9; go_simp; try (with_reducible rfl))
              simp only [Act.put, List.setIfInBounds_toArray, List.set_cons_zero, List.set_cons_succ]
              refine region_take 16 (some 30) (v := ?_) rfl rfl (by kernel_rfl) (by kernel_rfl) (by kernel_rfl) (fun _ _ _ h => h) rfl ?_ hS ?_
              rotate_left
              · (intro w9 hS9; go_simp; try (with_reducible rfl))
              simp only [Act.put, List.setIfInBounds_toArray, List.set_cons_zero, List.set_cons_succ]
              refine region_take 17 (some 31) (v := ?_) rfl rfl (by kernel_rfl) (by kernel_rfl) (by kernel_rfl) (fun _ _ _ h => h) rfl ?_ hS ?_
              rotate_left
              · (intro w9 hS9; go_simp; try (with_reducible rfl))
              simp only [Act.put, List.setIfInBounds_toArray, List.set_cons_zero, List.set_cons_succ]
              refine region_take 18 (some 32) (v := ?_) rfl rfl (by kernel_rfl) (by kernel_rfl) (by kernel_rfl) (fun _ _ _ h => h) rfl ?_ hS ?_
              rotate_left
              · (intro w9 hS9; go_simp; try (with_reducible rfl))
              simp only [Act.put, List.setIfInBounds_toArray, List.set_cons_zero, List.set_cons_succ]
              refine region_take 19 (some 33) (v := ?_) rfl rfl (by kernel_rfl) (by kernel_rfl) (by kernel_rfl) (fun _ _ _ h => h) rfl ?_ hS ?_
              rotate_left
              · (intro w9 hS9; go_simp; try (with_reducible rfl))
              simp only [Act.put, List.setIfInBounds_toArray, List.set_cons_zero, List.set_cons_succ]
              refine region_take 20 (some 34) (v := ?_) rfl rfl (by kernel_rfl) (by kernel_rfl) (by kernel_rfl) (fun _ _ _ h => h) rfl ?_ hS ?_
              rotate_left
              · (intro w9 hS9; go_simp; try (with_reducible rfl))
              simp only [Act.put, List.setIfInBounds_toArray, List.set_cons_zero, List.set_cons_succ]
              refine region_take 21 (some 35) (v := ?_) rfl rfl (by kernel_rfl) (by kernel_rfl) (by kernel_rfl) (fun _ _ _ h => h) rfl ?_ hS ?_
              rotate_left
              · (intro w9 hS9; go_simp; try (with_reducible rfl))
              simp only [Act.put, List.setIfInBounds_toArray, List.set_cons_zero, List.set_cons_succ]
              refine region_take 22 (some 36) (v := ?_) rfl rfl (by kernel_rfl) (by kernel_rfl) (by kernel_rfl) (fun _ _ _ h => h) rfl ?_ hS ?_
              rotate_left
              · (intro w9 hS9; go_simp; try (with_reducible rfl))
              simp only [Act.put, List.setIfInBounds_toArray, List.set_cons_zero, List.set_cons_succ]
              refine region_call 23 rfl (by kernel_rfl) (fun K hK => ?_)
              go_simp
              refine (cvH.out _ (hS.2.2.2)).mono ?_
              rintro e w8 ⟨rfl, hb8⟩
              refine hK.out _ _ (VB4.call hS hb8) ?_
              clear hS hK
              intro hS
              refine region_take 24 (some 38) (v := ?_) rfl rfl (by kernel_rfl) (by kernel_rfl) (by kernel_rfl) (fun _ _ _ h => h) rfl ?_ hS ?_
              rotate_left
              · (intro w9 hS9; go_simp; try (with_reducible rfl))
              simp only [Act.put, List.setIfInBounds_toArray, List.set_cons_zero, List.set_cons_succ]
              refine region_take 25 (some 39) (v := ?_) rfl rfl (by kernel_rfl) (by kernel_rfl) (by kernel_rfl) (fun _ _ _ h => h) rfl ?_ hS ?_
              rotate_left
              · (intro w9 hS9; go_simp; try (with_reducible rfl))
              simp only [Act.put, List.setIfInBounds_toArray, List.set_cons_zero, List.set_cons_succ]
              refine region_take 26 (some 40) (v := ?_) rfl rfl (by kernel_rfl) (by kernel_rfl) (by kernel_rfl) (fun _ _ _ h => h) rfl ?_ hS ?_
              rotate_left
              · (intro w9 hS9; go_simp; try (with_reducible rfl))
              simp only [Act.put, List.setIfInBounds_toArray, List.set_cons_zero, List.set_cons_succ]
              refine region_take 27 (some 41) (v := ?_) rfl rfl (by kernel_rfl) (by kernel_rfl) (by kernel_rfl) (fun _ _ _ h => h) rfl ?_ hS ?_
              rotate_left
              · (intro w9 hS9; go_simp; try (with_reducible rfl))
              simp only [Act.put, List.setIfInBounds_toArray, List.set_cons_zero, List.set_cons_succ]
              refine region_take 28 (some 42) (v := ?_) rfl rfl (by kernel_rfl) (by kernel_rfl) (by kernel_rfl) (fun _ _ _ h => h) rfl ?_ hS ?_
              rotate_left
              · (intro w9 hS9; go_simp; try (with_reducible rfl))
              simp only [Act.put, List.setIfInBounds_toArray, List.set_cons_zero, List.set_cons_succ]
              refine region_take 29 (some 43) (v := ?_) rfl rfl (by kernel_rfl) (by kernel_rfl) (by kernel_rfl) (fun _ _ _ h => h) rfl ?_ hS ?_
              rotate_left
              · (intro w9 hS9; go_simp; try (with_reducible rfl))
              simp only [Act.put, List.setIfInBounds_toArray, List.set_cons_zero, List.set_cons_succ]
              refine region_take 30 (some 44) (v := ?_) rfl rfl (by kernel_rfl) (by kernel_rfl) (by kernel_rfl) (fun _ _ _ h => h) rfl ?_ hS ?_
              rotate_left
              · (intro w9 hS9; go_simp; try (with_reducible rfl))
              simp only [Act.put, List.setIfInBounds_toArray, List.set_cons_zero, List.set_cons_succ]
              refine region_call 31 rfl (by kernel_rfl) (fun K hK => ?_)
              go_simp
              refine (ccH.out _).mono ?_
              rintro e w10 ⟨rfl, rfl⟩
              refine hK.out _ _ hS ?_
              clear hK
              intro hS
              refine region_call 32 rfl (by kernel_rfl) (fun K hK => ?_)
              go_simp
              refine hK.out _ _ (VB4.call hS (below1 _ _)) ?_
              clear hS hK
              intro hS
              refine region_call 33 rfl (by kernel_rfl) (fun K hK => ?_)
              go_simp
              refine (ceH.out _ (hS.2.2.2) _ (code_arg _ hcr)).mono ?_
              rintro e w11 ⟨rfl, hd11⟩
              refine hK.out _ _ (VB4.call hS (hd11.below _)) ?_
              clear hS hK
              intro hS
              refine region_take 34 (some 48) (v := ?_) rfl rfl (by kernel_rfl) (by kernel_rfl) (by kernel_rfl) (fun _ _ _ h => h) rfl ?_ hS ?_
              rotate_left
              · (intro w9 hS9; go_simp; try (with_reducible rfl))
              simp only [Act.put, List.setIfInBounds_toArray, List.set_cons_zero, List.set_cons_succ]
              refine wpAnyH_done (by kernel_rfl) ?_ _
              have B8 := hS.2.2.2
              clear hS
              cases be with
              | true =>
                go_wp2_with fail
                go_ret
                rw [hnoH.out (by rw [hboH.out]; rfl)]
                exact ⟨rfl, bcall hB2H.out B8⟩
              | false =>
                go_wp2_with fail
                go_roundw
                case rel => exact ⟨j + 1 + 1, by go_num, by omega, hyesH.out (by rw [hboH.out]; rfl), bcall hB2H.out B8⟩
                case measure => simp [intOf]; omega
          · rw [decide_eq_false hpl] at hbo
            have hpl' : (v ≤ pv) = True := eq_true (by omega)
            have hfin := hno (by rw [hbo]; rfl)
            have hfinH := Lib.hid hfin
            clear hno hyes hbo hfin ceH ccH cvH hbw hcr
            go_wp2_with fail
            try rw [hWx]
            refine wp_region_held_drew (S := fun w' => w'.cell? ⟨wr.heap.size, 0, none⟩ = some (.int .i64 v) ∧ w'.cell? ⟨wr.heap.size, 1, none⟩ = some (.slice at_ to.length ct) ∧ w'.cell? ⟨bl, ol + j * 2, none⟩ = some (.int .i64 pv) ∧ Below Wx.heap.size Wx w') (by kernel_rfl) ⟨x0, x1, y0, (Below.refl _ _).drew⟩ (fun hS => ?_)
            refine region_take 0 (some 14) (v := ?_) rfl rfl (by kernel_rfl) (by kernel_rfl) (by kernel_rfl) (fun _ _ _ h => h) rfl ?_ hS ?_
            rotate_left
            · (intro w9 hS9; go_simp; try (with_reducible rfl))
            simp only [Act.put, List.setIfInBounds_toArray, List.set_cons_zero, List.set_cons_succ]
            refine region_take 1 (some 15) (v := ?_) rfl rfl (by kernel_rfl) (by kernel_rfl) (by kernel_rfl) (fun _ _ _ h => h) rfl ?_ hS ?_
            rotate_left
            · (intro w9 hS9; go_simp; try (with_reducible rfl))
            simp only [Act.put, List.setIfInBounds_toArray, List.set_cons_zero, List.set_cons_succ]
            refine region_call 2 rfl (by kernel_rfl) (fun K hK => ?_)
            go_simp
            refine (cwH.out _).mono ?_
            rintro e w8 ⟨rfl, rfl⟩
            refine hK.out _ _ hS ?_
            clear hK
            intro hS
            refine region_take 3 (some 17) (v := ?_) rfl rfl (by kernel_rfl) (by kernel_rfl) (by kernel_rfl) (fun _ _ _ h => h) rfl ?_ hS ?_
            rotate_left
            · (intro w9 hS9; go_simp; try (with_reducible rfl))
            simp only [Act.put, List.setIfInBounds_toArray, List.set_cons_zero, List.set_cons_succ]
            refine region_take 4 (some 18) (v := ?_) rfl rfl (by kernel_rfl) (by kernel_rfl) (by kernel_rfl) (fun _ _ _ h => h) rfl ?_ hS ?_
            rotate_left
            · (intro w9 hS9; go_simp; try (with_reducible rfl))
            simp only [Act.put, List.setIfInBounds_toArray, List.set_cons_zero, List.set_cons_succ]
            refine region_take 5 (some 19) (v := ?_) rfl rfl (by kernel_rfl) (by kernel_rfl) (by kernel_rfl) (fun _ _ _ h => h) rfl ?_ hS ?_
            rotate_left
            · (intro w9 hS9; go_simp; try (with_reducible rfl))
            simp only [Act.put, List.setIfInBounds_toArray, List.set_cons_zero, List.set_cons_succ]
            refine region_take 6 (some 20) (v := ?_) rfl rfl (by kernel_rfl) (by kernel_rfl) (by kernel_rfl) (fun _ _ _ h => h) rfl ?_ hS ?_
            rotate_left
            · (intro w9 hS9; go_simp; try (with_reducible rfl))
            simp only [Act.put, List.setIfInBounds_toArray, List.set_cons_zero, List.set_cons_succ]
            refine region_take 7 (some 21) (v := ?_) rfl rfl (by kernel_rfl) (by kernel_rfl) (by kernel_rfl) (fun _ _ _ h => h) rfl ?_ hS ?_
            rotate_left
            · (intro w9 hS9; go_simp; try (with_reducible rfl))
            simp only [Act.put, List.setIfInBounds_toArray, List.set_cons_zero, List.set_cons_succ]
            refine region_take 8 (some 22) (v := ?_) rfl rfl (by kernel_rfl) (by kernel_rfl) (by kernel_rfl) (fun _ _ _ h => h) rfl ?_ hS ?_
            rotate_left
            · (intro w9 hS9; go_simp; try (with_reducible rfl))
            simp only [Act.put, List.setIfInBounds_toArray, List.set_cons_zero, List.set_cons_succ]
            refine region_take 9 (some 23) (v := ?_) rfl rfl (by kernel_rfl) (by kernel_rfl) (by kernel_rfl) (fun _ _ _ h => h) rfl ?_ hS ?_
            rotate_left
            · (intro w9 hS9; go_simp; try (with_reducible rfl))
            simp only [Act.put, List.setIfInBounds_toArray, List.set_cons_zero, List.set_cons_succ]
            refine region_take 10 (some 24) (v := ?_) rfl rfl (by kernel_rfl) (by kernel_rfl) (by kernel_rfl) (fun _ _ _ h => h) rfl ?_ hS ?_
            rotate_left
            · (intro w9 hS9; go_simp; try (with_reducible rfl))
            simp only [Act.put, List.setIfInBounds_toArray, List.set_cons_zero, List.set_cons_succ]
            refine region_take 11 (some 25) (v := ?_) rfl rfl (by kernel_rfl) (by kernel_rfl) (by kernel_rfl) (fun _ _ _ h => h) rfl ?_ hS ?_
            rotate_left
            · (intro w9 hS9; go_simp; try (with_reducible rfl))
            simp only [Act.put, List.setIfInBounds_toArray, List.set_cons_zero, List.set_cons_succ]
            refine region_take 12 (some 26) (v := ?_) rfl rfl (by kernel_rfl) (by kernel_rfl) (by kernel_rfl) (fun _ _ _ h => h) rfl ?_ hS ?_
            rotate_left
            · (intro w9 hS9; go_simp; try (with_reducible rfl))
            simp only [Act.put, List.setIfInBounds_toArray, List.set_cons_zero, List.set_cons_succ]
            refine region_take 13 (some 27) (v := ?_) rfl rfl (by kernel_rfl) (by kernel_rfl) (by kernel_rfl) (fun _ _ _ h => h) rfl ?_ hS ?_
            rotate_left
            · (intro w9 hS9; go_simp; try (with_reducible rfl))
            simp only [Act.put, List.setIfInBounds_toArray, List.set_cons_zero, List.set_cons_succ]
            refine region_take 14 (some 28) (v := ?_) rfl rfl (by kernel_rfl) (by kernel_rfl) (by kernel_rfl) (fun _ _ _ h => h) rfl ?_ hS ?_
            rotate_left
            · (intro w9 hS9; go_simp; try (with_reducible rfl))
            simp only [Act.put, List.setIfInBounds_toArray, List.set_cons_zero, List.set_cons_succ]
            refine region_take 15 (some 29) (v := ?_) rfl rfl (by kernel_rfl) (by kernel_rfl) (by kernel_rfl) (fun _ _ _ h => h) rfl ?_ hS ?_
            rotate_left
            · (intro w9 hS9; go_simp; try (with_reducible rfl))
            simp only [Act.put, List.setIfInBounds_toArray, List.set_cons_zero, List.set_cons_succ]
            refine region_take 16 (some 30) (v := ?_) rfl rfl (by kernel_rfl) (by kernel_rfl) (by kernel_rfl) (fun _ _ _ h => h) rfl ?_ hS ?_
            rotate_left
            · (intro w9 hS9; go_simp; try (with_reducible rfl))
            simp only [Act.put, List.setIfInBounds_toArray, List.set_cons_zero, List.set_cons_succ]
            refine region_take 17 (some 31) (v := ?_) rfl rfl (by kernel_rfl) (by kernel_rfl) (by kernel_rfl) (fun _ _ _ h => h) rfl ?_ hS ?_
            rotate_left
            · (intro w9 hS9; go_simp; try (with_reducible rfl))
            simp only [Act.put, List.setIfInBounds_toArray, List.set_cons_zero, List.set_cons_succ]
            refine region_take 18 (some 32) (v := ?_) rfl rfl (by kernel_rfl) (by kernel_rfl) (by kernel_rfl) (fun _ _ _ h => h) rfl ?_ hS ?_
            rotate_left
            · (intro w9 hS9; go_simp; try (with_reducible rfl))
            simp only [Act.put, List.setIfInBounds_toArray, List.set_cons_zero, List.set_cons_succ]
            refine region_take 19 (some 33) (v := ?_) rfl rfl (by kernel_rfl) (by kernel_rfl) (by kernel_rfl) (fun _ _ _ h => h) rfl ?_ hS ?_
            rotate_left
            · (intro w9 hS9; go_simp; try (with_reducible rfl))
            simp only [Act.put, List.setIfInBounds_toArray, List.set_cons_zero, List.set_cons_succ]
            refine region_skip 20 (some 34) rfl rfl (by kernel_rfl) (by kernel_rfl) (by kernel_rfl) (fun _ _ _ h => h) rfl hS ?_
            simp only [Act.put, List.setIfInBounds_toArray, List.set_cons_zero, List.set_cons_succ]
            refine region_skip 21 (some 35) rfl rfl (by kernel_rfl) (by kernel_rfl) (by kernel_rfl) (fun _ _ _ h => h) rfl hS ?_
            simp only [Act.put, List.setIfInBounds_toArray, List.set_cons_zero, List.set_cons_succ]
            refine region_skip 22 (some 36) rfl rfl (by kernel_rfl) (by kernel_rfl) (by kernel_rfl) (fun _ _ _ h => h) rfl hS ?_
            simp only [Act.put, List.setIfInBounds_toArray, List.set_cons_zero, List.set_cons_succ]
            refine region_skip 23 (some 37) rfl rfl (by kernel_rfl) (by kernel_rfl) (by kernel_rfl) (fun _ _ _ h => h) rfl hS ?_
            simp only [Act.put, List.setIfInBounds_toArray, List.set_cons_zero, List.set_cons_succ]
            refine region_skip 24 (some 38) rfl rfl (by kernel_rfl) (by kernel_rfl) (by kernel_rfl) (fun _ _ _ h => h) rfl hS ?_
            simp only [Act.put, List.setIfInBounds_toArray, List.set_cons_zero, List.set_cons_succ]
            refine region_take 25 (some 39) (v := ?_) rfl rfl (by kernel_rfl) (by kernel_rfl) (by kernel_rfl) (fun _ _ _ h => h) rfl ?_ hS ?_
            rotate_left
            · (intro w9 hS9; go_simp; try (with_reducible rfl))
            simp only [Act.put, List.setIfInBounds_toArray, List.set_cons_zero, List.set_cons_succ]
            refine region_take 26 (some 40) (v := ?_) rfl rfl (by kernel_rfl) (by kernel_rfl) (by kernel_rfl) (fun _ _ _ h => h) rfl ?_ hS ?_
            rotate_left
            · (intro w9 hS9; go_simp; try (with_reducible rfl))
            simp only [Act.put, List.setIfInBounds_toArray, List.set_cons_zero, List.set_cons_succ]
            refine region_skip 27 (some 41) rfl rfl (by kernel_rfl) (by kernel_rfl) (by kernel_rfl) (fun _ _ _ h => h) rfl hS ?_
            simp only [Act.put, List.setIfInBounds_toArray, List.set_cons_zero, List.set_cons_succ]
            refine region_skip 28 (some 42) rfl rfl (by kernel_rfl) (by kernel_rfl) (by kernel_rfl) (fun _ _ _ h => h) rfl hS ?_
            simp only [Act.put, List.setIfInBounds_toArray, List.set_cons_zero, List.set_cons_succ]
            refine region_skip 29 (some 43) rfl rfl (by kernel_rfl) (by kernel_rfl) (by kernel_rfl) (fun _ _ _ h => h) rfl hS ?_
            simp only [Act.put, List.setIfInBounds_toArray, List.set_cons_zero, List.set_cons_succ]
            refine region_skip 30 (some 44) rfl rfl (by kernel_rfl) (by kernel_rfl) (by kernel_rfl) (fun _ _ _ h => h) rfl hS ?_
            simp only [Act.put, List.setIfInBounds_toArray, List.set_cons_zero, List.set_cons_succ]
            refine region_skip 31 (some 45) rfl rfl (by kernel_rfl) (by kernel_rfl) (by kernel_rfl) (fun _ _ _ h => h) rfl hS ?_
            simp only [Act.put, List.setIfInBounds_toArray, List.set_cons_zero, List.set_cons_succ]
            refine region_skip 32 (some 46) rfl rfl (by kernel_rfl) (by kernel_rfl) (by kernel_rfl) (fun _ _ _ h => h) rfl hS ?_
            simp only [Act.put, List.setIfInBounds_toArray, List.set_cons_zero, List.set_cons_succ]
            refine region_skip 33 (some 47) rfl rfl (by kernel_rfl) (by kernel_rfl) (by kernel_rfl) (fun _ _ _ h => h) rfl hS ?_
            simp only [Act.put, List.setIfInBounds_toArray, List.set_cons_zero, List.set_cons_succ]
            refine region_take 34 (some 48) (v := ?_) rfl rfl (by kernel_rfl) (by kernel_rfl) (by kernel_rfl) (fun _ _ _ h => h) rfl ?_ hS ?_
            rotate_left
            · (intro w9 hS9; go_simp; try (with_reducible rfl))
            simp only [Act.put, List.setIfInBounds_toArray, List.set_cons_zero, List.set_cons_succ]
            refine wpAnyH_done (by kernel_rfl) ?_ _
            have B8 := hS.2.2.2
            clear hS
            go_wp2_with fail
            go_ret
            rw [hfinH.out]
            exact ⟨rfl, bcall hB2H.out B8⟩
    · obtain rfl : k = L.length := by omega
      have hvs := ValidSign_any a1 c1 s wr (h1H.out.below hB)
      have hfin : bindsB s L = okSign s := by unfold bindsB; rw [hall, Bool.true_and]
      have hBH := Lib.hid hB
      have hvsH := Lib.hid hvs
      clear hvs hB hall
      go_wp2_with fail
      refine hvsH.out.mono ?_
      rintro e w2 ⟨rfl, hb2⟩
      go_wp2_with fail
      go_ret
      rw [hfin]
      exact ⟨rfl, bcall hBH.out hb2⟩
end Go.Proofs.YtfcbdlfanmddbaaDoor

/- Walks of package unify: table, put, fits, Apply. -/
namespace Go.Proofs.YtfcbdlfanmddbaaDoor
open Go Go.RowKit Go.Maps

def tbI (L : List Bnd) (w : World) (iV : Value) (wr : World) : Prop :=
  ∃ k n : Nat, iV = .int .i64 k ∧ k ≤ L.length ∧ n ≤ k ∧ BdMap w wr w.heap.size n (tabB (L.take k)) ∧ Below w.heap.size w wr
theorem tabB_succ {L : List Bnd} {k : Nat} (h : k < L.length) : tabB (L.take (k + 1)) = upB (tabB (L.take k)) (-L[k].1 - 1) L[k].2 := by
  rw [List.take_succ_eq_append_getElem h]; exact tabL_snoc _ _ _
set_option maxRecDepth 100000 in
set_option maxHeartbeats 4000000 in
theorem table_any {S2 : Nat → Prop} (a2 : Option Addr) (c2 : Nat) (L : List Bnd) (w : World) (h2 : Binds S2 w a2 c2 L) (hL : ∀ b ∈ L, 0 ≤ b.1 ∧ b.1 ≤ 11) (h30 : L.length ≤ 1000) :
    Calls Tryd.prog 18 #[.slice a2 L.length c2] w fun e w' => ∃ mb n, e = .returned (.map (some mb)) ∧ w.heap.size ≤ mb ∧ BdMap w w' mb n (tabB L) ∧ Below w.heap.size w w' := by
  have m2 := h2.le
  have h2H := Lib.hid h2.lt
  have hLH := Lib.hid hL
  have hmm := @run_makeMap Tryd.prog
  have hb0 : Below w.heap.size w (w.alloc (.map #[] 0)) := below1 w _
  have hm0 := BdMap.made w w
  have hm0H := Lib.hid hm0
  have hb0H := Lib.hid hb0
  clear h2 hL hm0 hb0
  go_enter Tryd.func18, Tryd.ntmps18
  go_wp2_with fail
  go_loopw [5, 9] (fun _ iV wr => tbI L w iV wr) (fun _ iV _ => L.length - (intOf iV).toNat)
  case atStart => exact ⟨0, 0, rfl, Nat.zero_le _, Nat.le_refl _, hm0H.out, hb0H.out⟩
  case round =>
    obtain ⟨k, n, rfl, hk, hn, hM, hB⟩ := hrel
    by_cases hlt : k < L.length
    · obtain ⟨bl, ol, at_, ct, hae, -, q0, q1, hvr, hto⟩ := (h2H.out.below hB).bnd k hlt
      obtain ⟨bl2, ol2, at2, ct2, hae2, -, -, q12, -, hto2⟩ := h2H.out.bnd k hlt
      have hv := hLH.out _ (List.getElem_mem hlt)
      have hsucc := tabB_succ hlt
      have hmb := hM.lt
      obtain ⟨x, hxe⟩ : ∃ x, L[k] = x := ⟨_, rfl⟩
      rw [hxe] at q0 q1 q12 hvr hto hto2 hv hsucc
      have q12' := cell_later hB q12
      rw [hae] at hae2
      cases hae2
      rw [q1] at q12'
      obtain ⟨v, to⟩ := x
      dsimp only at q0 q1 q12 q12' hvr hto hto2 hv hsucc
      injection q12' with q12'
      injection q12' with e1 e2 e3
      subst e1 e3
      obtain ⟨Wx, hWx⟩ : ∃ W, wr.alloc (.cells #[.int .i64 v, .slice at_ to.length ct] 77) = W := ⟨_, rfl⟩
      have hbx : Below wr.heap.size wr Wx := by rw [← hWx]; exact below1 wr _
      have x0 : Wx.cell? ⟨wr.heap.size, 0, none⟩ = some (.int .i64 v) := by rw [← hWx]; clear hWx; go_simp
      have x1 : Wx.cell? ⟨wr.heap.size, 1, none⟩ = some (.slice at_ to.length ct) := by rw [← hWx]; clear hWx; go_simp
      have hbd : Below wr.heap.size wr Wx.drew := hbx.drew
      have hMx := hM.below hbd hmb
      have hcr : inRange (-v - 1) := by unfold inRange; omega
      obtain ⟨W', n', s1, s2, s3, s4, -⟩ := hMx.store (by unfold maxLen; omega) (-v - 1) hcr (a := at_) (c := ct) (u := to) (hto2.weak (fun b hb => hb.2))
      have rrun := s1.out
      have hg := s4.out
      have hne : ¬ wr.heap.size = w.heap.size := by omega
      have z0 : W'.cell? ⟨wr.heap.size, 0, none⟩ = some (.int .i64 v) := (World.cell?_of_block (w := Wx.drew) (hg.block wr.heap.size (World.block_lt_of_cell? _ _ x0) (fun e => hne (by injection e)))).trans x0
      have z1 : W'.cell? ⟨wr.heap.size, 1, none⟩ = some (.slice at_ to.length ct) := (World.cell?_of_block (w := Wx.drew) (hg.block wr.heap.size (World.block_lt_of_cell? _ _ x0) (fun e => hne (by injection e)))).trans x1
      have hrel : tbI L w (.int .i64 ((k : Int) + 1)) W' := ⟨k + 1, n', by go_num, by omega, by have := s2.out; omega, by rw [hsucc]; exact s3.out, (bcall hB hbd).grown hg (by have := hB.size; have := hbd.size; omega) (fun j e => by injection e with e; omega)⟩
      have hrelH := Lib.hid hrel
      have ccH := Lib.hid (fun W => code_any v W (by omega) (by omega))
      subst hae
      clear hrel hMx hM hB hto hto2 hsucc hxe s1 s2 s3 s4 hg hbd q12 e2 hv hbx
      go_wp2_with fail
      try rw [hWx]
      refine wp_region_held_drew (S := fun w' => w'.cell? ⟨wr.heap.size, 0, none⟩ = some (.int .i64 v) ∧ w'.cell? ⟨wr.heap.size, 1, none⟩ = some (.slice at_ to.length ct)) (by kernel_rfl) ⟨x0, x1⟩ (fun hS => ?_)
      refine region_take 0 (some 13) (v := ?_) rfl rfl (by kernel_rfl) (by kernel_rfl) (by kernel_rfl) (fun _ _ _ h => h) rfl ?_ hS ?_
      rotate_left
      · (intro w9 hS9; go_simp; try (with_reducible rfl))
      simp only [Act.put, List.setIfInBounds_toArray, List.set_cons_zero, List.set_cons_succ]
      refine region_take 1 (some 14) (v := ?_) rfl rfl (by kernel_rfl) (by kernel_rfl) (by kernel_rfl) (fun _ _ _ h => h) rfl ?_ hS ?_
      rotate_left
      · (intro w9 hS9; go_simp; try (with_reducible rfl))
      simp only [Act.put, List.setIfInBounds_toArray, List.set_cons_zero, List.set_cons_succ]
      refine region_take 2 (some 15) (v := ?_) rfl rfl (by kernel_rfl) (by kernel_rfl) (by kernel_rfl) (fun _ _ _ h => h) rfl ?_ hS ?_
      rotate_left
      · (intro w9 hS9; go_simp; try (with_reducible rfl))
      simp only [Act.put, List.setIfInBounds_toArray, List.set_cons_zero, List.set_cons_succ]
      refine region_take 4 (some 17) (v := ?_) rfl rfl (by kernel_rfl) (by kernel_rfl) (by kernel_rfl) (fun _ _ _ h => h) rfl ?_ hS ?_
      rotate_left
      · (intro w9 hS9; go_simp; try (with_reducible rfl))
      simp only [Act.put, List.setIfInBounds_toArray, List.set_cons_zero, List.set_cons_succ]
      refine region_take 5 (some 18) (v := ?_) rfl rfl (by kernel_rfl) (by kernel_rfl) (by kernel_rfl) (fun _ _ _ h => h) rfl ?_ hS ?_
      rotate_left
      · (intro w9 hS9; go_simp; try (with_reducible rfl))
      simp only [Act.put, List.setIfInBounds_toArray, List.set_cons_zero, List.set_cons_succ]
      refine region_call 3 rfl (by kernel_rfl) (fun K hK => ?_)
      go_simp
      refine (ccH.out _).mono ?_
      rintro e w8 ⟨rfl, rfl⟩
      refine hK.out _ _ hS ?_
      clear hK
      intro hS
      refine region_call 6 rfl (by kernel_rfl) (fun K hK => ?_)
      go_simp
      refine hK.out _ _ ⟨z0, z1⟩ ?_
      clear hK
      intro hS
      refine wpAnyH_done (by kernel_rfl) ?_ _
      go_wp2_with fail
      all_goals go_roundw
      all_goals first | exact hrelH.out | (simp [intOf]; done) | (simp [intOf]; omega)
    · obtain rfl : k = L.length := by omega
      rw [List.take_length] at hM
      have hMH := Lib.hid hM
      have hBH := Lib.hid hB
      clear hM hB
      go_wp2_with fail
      all_goals go_ret
      all_goals exact ⟨_, _, rfl, Nat.le_refl _, hMH.out, hBH.out⟩
def ptI (B : Bd) (t : List Int) (w : World) (vO iV : Value) (wr : World) : Prop :=
  ∃ k : Nat, iV = .int .i64 k ∧ k ≤ t.length ∧ OwnI wr w.heap.size vO (putT B (t.take k)) ∧ Below w.heap.size w wr
theorem putT_succ {B : Bd} {t : List Int} {k : Nat} (h : k < t.length) : putT B (t.take (k + 1)) = putT B (t.take k) ++ putF B t[k] := by
  rw [List.take_succ_eq_append_getElem h]; unfold putT; rw [List.flatMap_append]; simp
theorem putT_len {B : Bd} (hB : ∀ n u, B n = some u → u.length ≤ 60) : ∀ t : List Int, (putT B t).length ≤ 61 * t.length
  | [] => Nat.zero_le _
  | n :: t => by
    have ih := putT_len hB t
    have : (putF B n).length ≤ 61 := by
      unfold putF
      cases h : B n with
      | none => simp
      | some u => have := hB n u h; simp; omega
    unfold putT at ih ⊢
    rw [List.flatMap_cons, List.length_append, List.length_cons]; omega
set_option maxRecDepth 100000 in
set_option maxHeartbeats 4000000 in
theorem put_any {S2 : Nat → Prop} {w0 : World} {mb n : Nat} {B : Bd} (a2 : Option Addr) (c2 : Nat) (t : List Int) (w : World) (hM : BdMap w0 w mb n B) (hb0 : Below w0.heap.size w0 w) (h2 : Ints S2 w a2 c2 t) (ht : t.length ≤ 60) (hl : ∀ n u, B n = some u → u.length ≤ 60) :
    Calls Tryd.prog 17 #[.map (some mb), .slice a2 t.length c2] w (retOwn w (putT B t)) := by
  have m2 := h2.le
  have h2H := Lib.hid h2
  have hMH := Lib.hid hM
  have hb0H := Lib.hid hb0
  have hlH := Lib.hid hl
  clear h2 hM hb0 hl
  go_enter Tryd.func17, Tryd.ntmps17
  go_wp2_with fail
  go_loopw [5, 7, 8, 9, 12] (fun vO _ _ _ iV wr => ptI B t w vO iV wr) (fun _ _ _ _ iV _ => t.length - (intOf iV).toNat)
  case atStart => exact ⟨0, rfl, Nat.zero_le _, .nil _ _ _ _ _, Below.refl _ _⟩
  case round =>
    obtain ⟨k, rfl, hk, hO, hB⟩ := hrel
    by_cases hlt : k < t.length
    · obtain ⟨bl, ol, hae, -, q0, hxr⟩ := (h2H.out.below hB).int k hlt
      have hsucc := putT_succ (B := B) hlt
      have hlen := putT_len hlH.out (t.take k)
      rw [List.length_take] at hlen
      have hMr := hMH.out.below hB hMH.out.lt
      obtain ⟨x, hxe⟩ : ∃ x, t[k] = x := ⟨_, rfl⟩
      rw [hxe] at q0 hxr hsucc
      subst hae
      cases hBx : B x with
      | none =>
        have hlk := hMr.look_none x hxr hBx
        unfold putF at hsucc
        rw [hBx] at hsucc
        obtain ⟨v', W', hrun, ho, hg, -⟩ := OwnL.push (P := Tryd.prog) (t := 25) (ty := 25) hO Tryd.underlying25 infoInt rfl (vs := [.int .i64 x]) (x := x) ⟨rfl, hxr⟩ (by omega) (by unfold big; omega) (by have := hB.size; omega)
        have hrel : ptI B t w v' (.int .i64 ((k : Int) + 1)) W' := ⟨k + 1, by go_num, by omega, by rw [hsucc]; exact ho, hB.grown hg (by have := hB.size; omega) (fun k e => (OwnL.lt hO k e).1)⟩
        have hrelH := Lib.hid hrel
        clear hrel hO hB hsucc hxe ho hg hMr hBx hlen
        go_wp2_with (at_builtin; refine wpList_append_run rfl _ _ _ rfl rfl rfl hrun ?_)
        all_goals go_roundw
        all_goals first | exact hrelH.out | (simp [intOf]; done) | (simp [intOf]; omega)
      | some u =>
        obtain ⟨au, cu, hlk, hu⟩ := hMr.look_some x hxr hBx
        have hul := hlH.out x u hBx
        unfold putF at hsucc
        rw [hBx] at hsucc
        obtain ⟨v', W', hrun, ho, hg, -, -⟩ := OwnL.append_run (P := Tryd.prog) (t := 25) (ty := 25) hO Tryd.underlying25 infoInt rfl ((hu.below hb0H.out).below hB) (fun _ _ _ h => h) (by omega) (by unfold big; omega) (by have := hB.size; omega)
        have hrel : ptI B t w v' (.int .i64 ((k : Int) + 1)) W' := ⟨k + 1, by go_num, by omega, by rw [hsucc]; exact ho, hB.grown hg (by have := hB.size; omega) (fun k e => (OwnL.lt hO k e).1)⟩
        have hrelH := Lib.hid hrel
        clear hrel hO hB hsucc hxe ho hg hMr hBx hlen hu
        go_wp2_with (at_builtin; refine wpList_append_run rfl _ _ _ rfl rfl rfl hrun ?_)
        all_goals go_roundw
        all_goals first | exact hrelH.out | (simp [intOf]; done) | (simp [intOf]; omega)
    · obtain rfl : k = t.length := by omega
      rw [List.take_length] at hO
      have hOH := Lib.hid hO
      have hBH := Lib.hid hB
      clear hO hB
      go_wp2_with fail
      all_goals go_ret
      all_goals exact ⟨_, rfl, hOH.out, hBH.out⟩
theorem fits_any {S : Nat → Prop} (a : Option Addr) (c : Nat) (t : List Int) (w : World) (h : Ints S w a c t) :
    Calls Tryd.prog 16 #[.slice a t.length c] w (retS (if t.length ≤ 60 then (t, 0) else ([], 4)) w) := by
  have m := h.le
  have hH := Lib.hid h.any
  clear h
  by_cases hl : t.length ≤ 60
  · rw [if_pos hl]
    go_enter Tryd.func16, Tryd.ntmps16
    go_wp2_with fail
    all_goals go_ret2
    all_goals exact ⟨_, _, rfl, hH.out, Below.refl _ _⟩
  · rw [if_neg hl]
    go_enter Tryd.func16, Tryd.ntmps16
    go_wp2_with fail
    all_goals go_ret2
    all_goals exact ⟨_, _, rfl, .empty, Below.refl _ _⟩
set_option maxRecDepth 100000 in
set_option maxHeartbeats 2000000 in
theorem Apply_any {S1 S2 S3 : Nat → Prop} (a1 a2 a3 : Option Addr) (c1 c2 c3 : Nat) (s : Sg) (L : List Bnd) (t : List Int) (w : World) (h1 : Sign S1 w a1 c1 s) (h2 : Binds S2 w a2 c2 L) (h3 : Ints S3 w a3 c3 t) (h30 : L.length ≤ 30) :
    Calls Tryd.prog 6 #[.slice a1 s.length c1, .slice a2 L.length c2, .slice a3 t.length c3] w (retS (applyE s L t) w) := by
  have v1 := Valid_any a1 a3 c1 c3 s t w h1 h3
  have v2 := fun W (hb : Below w.heap.size w W) => ValidBinds_any a1 a2 c1 c2 s L W (h1.below hb) (h2.below hb)
  have h2H := Lib.hid h2
  have h3H := Lib.hid h3
  cases ht : okT s t with
  | false =>
    rw [ht] at v1
    have hrH := Lib.hid (show applyE s L t = ([], 1) by unfold applyE; rw [if_neg (by rw [ht]; decide)])
    have v1H := Lib.hid v1
    clear v1 v2 h1 h2 h3 ht
    go_enter Tryd.func6, Tryd.ntmps6
    go_wp2_with fail
    refine v1H.out.mono ?_
    rintro e w1 ⟨rfl, hb1⟩
    go_wp2_with fail
    go_ret2
    rw [hrH.out]
    exact ⟨_, _, rfl, .empty, hb1⟩
  | true =>
    rw [ht] at v1
    cases hv : bindsB s L with
    | false =>
      rw [hv] at v2
      have hrH := Lib.hid (show applyE s L t = ([], 1) by unfold applyE; rw [if_pos ht, if_neg (by rw [hv]; decide)])
      have v1H := Lib.hid v1
      have v2H := Lib.hid v2
      clear v1 v2 h1 h2 h3 ht hv
      go_enter Tryd.func6, Tryd.ntmps6
      go_wp2_with fail
      refine v1H.out.mono ?_
      rintro e w1 ⟨rfl, hb1⟩
      go_wp2_with fail
      refine (v2H.out _ hb1).mono ?_
      rintro e w2 ⟨rfl, hb2⟩
      go_wp2_with fail
      go_ret2
      rw [hrH.out]
      exact ⟨_, _, rfl, .empty, bcall hb1 hb2⟩
    | true =>
      rw [hv] at v2
      have hr : applyE s L t = (if (putT (tabB L) t).length ≤ 60 then (putT (tabB L) t, 0) else ([], 4)) := by unfold applyE; rw [if_pos ht, if_pos hv]
      have hbm := bindsB_mem hv
      have ht60 := (okT_parts ht).2.2.1
      have hl : ∀ n u, tabB L n = some u → u.length ≤ 60 := fun n u h => by
        obtain ⟨b, hb, -, rfl⟩ := tabB_mem h
        exact (okT_parts (hbm b hb).2.2).2.2.1
      have vtH := Lib.hid (fun W (hb : Below w.heap.size w W) => table_any a2 c2 L W (h2H.out.below hb) (fun b hb => ⟨(hbm b hb).1, (hbm b hb).2.1⟩) (by omega))
      have v1H := Lib.hid v1
      have v2H := Lib.hid v2
      have hrH := Lib.hid hr
      have hlH := Lib.hid hl
      clear v1 v2 h1 h2 h3 ht hv hr hl hbm
      go_enter Tryd.func6, Tryd.ntmps6
      go_wp2_with fail
      refine v1H.out.mono ?_
      rintro e w1 ⟨rfl, hb1⟩
      go_wp2_with fail
      refine (v2H.out _ hb1).mono ?_
      rintro e w2 ⟨rfl, hb2⟩
      have hb2H := Lib.hid (bcall hb1 hb2)
      clear hb1 hb2
      go_wp2_with fail
      refine (vtH.out _ hb2H.out).mono ?_
      rintro e w3 ⟨mb, n, rfl, hmb, hM, hb3⟩
      have hb3H := Lib.hid (bcall hb2H.out hb3)
      have vp := put_any a3 c3 t w3 hM hb3 (h3H.out.below hb3H.out) ht60 hlH.out
      have vpH := Lib.hid vp
      clear hM hb3 vp
      go_wp2_with fail
      refine vpH.out.mono ?_
      rintro e w4 ⟨v4, rfl, o4, hb4⟩
      obtain ⟨a4, c4, rfl, i4⟩ := OwnI.ints o4
      have vf := fits_any a4 c4 _ w4 i4
      have hb4H := Lib.hid (bcall hb3H.out hb4)
      have vfH := Lib.hid vf
      clear o4 i4 vf hb4
      simp only
      go_wp2_with fail
      refine vfH.out.mono ?_
      rw [← hrH.out]
      rintro e w5 ⟨a5, c5, rfl, i5, hb5⟩
      have i5H := Lib.hid i5
      have hb5H := Lib.hid (bcall hb4H.out hb5)
      clear i5 hb5
      go_wp2_with fail
      go_ret2
      exact ⟨_, _, rfl, i5H.out, hb5H.out⟩
end Go.Proofs.YtfcbdlfanmddbaaDoor

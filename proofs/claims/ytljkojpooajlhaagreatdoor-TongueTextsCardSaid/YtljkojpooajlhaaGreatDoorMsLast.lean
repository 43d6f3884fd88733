/- The card of TongueTexts: for every input TongueTexts returns true and leaves its arguments as they were; the listed variables are tied to the program's text. No condition. -/
import Derived.Test.YtljkojpooajlhaaGreatDoorMsI
import Derived.Handed
import Derived.Test.YtljkojpooajlhaaGreatDoorBase
import Derived.Test.YtljkojpooajlhaaGreatDoorMsG
import Derived.ProofKit
import Derived.LaidMore
import Derived.OpenShut
import Derived.Stop.Joined
import Derived.Test.YtljkojpooajlhaaGreatDoorMsD
import Derived.Test.YtljkojpooajlhaaGreatDoorMsF
import Derived.Lib.AtoiAllCases
import Derived.Lib.OthersKept
import Derived.Test.YtljkojpooajlhaaGreatDoorMsC
import Derived.Lay
import Derived.Test.YtljkojpooajlhaaGreatDoorCards
import Derived.Test.YtljkojpooajlhaaGreatDoorTie
/- strconv's two errors, out of the laid list. -/
namespace Go.Proofs.YtljkojpooajlhaaGreatDoor
open Go Go.RowKit

theorem iface_cellsU {H : Type} {enc : TypeId × Value → H} {P : Program} {w : World} {sp : Nat → Bool} {fuel : Nat} {t : TypeId} {ms : Array (String × TypeId)} {cs : List Value} {x : DataW H × List MemPlace} (ht : P.underlying t = some (.interface ms))
    (h : DataW.trod enc P w 0 sp false fuel t cs = some x) : ∃ v, cs = [v] ∧ (v = .nilIface ∨ ∃ te pe, v = .iface te pe) := by
  cases fuel with
  | zero => simp [DataW.trod] at h
  | succ fuel =>
    unfold DataW.trod at h
    rw [ht] at h
    split at h <;> first | exact ⟨_, rfl, .inl rfl⟩ | exact ⟨_, rfl, .inr ⟨_, _, rfl⟩⟩ | (rename_i h2; cases h2; done) | cases h
theorem sent_of_cellsU {w : World} {g : Nat} {n : String} {cs : Array Value} (hg : Tryz.prog.globalNamed n = some g) (hv : w.var? Tryz.prog n = some cs) (hc : ∃ v, cs.toList = [v] ∧ (v = .nilIface ∨ ∃ te pe, v = .iface te pe)) : SentU w g := by
  obtain ⟨v, h1, h2⟩ := hc
  unfold World.var? at hv
  rw [hg, Option.bind_some] at hv
  split at hv
  · rename_i cs' t' f' hh
    obtain rfl := Option.some.inj hv
    have h3 : cs'[0]? = some v := by rw [← Array.getElem?_toList, h1]; rfl
    exact ⟨v, by simp [World.cell?, hh, h3], h2⟩
  · cases hv
theorem libU_of_laid {W : World} {n1 n2 n3 n0 : String} {d1 d2 d3 d0 d4 d5 : DataW Unit} {rest : List (String × DataW Unit)} (h : laidMet Tryz.prog ((n1, d1) :: (n2, d2) :: (n3, d3) :: (n0, d0) :: ("strconv.ErrRange", d4) :: ("strconv.ErrSyntax", d5) :: rest) W) : LibU W := by
  have hg4 : Tryz.prog.globalNamed "strconv.ErrRange" = some 2 := by kernel_rfl
  have hg5 : Tryz.prog.globalNamed "strconv.ErrSyntax" = some 1 := by kernel_rfl
  have ht4 : (Tryz.prog.globals[2]?).map (·.type) = some 47 := by kernel_rfl
  have ht5 : (Tryz.prog.globals[1]?).map (·.type) = some 47 := by kernel_rfl
  obtain ⟨ps, ⟨_, _, _, _, _, _, _, _, _, _, ⟨_, _, _, _, _, _, _, _, _, _, ⟨_, _, _, _, _, _, _, _, _, _, ⟨_, _, _, _, _, _, _, _, _, _, ⟨g4, t4, cs4, f4, p4, q4, a4, b4, c4, e4, ⟨g5, t5, cs5, f5, p5, q5, a5, b5, c5, e5, _, _⟩, _⟩, _⟩, _⟩, _⟩, _⟩, _⟩ := h
  obtain rfl := Option.some.inj (hg4.symm.trans a4)
  obtain rfl := Option.some.inj (hg5.symm.trans a5)
  obtain rfl := Option.some.inj (ht4.symm.trans b4)
  obtain rfl := Option.some.inj (ht5.symm.trans b5)
  exact ⟨sent_of_cellsU hg5 c5 (iface_cellsU Tryz.underlying47 e5), sent_of_cellsU hg4 c4 (iface_cellsU Tryz.underlying47 e4)⟩
end Go.Proofs.YtljkojpooajlhaaGreatDoor

/- Facts of the program's types that the rows over the kernel want; the start of a row that lists variables. -/
namespace Go.Proofs.YtljkojpooajlhaaGreatDoor
open Go Go.RowKit Go.ChangeShapes Go.WideShapes Go.ChangeAt Go.Deep

theorem gives3 {P : Program} {t : TypeId} {α β γ : Type} {E : Enc α} {F : Enc β} {G : Enc γ} {f0 f1 f2 : Field} (ht : P.underlying t = some (.struct #[f0, f1, f2])) (h0 : f0.offset = 0) (h1 : f1.offset = E.size) (h2 : f2.offset = E.size + F.size) (hc : P.cellsOf t = E.size + (F.size + G.size))
    (hc0 : P.cellsOf f0.type = E.size) (hc1 : P.cellsOf f1.type = F.size) (hc2 : P.cellsOf f2.type = G.size) (g0 : Gives P f0.type E) (g1 : Gives P f1.type F) (g2 : Gives P f2.type G) : Gives P t (pairE E (pairE F G)) := by
  intro H enc w base spare held n cs x h
  obtain ⟨y0, y1, y2, n', _, hl, r0, r1, r2⟩ := trod_struct3 ht h
  obtain ⟨a, ha⟩ := g0 H enc w base spare held n' _ _ r0
  obtain ⟨b, hb⟩ := g1 H enc w base spare held n' _ _ r1
  obtain ⟨c, hcc⟩ := g2 H enc w base spare held n' _ _ r2
  refine ⟨(a, b, c), _, _, ?_, ha, _, _, rfl, hb, hcc⟩
  rw [h0, h1, h2, hc0, hc1, hc2, List.drop_zero]
  have e1 : (cs.drop (E.size + F.size)).take G.size = cs.drop (E.size + F.size) := List.take_of_length_le (by simp; omega)
  rw [e1, ← List.drop_drop, List.take_append_drop, List.take_append_drop]
theorem gives_array2 {P : Program} {t e : TypeId} {α : Type} {E : Enc α} (ht : P.underlying t = some (.array 2 e)) (hc : P.cellsOf t = E.size + E.size) (he : P.cellsOf e = E.size) (g : Gives P e E) : Gives P t (pairE E E) := by
  intro H enc w base spare held n cs x h
  obtain ⟨xs, m, _, _, hl, hx, hf⟩ := DataW.trod_array ht h
  match xs, hx with
  | [x0, x1], _ =>
    obtain ⟨a, ha⟩ := g H enc w base spare held m _ _ (hf 0 (by omega))
    obtain ⟨b, hb⟩ := g H enc w base spare held m _ _ (hf 1 (by omega))
    refine ⟨(a, b), _, _, ?_, ha, hb⟩
    rw [he, Nat.zero_mul, Nat.one_mul, List.drop_zero]
    have e1 : (cs.drop E.size).take E.size = cs.drop E.size := List.take_of_length_le (by simp; omega)
    rw [e1, List.take_append_drop]
end Go.Proofs.YtljkojpooajlhaaGreatDoor

/- Walks: few, small of the laws on tongues. -/
namespace Go.Proofs.YtljkojpooajlhaaGreatDoor
open Go Go.RowKit Go.Maps

def fewB (d : Ways) : Bool := d.all (fun x => decide (x.2.length ≤ 40)) && decide (d.length ≤ 40)
theorem fewB_le {d : Ways} (h : fewB d = true) : d.length ≤ 40 ∧ ∀ x ∈ d, x.2.length ≤ 1000 := by
  unfold fewB at h
  rw [Bool.and_eq_true, List.all_eq_true, decide_eq_true_eq] at h
  refine ⟨h.2, fun x hx => ?_⟩
  have := h.1 x hx
  rw [decide_eq_true_eq] at this
  omega
def fewRel (d : Ways) (w : World) (i : Value) (wr : World) : Prop := ∃ k : Nat, i = .int .i64 k ∧ k ≤ d.length ∧ (d.take k).all (fun x => decide (x.2.length ≤ 40)) = true ∧ w = wr
theorem few_any {S3 : Nat → Prop} (a3 : Option Addr) (c3 : Nat) (d : Ways) (w : World) (h3 : WaysL S3 w a3 c3 d) :
    Calls Tryz.prog 4 #[.slice a3 d.length c3] w fun e w' => e = .returned (.bool (fewB d)) ∧ w = w' := by
  have m3 := h3.le
  have h3H := Lib.hid h3
  clear h3
  go_enter Tryz.func4, Tryz.ntmps4
  go_wp2_with fail
  go_loopw [3] (fun i wr => fewRel d w i wr) (fun i _ => d.length - (intOf i).toNat)
  case atStart => exact ⟨0, rfl, Nat.zero_le _, by simp, rfl⟩
  case round =>
    obtain ⟨k, rfl, hk, hal, rfl⟩ := hrel
    by_cases hlt : k < d.length
    · obtain ⟨b3, o3, ai, ci, rfl, -, -, qi, -, hI⟩ := h3H.out.way k hlt
      have hma := hI.le
      have hst : d[k].2.length ≤ 40 → (d.take (k + 1)).all (fun x => decide (x.2.length ≤ 40)) = true := fun h => by
        rw [List.take_succ_eq_append_getElem hlt, List.all_append, hal]
        simpa using h
      have hbad : 40 < d[k].2.length → fewB d = false := fun h => by
        have : d.all (fun x => decide (x.2.length ≤ 40)) = false := by rw [List.all_eq_false]; exact ⟨d[k], List.getElem_mem hlt, by simpa using h⟩
        unfold fewB; rw [this]; rfl
      obtain ⟨n, hn⟩ : ∃ n, d[k].2.length = n := ⟨_, rfl⟩
      rw [hn] at qi hst hbad hma
      by_cases h40 : n ≤ 40
      · have hf := Lib.hid (hst h40)
        clear hst hbad hal hn hI
        go_wp2_with fail
        go_roundw
        case rel => exact ⟨k + 1, by go_num, by omega, hf.out, rfl⟩
        case measure => simp [intOf]; omega
      · have hf := Lib.hid (hbad (by omega))
        clear hst hbad hal hn hI
        go_wp2_with fail
        go_ret
        exact ⟨ret_bool hf.out.symm, rfl⟩
    · rw [List.take_of_length_le (by omega)] at hal
      have hf : fewB d = decide (d.length ≤ 40) := by unfold fewB; rw [hal, Bool.true_and]
      have hfH := Lib.hid hf
      clear hal hf
      go_wp2_with fail
      go_ret
      refine ⟨ret_bool ?_, rfl⟩
      rw [hfH.out, Bool.eq_iff_iff]; simp; omega
def smallTr (a b : Sg) (d : Ways) : Bool := smallT a [] && (smallT b [] && fewB d)
end Go.Proofs.YtljkojpooajlhaaGreatDoor

/- Facts of the program's types that the rows over the tongues want. -/
namespace Go.Proofs.YtljkojpooajlhaaGreatDoor
open Go Go.RowKit Go.ChangeShapes Go.WideShapes Go.ChangeAt Go.Deep

theorem gWay : Gives Tryz.prog 33 wayE := gives_pair Tryz.underlying33 rfl rfl (by kernel_rfl) (by kernel_rfl) (by kernel_rfl) gInt gInts
theorem gWays : Gives Tryz.prog 22 (slE wayE) := gives_slice Tryz.underlying22 (by kernel_rfl) gWay
end Go.Proofs.YtljkojpooajlhaaGreatDoor

/- Walks: tongue.Parse. -/
namespace Go.Proofs.YtljkojpooajlhaaGreatDoor
open Go Go.RowKit Go.Maps

attribute [local go_sem] Oper.semAt_some

theorem avU_dig12 : ∀ v, v < 12 → avU (Lib.decDigits v) = (v : Int) := fun v hv => by
  rw [dec_dgv hv]
  unfold avU
  rw [dgv_atoi v hv]
theorem atoiSat_rangeW (l : List UInt8) : inRange (Lib.atoiSat l) := by unfold Lib.atoiSat; split <;> (unfold inRange; omega)
theorem avU_rangeW (l : List UInt8) : inRange (avU l) := by
  unfold avU
  split
  · rename_i v h; exact Lib.atoiAll_bounds h
  · exact atoiSat_rangeW l
  · unfold inRange; omega
/-- the numbers of the arguments, as the program reads them -/
def agFrom (s : ByteArray) : Nat → Nat → List Int
  | 0, _ => []
  | f + 1, pos => if pos < s.size then (((Utf8.decode s pos).1 : Int) - 48) :: agFrom s f (pos + (Utf8.decode s pos).2) else []
def agU (l : List UInt8) : List Int := if l = [45] then [] else agFrom ⟨l.toArray⟩ l.length 0
theorem dec_widthU (s : ByteArray) (pos : Nat) (h : pos < s.size) : 1 ≤ (Utf8.decode s pos).2 := by
  by_cases ha : (s[pos]'h).toNat < 128
  · rw [decode_ascii s pos h ha]
    exact Nat.le_refl _
  · exact (decode_high s pos h (by omega)).2
theorem agFrom_end (s : ByteArray) (f pos : Nat) (h : ¬ pos < s.size) : agFrom s f pos = [] := by
  cases f with
  | zero => rfl
  | succ f => simp [agFrom, h]
theorem agFrom_len (s : ByteArray) : ∀ f pos, (agFrom s f pos).length ≤ f
  | 0, _ => Nat.le_refl _
  | f + 1, pos => by
    rw [agFrom]
    split
    · rw [List.length_cons]; have := agFrom_len s f (pos + (Utf8.decode s pos).2); omega
    · simp
theorem agFrom_ascii (s : ByteArray) (ha : ∀ c ∈ s.data.toList, c.toNat < 128) : ∀ f pos, s.size ≤ pos + f → agFrom s f pos = (s.data.toList.drop pos).map (fun c => ((c.toNat : Int) - 48))
  | 0, pos, h => by
    rw [List.drop_eq_nil_of_le (by rw [ba_lenW]; omega)]; rfl
  | f + 1, pos, h => by
    rw [agFrom]
    by_cases hp : pos < s.size
    · have hlt : pos < s.data.toList.length := by rw [ba_lenW]; exact hp
      have hg := dataW_get hp
      have h128 := ha _ (List.getElem_mem hlt)
      rw [hg] at h128
      rw [if_pos hp, decode_ascii s pos hp h128, List.drop_eq_getElem_cons hlt, List.map_cons, hg, agFrom_ascii s ha f (pos + 1) (by omega)]
    · rw [if_neg hp, List.drop_eq_nil_of_le (by rw [ba_lenW]; omega)]; rfl
theorem agU_arg : ∀ l : List Int, (∀ v ∈ l, 0 ≤ v ∧ v < 3) → agU (argB l) = l := fun l h => by
  unfold agU
  by_cases hl : l = []
  · subst hl; rfl
  · rw [if_neg (fun e => hl ((argB_dash h).1 e))]
    have hb : argB l = decsB l := by unfold argB; rw [if_neg hl]
    rw [hb, agFrom_ascii _ (fun c hc => by have := (decs_mem h (show c ∈ decsB l from hc)).2.2.2; omega) _ _ (by simp [ByteArray.size])]
    show ((decsB l).drop 0).map _ = l
    rw [List.drop_zero, decs_map h, List.map_map]
    conv => rhs; rw [← List.map_id l]
    refine List.map_congr_left (fun v hv => ?_)
    have := h v hv
    obtain ⟨e1, -⟩ := digit_facts v.toNat (by omega)
    simp only [Function.comp, id]
    rw [e1]; omega
theorem agU_len (l : List UInt8) : (agU l).length ≤ l.length := by
  unfold agU
  split
  · simp
  · exact agFrom_len _ _ _
/-- the way of a word -/
def wyU (x : ByteArray) : Int × List Int := (avU (Lib.cut x.data.toList [58]).1, agU (Lib.cut x.data.toList [58]).2.1)
theorem wyU_all {xs : List ByteArray} {t : ByteArray} (h : bsU xs = wordsB 32 t.data.toList) : xs.map wyU = parW avU agU t.data.toList := by
  unfold parW
  rw [← h]
  unfold bsU
  rw [List.map_map]
  rfl
theorem celled_wy : Celled wayE := fun S w vs x h => by
  obtain ⟨us, ts, e, h1, ⟨a, c, h2, h3⟩⟩ := h
  exact ⟨us, ts, e, h1, ⟨a, c, h2, Ints.cellsAt h3⟩⟩
theorem parseW_nil : parseW avU agU [] = ([], 2) := by
  unfold parseW
  rw [if_pos (by simp), if_neg]
  rintro ⟨h, -⟩
  exact h rfl
theorem parseW_yes {l : List UInt8} (hl : l.length ≤ 65536) (hne : l ≠ []) (h : fmtW (parW avU agU l) = l) : parseW avU agU l = (parW avU agU l, 0) := by
  unfold parseW
  rw [if_pos hl, if_pos ⟨hne, h⟩]
theorem parseW_no {l : List UInt8} (hl : l.length ≤ 65536) (h : ¬ fmtW (parW avU agU l) = l) : parseW avU agU l = ([], 2) := by
  unfold parseW
  rw [if_pos hl, if_neg (fun hc => h hc.2)]
/-- the way of a variable beside an iterator -/
structure ItR (n : Int) (s : ByteArray) (W1 : World) (pos : Nat) (v : Value) (l : List Int) (wr : World) : Prop where
  b : WyBox wr W1.heap.size n v
  o : OwnI wr (W1.heap.size + 2) v l
  i : wr.heap[W1.heap.size + 1]? = some (.stringIter s pos)
  w : Below W1.heap.size W1 wr
theorem ItR.iter {n : Int} {s : ByteArray} {W1 wr : World} {pos : Nat} {v : Value} {l : List Int} (h : ItR n s W1 pos v l wr) (p : Nat) : ItR n s W1 p v l (wr.iterAt (W1.heap.size + 1) s p) := by
  refine ⟨(Lib.iterAt_other wr _ _ s p (by omega)).trans h.b, OwnL.kept h.o (fun k hk => Lib.iterAt_other wr _ _ s p (by have := (OwnL.lt h.o k hk).1; omega)) (fun b hb _ => hb.1.elim), Lib.iterAt_heap wr _ s pos p h.i, Lib.below_iterAt h.w (by omega) s p⟩
theorem ItR.push {n : Int} {s : ByteArray} {W1 wr : World} {pos : Nat} {v : Value} {l : List Int} (h : ItR n s W1 pos v l wr) {x : Int} (hr : inRange x) (hl : l.length ≤ 1000000) :
    ∃ v' w', RowKit.Hid ((Builtin.append_ #[31, 31] 31 #[v, .slice (some ⟨wr.heap.size, 0, none⟩) 1 1]).run Tryz.prog (wr.alloc (.cells #[.int .i64 x] 3)) = .ok v' w') ∧ RowKit.Hid (w'.cell? ⟨W1.heap.size, 1, none⟩ = some v) ∧ RowKit.Hid (w'.frozen? ⟨W1.heap.size, 1, none⟩ = false) ∧
      RowKit.Hid (ItR n s W1 pos v' (l ++ [x]) (w'.setCell ⟨W1.heap.size, 1, none⟩ v')) := by
  have hlt := h.b.lt
  have hil := (Array.getElem?_eq_some_iff.1 h.i).1
  obtain ⟨v', w', hrun, ho', hg, -⟩ := OwnL.push (P := Tryz.prog) (t := 31) (ty := 31) h.o Tryz.underlying31 infoInt rfl (vs := [.int .i64 x]) (x := x) ⟨rfl, hr⟩ (by omega) (by unfold big; omega) (by omega)
  have hb2 : WyBox w' W1.heap.size n v := h.b.kept hg (fun e => by have := (OwnL.lt h.o _ e).1; omega)
  have hg2 := gby_setTo w' W1.heap.size 1 v'
  have hz := hg.size
  refine ⟨v', w', Lib.hid hrun, Lib.hid hb2.c1, Lib.hid hb2.f1, Lib.hid ⟨hb2.set v', ?_, ?_, ?_⟩⟩
  · exact OwnL.grown ho' hg2 (fun k e => by have := (OwnL.lt ho' k e).1; intro h; injection h with h; omega) (fun b hb _ => hb.elim)
  · exact (hg2.block _ (by omega) (fun e => by injection e with e; omega)).trans ((hg.block _ hil (fun e => by have := (OwnL.lt h.o _ e.symm).1; omega)).trans h.i)
  · exact (h.w.grown hg (by omega) (fun k e => by have := (OwnL.lt h.o k e).1; omega)).grown hg2 (by omega) (fun k e => by injection e with e; omega)
set_option maxRecDepth 100000 in
set_option maxHeartbeats 8000000 in
theorem pwParse_any (t : ByteArray) (w : World) (hL : LibU w) :
    Calls Tryz.prog 6 #[.string t] w (retWE (parseW avU agU t.data.toList) w) := by
  by_cases hz : t.size ≤ 65536
  · have hzH := Lib.hid hz
    have hng : ((65536 : Int) < (t.size : Int)) = False := eq_false (by omega)
    have hLH := Lib.hid hL
    clear hz hL
    refine (callsIn_wide (n := 6)).1 ?_
    refine callsIn_of_wp_marks Tryz.func6 rfl trivial ?_ rfl
    simp only [Tryz.ntmps6, List.size_toArray, List.length_cons, List.length_nil, Nat.reduceAdd, Nat.reduceSub, Array.replicate_succ, Array.replicate_zero, List.push_toArray, List.append_toArray, List.nil_append, List.cons_append]
    gi_wp2_with fail
    refine ⟨trivial, ?_⟩
    gi_at_call 13
    refine (SplitSeq_in _ _ _ _).mono ?_
    rintro e w' ⟨rfl, rfl⟩
    obtain ⟨w1, hw1⟩ : ∃ w1, w.alloc (.cells #[.slice none 0 0] 22) = w1 := ⟨_, rfl⟩
    rw [hw1]
    obtain ⟨W0, hW0⟩ : ∃ W0, splitWld w1 t 32 = W0 := ⟨_, rfl⟩
    rw [hW0]
    have hz1 : w1.heap.size = w.heap.size + 1 := by rw [← hw1]; simp
    have hz0 : W0.heap.size = w1.heap.size + 1 + 1 + 1 := by rw [← hW0]; simp [splitWld]
    have hb1 : Below w.heap.size w w1 := by rw [← hw1]; exact below1 _ _
    have hb0 : Below w1.heap.size w1 W0 := by rw [← hW0]; exact below3 _ _ _ _
    have hbW : Below w.heap.size w W0 := bcall hb1 hb0
    have hv1 : Boxed w1 w.heap.size 22 (.slice none 0 0) := by rw [← hw1]; exact Boxed.new w _ _
    have hv0 : Boxed W0 w.heap.size 22 (.slice none 0 0) := (hb0.block _ hv1.lt).trans hv1
    have hs0 : Boxed W0 w1.heap.size 9 (.string t) := by rw [← hW0]; exact ((Boxed.new w1 _ _).alloc _).alloc _
    have hp0 : Boxed W0 (w1.heap.size + 1) 9 (.string ⟨#[32]⟩) := by
      rw [← hW0]
      have := (Boxed.new (w1.alloc (.cells #[.string t] 9)) 9 (.string ⟨#[32]⟩)).alloc (.cells #[.int .i64 0] 3)
      rw [World.size_alloc] at this
      exact this
    have hq0 : Boxed W0 (w1.heap.size + 1 + 1) 3 (.int .i64 0) := by
      rw [← hW0]
      have := Boxed.new ((w1.alloc (.cells #[.string t] 9)).alloc (.cells #[.string ⟨#[32]⟩] 9)) 3 (.int .i64 0)
      rw [World.size_alloc, World.size_alloc] at this
      exact this
    have hseq := split_seq (6 - 1) w1.heap.size (w1.heap.size + 1) (w1.heap.size + 1 + 1) (t.size + 1) 32 t W0 (Nat.le_refl _) (by have := hzH.out; omega) hs0 hp0 hq0 (by omega) (by omega)
    have hbx : BoxB wayE w.heap.size 22 W0.heap.size 33 (([] : List ByteArray).map wyU) W0 := ⟨_, hv0, .nil _ _ _ _ _⟩
    have hbxH := Lib.hid hbx
    have hbWH := Lib.hid hbW
    rw [hz1] at hseq hz0
    clear hbx hbW hs0 hp0 hq0 hv0 hv1 hb0 hb1 hW0 hw1
    gi_wp2_with fail
    refine range_relB rfl (by omega) (gf := 54) (lb := #[.pointer (some ⟨w.heap.size + 1 + 1, 0, none⟩), .pointer (some ⟨w.heap.size + 1, 0, none⟩), .pointer (some ⟨w.heap.size + 1 + 1 + 1, 0, none⟩)]) rfl trivial (enters_of Tryz.func54 (by kernel_rfl) rfl)
      hseq (fun W r o h => h.2) (fun h k => h.trans k) (fun W l o o' hl h hc _ => ⟨World.putObj_heap_other (by omega), World.putObj_heap_other (by omega), World.putObj_heap_other (by omega)⟩) (Below.refl _ _) (fun _ => rfl)
      (fun pre W => BoxB wayE w.heap.size 22 W0.heap.size 33 (pre.map wyU) W ∧ (Below w.heap.size w W ∧ w.heap.size ≤ W.heap.size) ∧ W0.heap.size ≤ W.heap.size)
      (fun _ _ _ => False)
      ?hI (fun _ _ _ _ _ hs _ _ => hs) ?h0
      (fun x a' _ => a' = { tmps := #[.string t, undef, .slice none 0 0, .int .i64 0, .pointer (some ⟨w.heap.size, 0, none⟩), .string x, undef, undef, undef, undef, undef, undef, undef, undef, .string t, .int .i64 t.size, .bool false, .string t, .func (.func 54) #[] #[.pointer (some ⟨w.heap.size + 1 + 1, 0, none⟩), .pointer (some ⟨w.heap.size + 1, 0, none⟩), .pointer (some ⟨w.heap.size + 1 + 1 + 1, 0, none⟩)], .string x, undef, undef, undef, undef, undef, undef, undef, undef, undef, undef, undef, undef, undef, undef, undef, undef, undef, undef, undef, undef, undef, undef, undef, undef, undef, undef, undef, undef, undef, undef, undef, undef, undef, undef, undef, undef, undef, undef, undef, undef, undef], defers := [] } ∧ x.size ≤ 65536)
      (fun x a' => ownFrom_pure _ (fun _ => _)) ?assign ?body ?done ?stop
    case h0 => exact ⟨hbxH.out, ⟨hbWH.out, hbWH.out.size⟩, Nat.le_refl _⟩
    case hI => exact OwnRowsB.and (boxB_own celled_wy (by omega) (by omega) _ _) (OwnRowsB.and (belowB_own (K := w.heap.size) (by omega) _ (by omega)) (fun s A A' row h hg _ => Nat.le_trans h hg.size))
    case assign =>
      intro l pre x W K hi hr hK
      dsimp only
      gi_wp2
      exact hK _ _ (KeepsFrom.refl _ _) ⟨rfl, rfl, rfl⟩ hi ⟨rfl, Nat.le_trans hr hzH.out⟩
    case body =>
      rintro l pre x a' W - - ⟨⟨vv, hv, ho⟩, ⟨hB, hB1⟩, hB2⟩ ⟨rfl, hx⟩ hlen
      have hzz := hzH.out
      obtain ⟨A, hA⟩ : ∃ A, (⟨(Lib.cut x.data.toList [58]).1.toArray⟩ : ByteArray) = A := ⟨_, rfl⟩
      obtain ⟨C, hC⟩ : ∃ C, (⟨(Lib.cut x.data.toList [58]).2.1.toArray⟩ : ByteArray) = C := ⟨_, rfl⟩
      obtain ⟨fl, hfl⟩ : ∃ fl, (Lib.cut x.data.toList [58]).2.2 = fl := ⟨_, rfl⟩
      have hse : wyU x = (avU A.data.toList, agU C.data.toList) := by unfold wyU; rw [← hA, ← hC]
      have hAs : A.size ≤ 70000 := by
        have := (cut_len x.data.toList 58).1
        rw [ba_lenW] at this
        rw [← hA]
        simp only [ByteArray.size, List.size_toArray]
        omega
      have hCs : C.size ≤ 70000 := by
        have := (cut_len x.data.toList 58).2
        rw [ba_lenW] at this
        rw [← hC]
        simp only [ByteArray.size, List.size_toArray]
        omega
      have cc := CutU_any x 58 (by omega) W
      rw [hA, hC, hfl] at cc
      have hnr := avU_rangeW A.data.toList
      obtain ⟨n, hn⟩ : ∃ n, avU A.data.toList = n := ⟨_, rfl⟩
      have ca := fun W1 (hb : Below W.heap.size W W1) => AtoiU_any A hAs W1 (hLH.out.later (hB.trans (hb.mono hB1)))
      rw [hn] at hse hnr
      simp only [hn] at ca
      obtain ⟨L, hL⟩ : ∃ L, pre.map wyU = L := ⟨_, rfl⟩
      have hLl : L.length = pre.length := by rw [← hL, List.length_map]
      rw [hL] at ho
      have hpu := fun (W1 : World) (hb : Below W.heap.size W W1) (G : List Int) (aG : Option Addr) (cG : Nat) (hG : Ints (fun b => W.heap.size ≤ b) W1 aG cG G) => boxB_push (P := Tryz.prog) (t := 22) (ty := 22) (x := (n, G)) (vs := [.int .i64 n, .slice aG G.length cG]) hv ho (by decide) hB2 (by omega) hb Tryz.underlying22 infoWay rfl
        ⟨[.int .i64 n], [.slice aG G.length cG], rfl, ⟨rfl, hnr⟩, ⟨aG, cG, rfl, hG.mono (fun b _ hb => ⟨Nat.le_trans hB2 hb, fun e => by have := (OwnL.lt ho b e.symm).2; omega⟩) (.refl _ _)⟩⟩ (by omega) (by unfold big; omega)
      have hmap : ∀ G, agU C.data.toList = G → (pre ++ [x]).map wyU = L ++ [(n, G)] := fun G hG => by rw [List.map_append, List.map_cons, List.map_nil, hse, hL, hG]
      have hfin : ∀ (ac : Act) (W5 : World) (G : List Int), agU C.data.toList = G → BoxB wayE w.heap.size 22 W0.heap.size 33 (L ++ [(n, G)]) W5 → KeepsOthers W W5 → (∀ b, b < W0.heap.size → b ≠ w.heap.size → W5.heap[b]? = W.heap[b]?) → (∀ B, B ≤ w.heap.size → Below B W W5) →
          relPostG W0.heap.size (KpU (w.heap.size + 1) (w.heap.size + 1 + 1) (w.heap.size + 1 + 1 + 1)) (fun pre W => BoxB wayE w.heap.size 22 W0.heap.size 33 (pre.map wyU) W ∧ (Below w.heap.size w W ∧ w.heap.size ≤ W.heap.size) ∧ W0.heap.size ≤ W.heap.size) (fun _ _ _ => False) (pre ++ [x]) W .normal ac W5 := fun ac W5 G hG s5 k5 l5 b5 => by
        refine ⟨k5.from _, ⟨l5 (w.heap.size + 1) (by omega) (by omega), l5 (w.heap.size + 1 + 1) (by omega) (by omega), l5 (w.heap.size + 1 + 1 + 1) (by omega) (by omega)⟩, by rw [hmap G hG]; exact s5, ⟨hB.trans ((b5 _ (Nat.le_refl _))), ?_⟩, ?_⟩
        · exact Nat.le_trans hB1 (b5 _ (Nat.le_refl _)).size
        · exact Nat.le_trans hB2 (b5 _ (Nat.le_refl _)).size
      have ccH := Lib.hid cc
      have caH := Lib.hid ca
      have hpuH := Lib.hid hpu
      have hfinH := Lib.hid hfin
      clear hA hC hfl hse hAs cc ca hn hpu ho hv hmap hB hL hLl hfin hnr
      gi_wp2_with fail
      refine ⟨trivial, (CallsIn.inRound l (callsIn_wide.2 ccH.out)).mono ?_⟩
      rintro e W1 ⟨rfl, hd1⟩
      have hb1 : Below W.heap.size W W1 := hd1.below _
      have hb1H := Lib.hid hb1
      clear hb1 hd1
      gi_wp2_with fail
      refine ⟨trivial, (CallsIn.inRound l (callsIn_wide.2 (caH.out _ hb1H.out))).mono ?_⟩
      rintro e W2 ⟨ev, rfl, hb2⟩
      have hb2' := Lib.hid (bcall hb1H.out hb2)
      clear hb2
      obtain ⟨W3, hW3⟩ : ∃ W3, W2.alloc (.cells #[.int .i64 n, .slice none 0 0] 33) = W3 := ⟨_, rfl⟩
      have hb3 : Below W2.heap.size W2 W3 := by rw [← hW3]; exact below1 _ _
      have hx3 : WyBox W3 W2.heap.size n (.slice none 0 0) := by rw [← hW3]; exact .new _ _ _
      have c1 := hx3.c1
      have c0 := hx3.c0
      have hb3' := bcall hb2'.out hb3
      by_cases hds : C.data.toList = [45]
      · have hte : (C.toList == ([45] : List UInt8)) = true := by rw [ba_tlW, hds]; rfl
        have hag : agU C.data.toList = [] := by unfold agU; rw [if_pos hds]
        obtain ⟨a5, cap5, W5, r5, z5, q5, f5, s5, k5, l5, b5⟩ := hpuH.out W3 hb3' [] none 0 ⟨Nat.le_refl _, by unfold big; omega, fun _ => ⟨rfl, rfl⟩, fun h => (h rfl).elim⟩
        have hlast := Lib.hid (fun ac => hfinH.out ac _ [] hag s5.out k5.out l5.out b5.out)
        have z5 := z5.out
        have q5 := q5.out
        have f5 := f5.out
        have hlt2 : w.heap.size < W2.heap.size := by have := hb2'.out.size; omega
        have z2 : W2.cell? ⟨w.heap.size, 0, none⟩ = some vv := by
          rw [← World.cell?_of_block (w := W2) (hb3.block w.heap.size hlt2)]; exact z5
        have r5 : (Builtin.append_ #[22, 22] 22 #[vv, .slice (some ⟨W2.heap.size + 1, 0, none⟩) 1 1]).run Tryz.prog ((W2.alloc (.cells #[.int .i64 n, .slice none 0 0] 33)).alloc (.cells #[.int .i64 n, .slice none 0 0] 33)) = .ok (.slice a5 (L.length + 1) cap5) W5 := by
          have := r5.out
          rw [← hW3, World.size_alloc] at this
          exact this
        rw [← hW3] at c0 c1 z5
        clear hds hag s5 k5 l5 b5 hx3 hb3 hb3' hpuH hfinH hW3
        gi_wp2_with (gi_at_builtin; refine wpListIn_appendU rfl (.tmp 48) (.tmp 50) 22 rfl rfl rfl r5 ?_)
        exact hlast.out _
      · have hte : (C.toList == ([45] : List UInt8)) = false := by rw [ba_tlW, beq_eq_false_iff_ne]; exact hds
        have hag : agU C.data.toList = agFrom C C.size 0 := by unfold agU; rw [if_neg hds, ba_lenW]
        have hagl : (agU C.data.toList).length ≤ C.size := by have := agU_len C.data.toList; rw [ba_lenW] at this; exact this
        obtain ⟨W4, hW4⟩ : ∃ W4, W3.iter C 0 = W4 := ⟨_, rfl⟩
        have hb4 : Below W3.heap.size W3 W4 := by rw [← hW4]; exact (Below.refl _ W3).alloc (Nat.le_refl _) _
        have hz3 : W3.heap.size = W2.heap.size + 1 := by rw [← hW3]; simp
        have hi4 : ItR n C W2 0 (.slice none 0 0) [] W4 := by
          refine ⟨(hb4.block _ hx3.lt).trans hx3, .nil _ _ _ _ _, ?_, bcall hb3 hb4⟩
          rw [← hW4, ← hz3]
          exact World.iter_heap W3 C 0
        have hi4H := Lib.hid hi4
        have hW3H := Lib.hid hW3
        have hW4H := Lib.hid hW4
        have hdsH := Lib.hid hds
        rw [← hW3] at c0 c1
        have hz0H := Lib.hid hz0
        clear hds hi4 hb4 hz3 hx3 hb3 hb3' hW3 hW4
        have hagH := Lib.hid hag
        have haglH := Lib.hid hagl
        have hbW2 := Lib.hid hb2'.out
        clear hag hagl c0 c1
        gi_wp2_with fail
        gi_loopw [] (fun wr => ∃ (pos f : Nat) (vA : Value) (l : List Int), ItR n C W2 pos vA l wr ∧ l ++ agFrom C f pos = agU C.data.toList ∧ C.size ≤ pos + f ∧ l.length + f ≤ C.size) (fun wr => C.size - wr.iterPos (W2.heap.size + 1))
        case atStart => exact ⟨0, C.size, _, [], by rw [hW3H.out, hW4H.out]; exact hi4H.out, by rw [hagH.out]; rfl, by omega, by simp⟩
        case round =>
          obtain ⟨pos, f, vA, l, hI, hge, hf1, hf2⟩ := hrel
          by_cases hp : pos < C.size
          · obtain ⟨Wn, hWn⟩ : ∃ Wn, wr.iterAt (W2.heap.size + 1) C (pos + (Utf8.decode C pos).2) = Wn := ⟨_, rfl⟩
            have hnx : ∀ ty, (Instr.next (.pointer (some ⟨W2.heap.size + 1, 0, none⟩)) true ty).run Tryz.prog wr = .ok (.tuple #[.bool true, .int .i64 pos, .int .i32 (Utf8.decode C pos).1]) Wn := fun ty => by
              rw [← hWn]; exact Lib.run_next_any_at wr (W2.heap.size + 1) C pos ty hI.i hp
            have hwd := dec_widthU C pos hp
            have hdl := decode_le C pos
            have hI2 := hI.iter (pos + (Utf8.decode C pos).2)
            rw [hWn] at hI2
            obtain ⟨f2, rfl⟩ : ∃ f2, f = f2 + 1 := ⟨f - 1, by omega⟩
            rw [agFrom, if_pos hp] at hge
            obtain ⟨r, hr⟩ : ∃ r, (Utf8.decode C pos).1 = r := ⟨_, rfl⟩
            obtain ⟨wd, hwde⟩ : ∃ wd, (Utf8.decode C pos).2 = wd := ⟨_, rfl⟩
            rw [hr] at hnx hdl hge
            rw [hwde] at hwd hI2 hge
            have hw1 : IntKind.i32.wrap ((r : Int) - 48) = (r : Int) - 48 := by
              unfold IntKind.wrap
              simp [IntKind.signed, IntKind.bits]
              omega
            have hw2 : IntKind.i64.wrap ((r : Int) - 48) = (r : Int) - 48 := IntWalk.i64_in _ (by omega)
            obtain ⟨v', w', hrun, hc, hfz, hnxt⟩ := hI2.push (x := (r : Int) - 48) (by unfold inRange; omega) (by omega)
            have c1 := hI2.b.c1
            obtain ⟨m, hm⟩ : ∃ m, (l ++ [(r : Int) - 48]).length = m := ⟨_, rfl⟩
            obtain ⟨av', cv', hv', -⟩ := OwnI.ints hnxt.out.o
            rw [hm] at hv'
            subst hv'
            have hrel : ∃ (pos f : Nat) (vA : Value) (l : List Int), ItR n C W2 pos vA l (w'.setCell ⟨W2.heap.size, 1, none⟩ (.slice av' m cv')) ∧ l ++ agFrom C f pos = agU C.data.toList ∧ C.size ≤ pos + f ∧ l.length + f ≤ C.size :=
              ⟨pos + wd, f2, _, l ++ [(r : Int) - 48], hnxt.out, by rw [← hge]; simp, by omega, by rw [List.length_append, List.length_singleton]; omega⟩
            have hme : C.size - (w'.setCell ⟨W2.heap.size, 1, none⟩ (.slice av' m cv')).iterPos (W2.heap.size + 1) < C.size - wr.iterPos (W2.heap.size + 1) := by
              simp only [World.iterPos, hnxt.out.i, hI.i]
              omega
            have hrelH := Lib.hid hrel
            have hmeH := Lib.hid hme
            have rrun := hrun.out
            have rc := hc.out
            have rf := hfz.out
            clear hrel hme hrun hc hfz hnxt hI2 hI hge hr hwde hWn hwd hdl hf1 hf2 hm
            gi_wp2_with (gi_at_builtin; refine wpListIn_appendU rfl (.tmp 41) (.tmp 45) 31 rfl rfl rfl rrun ?_)
            go_roundw
            all_goals first | exact hrelH.out | exact hmeH.out
          · have hnx : ∀ ty, (Instr.next (.pointer (some ⟨W2.heap.size + 1, 0, none⟩)) true ty).run Tryz.prog wr = .ok (.tuple #[.bool false]) wr := fun ty => Lib.run_next_end_at wr (W2.heap.size + 1) C pos ty hI.i hp
            rw [agFrom_end C f pos hp, List.append_nil] at hge
            obtain ⟨aG, cG, hvA, hG⟩ := OwnI.ints hI.o
            have hbr := bcall hbW2.out hI.w
            obtain ⟨a5, cap5, W5, r5, z5, q5, f5, s5, k5, l5, b5⟩ := hpuH.out wr hbr l aG cG (hG.mono (fun b _ hb => by have := hbW2.out.size; omega) (.refl _ _))
            have hlast := Lib.hid (fun ac => hfinH.out ac _ l hge.symm s5.out k5.out l5.out b5.out)
            have c0 := hI.b.c0
            have c1 := hI.b.c1
            rw [hvA] at c1
            have z5 := z5.out
            have q5 := q5.out
            have f5 := f5.out
            have r5 := r5.out
            clear hI hge hG hbr s5 k5 l5 b5 hpuH hfinH hvA hp hf1 hf2
            gi_wp2_with (gi_at_builtin; refine wpListIn_appendU rfl (.tmp 48) (.tmp 50) 22 rfl rfl rfl r5 ?_)
            exact hlast.out _
    case done =>
      rintro D ys W hD hys ⟨⟨vv, hv, ho⟩, ⟨hB, hB1⟩, hB2⟩ hK
      have hc := hv.cell
      rw [wyU_all hys] at ho
      by_cases ht : t.data.toList = []
      · have hte : (t.toList == ([] : List UInt8)) = true := by rw [ba_tlW, ht]; rfl
        have hR := Lib.hid (show parseW avU agU t.data.toList = ([], 2) by rw [ht]; exact parseW_nil)
        have hKH := Lib.hid hK
        clear ht hK ho
        gi_wp2_with fail
        refine ⟨trivial, ?_⟩
        gi_wp2_with fail
        refine ⟨by simp, .inl ⟨_, _, rfl, run_takeDeferred hKH.out, ?_⟩⟩
        rw [hR.out]
        exact ⟨_, results_tmp2 rfl _ _ _, none, 0, rfl, waysNil _ _, hB.trans (belowK_b (w := w) (Nat.le_refl _) W D _ _ (by omega) hKH.out rfl rfl)⟩
      · have hte : (t.toList == ([] : List UInt8)) = false := by
          rw [ba_tlW, beq_eq_false_iff_ne]; exact ht
        have hzz := hzH.out
        have hll : t.data.toList.length ≤ 65536 := by rw [ba_lenW]; exact hzz
        obtain ⟨G, hG⟩ : ∃ G, parW avU agU t.data.toList = G := ⟨_, rfl⟩
        have hyes := parseW_yes hll ht
        have hno := parseW_no hll
        rw [hG] at ho hyes hno
        obtain ⟨aG, cG, rfl, hSg⟩ := OwnL.slB ho (fun _ h => h)
        have cf := wFormat_any aG cG G W hSg
        have hKH := Lib.hid hK
        have hoH := Lib.hid (fun W2 (hb : Below W.heap.size W W2) => OwnL.call ho hb)
        have hBH := Lib.hid hB
        obtain ⟨F, hF⟩ : ∃ F, toB (fmtW G) = F := ⟨_, rfl⟩
        rw [hF] at cf
        by_cases hq : F = t
        · have hqe := str_eq hq
          have hR := Lib.hid (hyes (by rw [← hq, ← hF]; rfl))
          have cfH := Lib.hid cf
          clear hyes hno hG ht hll hK ho hSg cf hB hF hq
          gi_wp2_with fail
          refine ⟨trivial, (callsIn_wide.2 cfH.out).mono ?_⟩
          rintro e W2 ⟨rfl, hb2⟩
          have hKD := (hb2.block D (Array.getElem?_eq_some_iff.1 hKH.out).1).trans hKH.out
          have ho2 := hoH.out _ hb2
          have hc2 := cell_later hb2 hc
          have hKDH := Lib.hid hKD
          have ho2H := Lib.hid ho2
          have hbb := Lib.hid (hBH.out.trans (hb2.mono hB1))
          clear hKD ho2 hb2
          gi_wp2_with fail
          refine ⟨by simp, .inl ⟨_, _, rfl, run_takeDeferred hKDH.out, ?_⟩⟩
          rw [hR.out]
          obtain ⟨aF, cF, hvF, hSF⟩ := (OwnL.putObj (o' := .deferred none) ho2H.out hKDH.out rfl celled_wy).sl
          exact ⟨_, results_tmp2 rfl _ _ _, aF, cF, by rw [← hvF]; rfl, hSF.any, hbb.out.trans (belowK_b (w := w) (Nat.le_refl _) W2 D _ _ (by omega) hKDH.out rfl rfl)⟩
        · have hqe := str_neq hq
          have hR := Lib.hid (hno (fun h => hq (by rw [← hF, h]; rfl)))
          have cfH := Lib.hid cf
          clear hyes hno hG ht hll hK ho hSg cf hB hF hq
          gi_wp2_with fail
          refine ⟨trivial, (callsIn_wide.2 cfH.out).mono ?_⟩
          rintro e W2 ⟨rfl, hb2⟩
          have hKD := (hb2.block D (Array.getElem?_eq_some_iff.1 hKH.out).1).trans hKH.out
          have hKDH := Lib.hid hKD
          have hbb := Lib.hid (hBH.out.trans (hb2.mono hB1))
          clear hKD hb2
          gi_wp2_with fail
          refine ⟨by simp, .inl ⟨_, _, rfl, run_takeDeferred hKDH.out, ?_⟩⟩
          rw [hR.out]
          exact ⟨_, results_tmp2 rfl _ _ _, none, 0, rfl, waysNil _ _, hbb.out.trans (belowK_b (w := w) (Nat.le_refl _) W2 D _ _ (by omega) hKDH.out rfl rfl)⟩
    case stop =>
      rintro D c pre W _ _ h _
      exact h.elim
  · have e : parseW avU agU t.data.toList = ([], 3) := by unfold parseW; rw [if_neg (by rw [ba_lenW]; exact hz)]
    rw [e]
    have hgt : (65536 : Int) < t.size := by omega
    clear e hL
    refine (callsIn_wide (n := 6)).1 ?_
    refine callsIn_of_wp_marks Tryz.func6 rfl trivial ?_ rfl
    simp only [Tryz.ntmps6, List.size_toArray, List.length_cons, List.length_nil, Nat.reduceAdd, Nat.reduceSub, Array.replicate_succ, Array.replicate_zero, List.push_toArray, List.append_toArray, List.nil_append, List.cons_append]
    gi_wp2_with fail
    exact ⟨_, results_tmp2 rfl _ _ _, none, 0, rfl, waysNil _ _, .refl _ _⟩
end Go.Proofs.YtljkojpooajlhaaGreatDoor

/- The law TongueTexts, walked. -/
namespace Go.Proofs.YtljkojpooajlhaaGreatDoor
open Go Go.RowKit Go.Maps

set_option maxRecDepth 100000 in
set_option maxHeartbeats 8000000 in
theorem TongueTexts_walk {S1 S2 : Nat → Prop} (a1 : Option Addr) (c1 : Nat) (d : Ways) (a2 : Option Addr) (c2 : Nat) (d2 : Ways) (t : ByteArray) (w : World) (h1 : WaysL S1 w a1 c1 d) (h2 : WaysL S2 w a2 c2 d2) (hL : LibU w) :
    Calls Tryz.prog 3 #[.slice a1 d.length c1, .slice a2 d2.length c2, .string t] w fun e w' => e = .returned (.bool true) ∧ Below w.heap.size w w' := by
  have m1 := h1.le
  have m2 := h2.le
  have sm1 := few_any a1 c1 d w h1
  have sm2 := few_any a2 c2 d2 w h2
  have aw := Lib.hid (fun W' (hb : Below w.heap.size w W') => aw3_from hb (Nat.le_refl _))
  have h1H := Lib.hid h1
  have h2H := Lib.hid h2
  have hLH := Lib.hid hL
  clear h1 h2 hL
  cases z1 : fewB d with
  | false =>
    rw [z1] at sm1
    have smH := Lib.hid sm1
    clear sm1 sm2 z1
    go_enter Tryz.func3, Tryz.ntmps3
    go_wp2_with fail
    refine smH.out.mono ?_
    rintro e w1 ⟨rfl, rfl⟩
    go_wp2_with fail
    refine (aw.out _ (.refl _ _)).mono ?_
    rintro e w2 ⟨rfl, hb2⟩
    go_wp2_with fail
    go_ret
    exact ⟨rfl, hb2⟩
  | true =>
  rw [z1] at sm1
  have sm1H := Lib.hid sm1
  clear sm1 z1
  cases z2 : fewB d2 with
  | false =>
    rw [z2] at sm2
    have sm2H := Lib.hid sm2
    clear sm2 z2
    go_enter Tryz.func3, Tryz.ntmps3
    go_wp2_with fail
    refine sm1H.out.mono ?_
    rintro e w1 ⟨rfl, rfl⟩
    go_wp2_with fail
    refine sm2H.out.mono ?_
    rintro e w1 ⟨rfl, rfl⟩
    go_wp2_with fail
    refine (aw.out _ (.refl _ _)).mono ?_
    rintro e w2 ⟨rfl, hb2⟩
    go_wp2_with fail
    go_ret
    exact ⟨rfl, hb2⟩
  | true =>
  rw [z2] at sm2
  have sm2H := Lib.hid sm2
  clear sm2 z2
  have cp := pwParse_any t w hLH.out
  have cr := fun W => rwParse_any avU_dig12 agU_arg t W
  have hfz := parseW_zero (av := avU) (ag := agU) (l := t.data.toList)
  obtain ⟨R, hR⟩ : ∃ R, parseW avU agU t.data.toList = R := ⟨_, rfl⟩
  rw [hR] at cp hfz
  simp only [hR] at cr
  obtain ⟨R1, R2⟩ := R
  simp only at hfz
  have hfzH := Lib.hid hfz
  have cpH := Lib.hid cp
  have crH := Lib.hid cr
  clear cp cr hR hfz
  have hfin : ∀ (W : World) (hb : Below w.heap.size w W), Calls Tryz.prog 9 #[.slice a1 d.length c1] W fun e w' => e = .returned (.string (toB (fmtW d))) ∧ Below W.heap.size W w' := fun W hb => wFormat_any a1 c1 d W (h1H.out.below hb)
  have hfir : ∀ (W : World) (hb : Below w.heap.size w W), Calls Tryz.prog 11 #[.slice a1 d.length c1] W fun e w' => e = .returned (.string (toB (fmtW d))) ∧ Below W.heap.size W w' := fun W hb => rwFormat_any a1 c1 d W (h1H.out.below hb)
  have hft : fmtW d ≠ [] → parseW avU agU (fmtW d) = (d, 0) := fun h => parseW_fmt avU_dig12 agU_arg (by have := fmtW_len (d := d); omega) h
  obtain ⟨F, hF⟩ : ∃ F, toB (fmtW d) = F := ⟨_, rfl⟩
  rw [show fmtW d = F.data.toList by rw [← hF]; rfl] at hft
  simp only [hF] at hfin hfir
  have hfinH := Lib.hid hfin
  have hfirH := Lib.hid hfir
  have hftH := Lib.hid hft
  have cpF := Lib.hid (fun W (hb : Below w.heap.size w W) => pwParse_any F W (hLH.out.later hb))
  have css : RowKit.Hid (∀ W, Below w.heap.size w W → ∀ aU cU, WaysL (fun _ => True) W aU cU d → Calls Tryz.prog 8 #[.slice aU d.length cU, .slice a1 d.length c1] W fun e w' => e = .returned (.bool true) ∧ Drew W w') := Lib.hid (fun W hb aU cU hU => by
    have := rSame3_any aU a1 cU c1 d d W hU (h1H.out.below hb)
    rw [decide_eq_true rfl] at this
    exact this)
  obtain ⟨sd, hsd⟩ : ∃ sd, decide (d = d2) = sd := ⟨_, rfl⟩
  have cts := fun W (hb : Below w.heap.size w W) => tSame_any a1 a2 c1 c2 d d2 W (h1H.out.below hb) (h2H.out.below hb)
  have crs := fun W (hb : Below w.heap.size w W) => rSame3_any a1 a2 c1 c2 d d2 W (h1H.out.below hb) (h2H.out.below hb)
  rw [hsd] at cts crs
  have ctsH := Lib.hid cts
  have crsH := Lib.hid crs
  have hsdn : (sd != sd) = false := by simp
  clear hfin hfir hft hF cts crs hsd
  go_enter Tryz.func3, Tryz.ntmps3
  go_wp2_with fail
  refine sm1H.out.mono ?_
  rintro e w1 ⟨rfl, rfl⟩
  go_wp2_with fail
  refine sm2H.out.mono ?_
  rintro e w1 ⟨rfl, rfl⟩
  go_wp2_with fail
  (with_reducible refine cpH.out.mono ?_)
  rintro e w2 ⟨a3, c3, rfl, hI2, hb2⟩
  have hb2H := Lib.hid hb2
  have hI2H := Lib.hid hI2
  clear hb2 hI2
  go_wp2_with fail
  (with_reducible refine (crH.out _).mono ?_)
  rintro e w3 ⟨a4, c4, rfl, hI3, hb3⟩
  have hI2H := Lib.hid (hI2H.out.below hb3)
  have cs1 := rSame3_any a3 a4 c3 c4 R1 R1 w3 hI2H.out hI3
  rw [decide_eq_true rfl] at cs1
  have cs1H := Lib.hid cs1
  have hb3H := Lib.hid (bcall hb2H.out hb3)
  clear hb3 hI3 cs1
  have hnn : (R2 != R2) = false := by simp
  by_cases hz : R2 = 0
  · have hzb : (R2 == (0 : Int)) = true := by simpa using hz
    have hfm := hfzH.out hz
    have cf := wFormat_any (S := fun _ => True) a3 c3 R1
    rw [hfm] at cf
    have htt := str_eq (rfl : t = t)
    have htd : toB t.data.toList = t := rfl
    rw [htd] at cf
    have cfH := Lib.hid (fun W (h : WaysL (fun _ => True) W a3 c3 R1) => cf W h)
    clear hfm cf htd hz
    go_wp2_with fail
    (with_reducible refine cs1H.out.mono ?_)
    rintro e w4 ⟨rfl, hd4⟩
    have hI4 := hI2H.out.below (hd4.below _)
    have hb4H := Lib.hid (bcall hb3H.out (hd4.below _))
    have cf4 := Lib.hid (cfH.out w4 hI4)
    clear hd4 hI4
    go_wp2_with fail
    (with_reducible refine cf4.out.mono ?_)
    rintro e w5 ⟨rfl, hb5⟩
    have hb5H := Lib.hid (bcall hb4H.out hb5)
    clear hb5
    go_wp2_with fail
    (with_reducible refine (ctsH.out _ hb5H.out).mono ?_)
    rintro e wS1 ⟨rfl, hbS1⟩
    have hbS1H := Lib.hid (bcall hb5H.out hbS1)
    clear hbS1
    go_wp2_with fail
    (with_reducible refine (crsH.out _ hbS1H.out).mono ?_)
    rintro e wT1 ⟨rfl, hdT1⟩
    have hbT1H := Lib.hid (bcall hbS1H.out (hdT1.below _))
    clear hdT1
    go_wp2_with fail
    (with_reducible refine (hfinH.out _ hbT1H.out).mono ?_)
    rintro e w6 ⟨rfl, hb6⟩
    have hb6H := Lib.hid (bcall hbT1H.out hb6)
    clear hb6
    go_wp2_with fail
    (with_reducible refine (hfirH.out _ hb6H.out).mono ?_)
    rintro e w7 ⟨rfl, hb7⟩
    have hb7H := Lib.hid (bcall hb6H.out hb7)
    have hff := str_eq (rfl : F = F)
    clear hb7
    by_cases hF0 : F.data.toList = []
    · have hte : (F.toList == ([] : List UInt8)) = true := by rw [ba_tlW, hF0]; rfl
      clear hF0
      go_wp2_with fail
      (with_reducible refine (aw.out _ hb7H.out).mono ?_)
      rintro e w8 ⟨rfl, hb8⟩
      go_wp2_with fail
      go_ret
      exact ⟨rfl, hb8⟩
    · have hte : (F.toList == ([] : List UInt8)) = false := by rw [ba_tlW, beq_eq_false_iff_ne]; exact hF0
      have cq := cpF.out w7 hb7H.out
      rw [hftH.out hF0] at cq
      have cqH := Lib.hid cq
      clear cq hF0
      go_wp2_with fail
      (with_reducible refine cqH.out.mono ?_)
      rintro e w8 ⟨a8, c8, rfl, hI8, hb8⟩
      have hb8H := Lib.hid (bcall hb7H.out hb8)
      have cs8H := Lib.hid (css.out w8 hb8H.out a8 c8 hI8)
      clear hI8 hb8
      go_wp2_with fail
      (with_reducible refine cs8H.out.mono ?_)
      rintro e w9 ⟨rfl, hd9⟩
      have hb9H := Lib.hid (bcall hb8H.out (hd9.below _))
      clear hd9
      go_wp2_with fail
      (with_reducible refine (aw.out _ hb9H.out).mono ?_)
      rintro e w10 ⟨rfl, hb10⟩
      go_wp2_with fail
      go_ret
      exact ⟨rfl, hb10⟩
  · have hzb : (R2 == (0 : Int)) = false := by simpa using hz
    clear hz
    go_wp2_with fail
    (with_reducible refine cs1H.out.mono ?_)
    rintro e w4 ⟨rfl, hd4⟩
    have hb4H := Lib.hid (bcall hb3H.out (hd4.below _))
    clear hd4
    go_wp2_with fail
    (with_reducible refine (ctsH.out _ hb4H.out).mono ?_)
    rintro e wS2 ⟨rfl, hbS2⟩
    have hbS2H := Lib.hid (bcall hb4H.out hbS2)
    clear hbS2
    go_wp2_with fail
    (with_reducible refine (crsH.out _ hbS2H.out).mono ?_)
    rintro e wT2 ⟨rfl, hdT2⟩
    have hbT2H := Lib.hid (bcall hbS2H.out (hdT2.below _))
    clear hdT2
    go_wp2_with fail
    (with_reducible refine (hfinH.out _ hbT2H.out).mono ?_)
    rintro e w6 ⟨rfl, hb6⟩
    have hb6H := Lib.hid (bcall hbT2H.out hb6)
    clear hb6
    go_wp2_with fail
    (with_reducible refine (hfirH.out _ hb6H.out).mono ?_)
    rintro e w7 ⟨rfl, hb7⟩
    have hb7H := Lib.hid (bcall hb6H.out hb7)
    have hff := str_eq (rfl : F = F)
    clear hb7
    by_cases hF0 : F.data.toList = []
    · have hte : (F.toList == ([] : List UInt8)) = true := by rw [ba_tlW, hF0]; rfl
      clear hF0
      go_wp2_with fail
      (with_reducible refine (aw.out _ hb7H.out).mono ?_)
      rintro e w8 ⟨rfl, hb8⟩
      go_wp2_with fail
      go_ret
      exact ⟨rfl, hb8⟩
    · have hte : (F.toList == ([] : List UInt8)) = false := by rw [ba_tlW, beq_eq_false_iff_ne]; exact hF0
      have cq := cpF.out w7 hb7H.out
      rw [hftH.out hF0] at cq
      have cqH := Lib.hid cq
      clear cq hF0
      go_wp2_with fail
      (with_reducible refine cqH.out.mono ?_)
      rintro e w8 ⟨a8, c8, rfl, hI8, hb8⟩
      have hb8H := Lib.hid (bcall hb7H.out hb8)
      have cs8H := Lib.hid (css.out w8 hb8H.out a8 c8 hI8)
      clear hI8 hb8
      go_wp2_with fail
      (with_reducible refine cs8H.out.mono ?_)
      rintro e w9 ⟨rfl, hd9⟩
      have hb9H := Lib.hid (bcall hb8H.out (hd9.below _))
      clear hd9
      go_wp2_with fail
      (with_reducible refine (aw.out _ hb9H.out).mono ?_)
      rintro e w10 ⟨rfl, hb10⟩
      go_wp2_with fail
      go_ret
      exact ⟨rfl, hb10⟩
end Go.Proofs.YtljkojpooajlhaaGreatDoor

/- The card of TongueTexts: for every input TongueTexts returns true and leaves its arguments as they were; the listed variables are tied to the program's text. No condition. -/
namespace Go.Proofs.YtljkojpooajlhaaGreatDoor
open Go Go.RowKit Go.ChangeShapes Go.WideShapes Go.ChangeAt

theorem tongueTexts_laid {W : World} : laidMetH Tryz.prog Rows.tongueTextsRow.laid W = laidMet Tryz.prog [("math/bits.deBruijn32tab", Rows.laid_math_bits_deBruijn32tab), ("math/bits.deBruijn64tab", Rows.laid_math_bits_deBruijn64tab), ("internal/strconv.uint64pow10", Rows.laid_internal_strconv_uint64pow10), ("unicode/utf8.acceptRanges", Rows.laid_unicode_utf8_acceptRanges), ("strconv.ErrRange", Rows.laid_strconv_ErrRange), ("strconv.ErrSyntax", Rows.laid_strconv_ErrSyntax), ("unicode/utf8.first", Rows.laid_unicode_utf8_first)] W := by kernel_rfl
set_option maxRecDepth 100000 in
theorem tongueTexts_lifted (os : Os) (started : os.Started) (H : Type) (enc : TypeId × Value → H) :
    ReturnsInHanded {} Tryz.checked os 3 .any (fun w args => (Rows.tongueTextsSpec.pre enc Tryz.prog Tryz.f3 [] false w args ∧ laidMetH Tryz.prog Rows.tongueTextsRow.laid w) ∧ sizedMet enc Tryz.prog Tryz.f3 (OpenSpec.ofChange Rows.tongueTextsSpec) false w args)
      (Rows.tongueTextsSpec.post enc Tryz.prog Tryz.f3 false true false false) := by
  refine returnsInHanded_of_change_and (C := Tryz.checked) (X := fun w _ => laidMetH Tryz.prog Rows.tongueTextsRow.laid w) (fun _ _ _ hh h => h.of_heap hh) Tryz.own started (by kernel_rfl) Tryz.func3
    (ChangeSpec.witness_shaped (enc := enc) (C := Tryz.checked) (os := os) (X := fun w _ => laidMetH Tryz.prog Rows.tongueTextsRow.laid w) false (World.laidAll Tryz.prog os Rows.tongueTextsRow.laid) #[.slice none 0 0, .slice none 0 0, .string ByteArray.empty] 8 (World.laidAll_os _ _ _) (World.shaped_of_ZipB (by kernel_rfl) (by kernel_rfl)) (by kernel_rfl) (by kernel_rfl) (by kernel_rfl) (by rw [MakeChecks.laidMetH_plain _ _ _ (by kernel_rfl)]; exact laidMet_laidAll _ (by kernel_rfl) (by kernel_rfl))) ?_
  intro W base args ds gs before hval0 hW _ _ hL _
  have hLib : LibU W := libU_of_laid (n1 := _) (n2 := _) (n3 := _) (n0 := _) (d1 := _) (d2 := _) (d3 := _) (d0 := _) (d4 := _) (d5 := _) (rest := _) (Eq.mp tongueTexts_laid hL)
  clear hL
  have hval : ∀ (j : Nat) t v, Tryz.f3.params[j]? = some t → args[j]? = some v → Value.okWide Tryz.prog W .any base t v := hval0
  have hW' := hW
  obtain ⟨p, q, hA0, hV, rfl, hfz, hnd⟩ := hW
  have hA : DataW.TrodAll enc Tryz.prog W 0 (fun _ => true) true Tryz.f3.params.toList args.toList ds p := hA0
  rw [Tryz.params3] at hA hval
  obtain ⟨v0, v1, v2, d0, d1, d2, p0, p1, p2, rfl, rfl, rfl, h0, h1, h2⟩ := trodAll_three hA
  obtain ⟨rfl, rfl⟩ := trodVars_none hV
  clear hA0 hval0
  simp only [List.append_nil] at hW'
  have hlt : ∀ x ∈ p0 ++ (p1 ++ p2), x.block < W.heap.size := fun x hx => hW'.lt x (by simpa using hx)
  have keep0 := fun (W' : World) (hn : Below W.heap.size W W') => Below.trod Tryz.laidOut (by kernel_rfl) (of_decide_eq_true (by kernel_rfl)) h0 hn (fun x hx => hlt x (by simp [hx]))
  have keep1 := fun (W' : World) (hn : Below W.heap.size W W') => Below.trod Tryz.laidOut (by kernel_rfl) (of_decide_eq_true (by kernel_rfl)) h1 hn (fun x hx => hlt x (by simp [hx]))
  have keep2 := fun (W' : World) (hn : Below W.heap.size W W') => Below.trod Tryz.laidOut (by kernel_rfl) (of_decide_eq_true (by kernel_rfl)) h2 hn (fun x hx => hlt x (by simp [hx]))
  obtain ⟨l0, a0, c0, rfl, r0⟩ := gWays.arg h0 (okWide_slice Tryz.underlying22 (hval 0 22 v0 rfl rfl))
  obtain ⟨l1, a1, c1, rfl, r1⟩ := gWays.arg h1 (okWide_slice Tryz.underlying22 (hval 1 22 v1 rfl rfl))
  obtain ⟨s2, rfl, rfl, rfl, ws2⟩ := ChangeMaps.open_string Tryz.underlying9 (hval 2 9 v2 rfl rfl) h2
  refine (TongueTexts_walk _ _ _ _ _ _ _ W r0 r1 hLib).mono fun e W' ⟨he, hB⟩ => ?_
  subst he
  exact ⟨_, rfl, _, _, _, [], _, [], hW', trodAll_mk1 (shut_bool Tryz.underlying4 true), trodAll_mk3 (keep0 _ hB) (keep1 _ hB) (keep2 _ hB), rfl, hB.frame _, fun h => by cases h⟩

/-- TongueTexts: for every input it returns true, and each argument reads as it did. -/
theorem tongueTexts_holds : Rows.TongueTextsSaid :=
  OpenClaim.holds_of_wide 3 Tryz.f3 rfl rfl rfl rfl rfl rfl rfl ⟨rfl, rfl, rfl, rfl, rfl⟩ rfl rfl rfl rfl rfl (by kernel_rfl) Tryz.func3 (by kernel_rfl)
    (of_decide_eq_true (by kernel_rfl)) (by unfold Func.isWrapper; first | (rw [if_pos (by decide +kernel)]; kernel_rfl) | (rw [if_neg (by decide +kernel)]; exact ⟨rfl, rfl⟩))
    (fun os started H enc _ => tongueTexts_lifted os started H enc)
/-- the card of TongueTexts -/
theorem tongueTexts_card_holds : Rows.TongueTextsCardSaid :=
  Claim7.holds_tied_plain_at .later [] [.data, .data, .data, .data, .sentinel, .sentinel, .pinned] true Rows.tongueTextsCard.stood.harness Rows.tongueTextsCard.stood.looks
    tongueTexts_holds (fun _ h => by cases h) (by kernel_rfl) (fun _ h => by cases h) tongueTexts_row_tie rfl ⟨rfl, rfl⟩ (by kernel_rfl) rfl
    (fun f fn hf hfn => by
      obtain rfl : f = 3 := Option.some.inj ((show Tryz.prog.funcNamed Rows.tongueTextsRow.func = some 3 by kernel_rfl).symm.trans hf) |>.symm
      obtain rfl : fn = Tryz.f3 := (Option.some.inj (Tryz.func3.symm.trans hfn)).symm
      exact ⟨by kernel_rfl, fun j t ht => by
        rw [Tryz.params3] at ht
        have hm : t ∈ [22, 22, 9] := by simpa using Array.mem_of_getElem? ht
        have hall : ([22, 22, 9].all fun u => !Tryz.prog.wantsStandIn u) = true := by kernel_rfl
        exact (show Tryz.prog.wantsStandIn t = false by simpa using List.all_eq_true.1 hall t hm)⟩)
    (by kernel_rfl)
end Go.Proofs.YtljkojpooajlhaaGreatDoor

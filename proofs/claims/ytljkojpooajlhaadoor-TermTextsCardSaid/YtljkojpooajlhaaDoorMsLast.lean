/- The card of TermTexts: for every input TermTexts returns true and leaves its arguments as they were; the listed variables are tied to the program's text. No condition. -/
import Derived.Test.YtljkojpooajlhaaDoorMsD
import Derived.Handed
import Derived.Test.YtljkojpooajlhaaDoorMsC
import Derived.Test.YtljkojpooajlhaaDoorMathTok3
import Derived.Deep.Cut
import Derived.BigQuiet
import Derived.Test.YtljkojpooajlhaaDoorShJoin
import Derived.StillTailTactics
import Derived.Test.YtljkojpooajlhaaDoorSameSg
import Derived.Lib.AtoiAllCases
import Derived.Test.YtljkojpooajlhaaDoorMsB
import Derived.Test.YtljkojpooajlhaaDoorBase
import Derived.LaidMore
import Derived.Lay
import Derived.Stop.Joined
import Derived.Test.YtljkojpooajlhaaDoorCards
import Derived.Test.YtljkojpooajlhaaDoorTie
/- strconv's two errors, out of the laid list. -/
namespace Go.Proofs.YtljkojpooajlhaaDoor
open Go Go.RowKit

theorem iface_cellsU {H : Type} {enc : TypeId × Value → H} {P : Program} {w : World} {sp : Nat → Bool} {fuel : Nat} {t : TypeId} {ms : Array (String × TypeId)} {cs : List Value} {x : DataW H × List MemPlace} (ht : P.underlying t = some (.interface ms))
    (h : DataW.trod enc P w 0 sp false fuel t cs = some x) : ∃ v, cs = [v] ∧ (v = .nilIface ∨ ∃ te pe, v = .iface te pe) := by
  cases fuel with
  | zero => simp [DataW.trod] at h
  | succ fuel =>
    unfold DataW.trod at h
    rw [ht] at h
    split at h <;> first | exact ⟨_, rfl, .inl rfl⟩ | exact ⟨_, rfl, .inr ⟨_, _, rfl⟩⟩ | (rename_i h2; cases h2; done) | cases h
theorem sent_of_cellsU {w : World} {g : Nat} {n : String} {cs : Array Value} (hg : Tryd.prog.globalNamed n = some g) (hv : w.var? Tryd.prog n = some cs) (hc : ∃ v, cs.toList = [v] ∧ (v = .nilIface ∨ ∃ te pe, v = .iface te pe)) : SentU w g := by
  obtain ⟨v, h1, h2⟩ := hc
  unfold World.var? at hv
  rw [hg, Option.bind_some] at hv
  split at hv
  · rename_i cs' t' f' hh
    obtain rfl := Option.some.inj hv
    have h3 : cs'[0]? = some v := by rw [← Array.getElem?_toList, h1]; rfl
    exact ⟨v, by simp [World.cell?, hh, h3], h2⟩
  · cases hv
theorem libU_of_laid {W : World} {n1 n2 n3 n0 : String} {d1 d2 d3 d0 d4 d5 : DataW Unit} {rest : List (String × DataW Unit)} (h : laidMet Tryd.prog ((n1, d1) :: (n2, d2) :: (n3, d3) :: (n0, d0) :: ("strconv.ErrRange", d4) :: ("strconv.ErrSyntax", d5) :: rest) W) : LibU W := by
  have hg4 : Tryd.prog.globalNamed "strconv.ErrRange" = some 2 := by kernel_rfl
  have hg5 : Tryd.prog.globalNamed "strconv.ErrSyntax" = some 1 := by kernel_rfl
  have ht4 : (Tryd.prog.globals[2]?).map (·.type) = some 48 := by kernel_rfl
  have ht5 : (Tryd.prog.globals[1]?).map (·.type) = some 48 := by kernel_rfl
  obtain ⟨ps, ⟨_, _, _, _, _, _, _, _, _, _, ⟨_, _, _, _, _, _, _, _, _, _, ⟨_, _, _, _, _, _, _, _, _, _, ⟨_, _, _, _, _, _, _, _, _, _, ⟨g4, t4, cs4, f4, p4, q4, a4, b4, c4, e4, ⟨g5, t5, cs5, f5, p5, q5, a5, b5, c5, e5, _, _⟩, _⟩, _⟩, _⟩, _⟩, _⟩, _⟩ := h
  obtain rfl := Option.some.inj (hg4.symm.trans a4)
  obtain rfl := Option.some.inj (hg5.symm.trans a5)
  obtain rfl := Option.some.inj (ht4.symm.trans b4)
  obtain rfl := Option.some.inj (ht5.symm.trans b5)
  exact ⟨sent_of_cellsU hg5 c5 (iface_cellsU Tryd.underlying48 e5), sent_of_cellsU hg4 c4 (iface_cellsU Tryd.underlying48 e4)⟩
end Go.Proofs.YtljkojpooajlhaaDoor

/- A sign as a text. No program is named. -/
namespace Go.Proofs.YtljkojpooajlhaaDoor

/-- a symbol as a word -/
def entB (x : ByteArray × Int) : List UInt8 := x.1.data.toList ++ 47 :: Lib.decDigits x.2.toNat
theorem dig4 : ∀ v, v < 4 → (dgv v).length = 1 ∧ ∀ c ∈ dgv v, c ≠ 47 ∧ c ≠ 32 := by decide
theorem isLet_no : ∀ c : UInt8, isLet c = true → c ≠ 47 ∧ c ≠ 32 := fun c h => by
  unfold isLet at h
  simp only [Bool.or_eq_true, Bool.and_eq_true, decide_eq_true_eq] at h
  refine ⟨fun e => ?_, fun e => ?_⟩ <;> (subst e; revert h; decide)
theorem ent_parts {x : ByteArray × Int} (h : entOk x = true) : x.1.data.toList.all isLet = true ∧ 1 ≤ x.1.data.toList.length ∧ 0 ≤ x.2 ∧ x.2 ≤ 3 := by
  unfold entOk nameOk at h
  simp only [Bool.and_eq_true, decide_eq_true_eq] at h
  refine ⟨h.1.2, ?_, h.2.1, h.2.2⟩
  rw [Array.length_toList]; exact h.1.1.1
theorem ent_no32 {x : ByteArray × Int} (h : entOk x = true) : ∀ c ∈ entB x, c ≠ 32 := fun c hc => by
  obtain ⟨h1, h2, h3, h4⟩ := ent_parts h
  unfold entB at hc
  rcases List.mem_append.1 hc with hc | hc
  · exact (isLet_no c (List.all_eq_true.1 h1 c hc)).2
  · rcases List.mem_cons.1 hc with hc | hc
    · subst hc; decide
    · rw [dec_dgv (by omega)] at hc
      exact ((dig4 _ (by omega)).2 c hc).2
theorem words_join {m : UInt8} : ∀ (ws : List (List UInt8)), ws ≠ [] → (∀ w ∈ ws, m ∉ w) → wordsB m (joinM m ws) = ws
  | [], h, _ => (h rfl).elim
  | [w], _, h => by
    rw [show joinM m [w] = w from rfl]
    exact wordsB_no (h w (by simp))
  | w :: v :: ws, _, h => by
    rw [show joinM m (w :: v :: ws) = w ++ m :: joinM m (v :: ws) from rfl, wordsB_at (h w (by simp)), words_join (v :: ws) (by simp) (fun x hx => h x (by simp [hx]))]
def fmtM (s : Sg) : List UInt8 := if okSign s = true then joinM 32 (s.map entB) else []
theorem okSign_ents {s : Sg} (h : okSign s = true) : (∀ x ∈ s, entOk x = true) ∧ s ≠ [] ∧ s.length ≤ 12 := by
  unfold okSign at h
  simp only [Bool.and_eq_true, decide_eq_true_eq, List.all_eq_true] at h
  refine ⟨fun x hx => h.1.1.2 x hx, fun e => ?_, h.1.1.1.2⟩
  have := h.1.1.1.1
  rw [e] at this
  simp at this
theorem words_fmt {s : Sg} (h : okSign s = true) : wordsB 32 (fmtM s) = s.map entB := by
  obtain ⟨h1, h2, -⟩ := okSign_ents h
  unfold fmtM
  rw [if_pos h]
  refine words_join _ (by simpa using h2) (fun w hw => ?_)
  obtain ⟨x, hx, rfl⟩ := List.mem_map.1 hw
  exact fun hc => ent_no32 (h1 x hx) 32 hc rfl
theorem ent_cut {x : ByteArray × Int} (h : entOk x = true) : Lib.cut (entB x) [47] = (x.1.data.toList, Lib.decDigits x.2.toNat, true) :=
  cut_at (fun hc => (isLet_no 47 (List.all_eq_true.1 (ent_parts h).1 47 hc)).1 rfl)
/-- what the program parses, its reading of numbers given -/
def parP (av : List UInt8 → Int) (text : List UInt8) : Sg := (wordsB 32 text).map (fun w => ((⟨(Lib.cut w [47]).1.toArray⟩ : ByteArray), av (Lib.cut w [47]).2.1))
theorem parP_fmt {av : List UInt8 → Int} (ha : ∀ v, v < 4 → av (Lib.decDigits v) = (v : Int)) {s : Sg} (h : okSign s = true) : parP av (fmtM s) = s := by
  obtain ⟨h1, -, -⟩ := okSign_ents h
  unfold parP
  rw [words_fmt h, List.map_map]
  conv => rhs; rw [← List.map_id s]
  refine List.map_congr_left (fun x hx => ?_)
  have e1 := ent_cut (h1 x hx)
  obtain ⟨-, -, e3, e4⟩ := ent_parts (h1 x hx)
  simp only [Function.comp, e1, id]
  rw [ha _ (by omega), Int.toNat_of_nonneg e3]
/-- a word as the reference reads it -/
def refW (w : List UInt8) : Option (ByteArray × Int) :=
  match wordsB 47 w with
  | [a, b] => (numR b).map (fun n => ((⟨a.toArray⟩ : ByteArray), n))
  | _ => none
def refP (text : List UInt8) : Option Sg := (wordsB 32 text).mapM refW
theorem numR_dgv : ∀ v, v < 4 → numR (dgv v) = some (v : Int) := by decide +kernel
theorem refW_ent {x : ByteArray × Int} (h : entOk x = true) : refW (entB x) = some x := by
  obtain ⟨h1, h2, h3, h4⟩ := ent_parts h
  have e : wordsB 47 (entB x) = [x.1.data.toList, Lib.decDigits x.2.toNat] := by
    unfold entB
    rw [wordsB_at (fun hc => (isLet_no 47 (List.all_eq_true.1 h1 47 hc)).1 rfl), wordsB_no (fun hc => ?_)]
    rw [dec_dgv (by omega)] at hc
    exact ((dig4 _ (by omega)).2 47 hc).1 rfl
  unfold refW
  rw [e]
  simp only
  rw [dec_dgv (by omega), numR_dgv _ (by omega)]
  simp only [Option.map_some]
  rw [Int.toNat_of_nonneg h3]
theorem refW_inv {w : List UInt8} {x : ByteArray × Int} (h : refW w = some x) (h0 : 0 ≤ x.2) : w = entB x := by
  unfold refW at h
  split at h
  · rename_i a b hw
    obtain ⟨n, hn, he⟩ := Option.map_eq_some_iff.1 h
    subst he
    have hj := joinM_words 47 w
    rw [hw] at hj
    have hb := numR_itoa hn
    dsimp only at h0
    rw [← hj]
    unfold entB
    have hi : Lib.itoa n = Lib.decDigits n.toNat := by
      unfold Lib.itoa
      rw [if_neg (by omega)]
    rw [← hi, hb]
    rfl
  · cases h
theorem refP_fmt {s : Sg} (h : okSign s = true) : refP (fmtM s) = some s := by
  obtain ⟨h1, -, -⟩ := okSign_ents h
  unfold refP
  rw [words_fmt h]
  clear h
  induction s with
  | nil => rfl
  | cons x s ih =>
    rw [List.map_cons, List.mapM_cons, refW_ent (h1 x (by simp)), ih (fun y hy => h1 y (by simp [hy]))]
    rfl
theorem mapM_inv : ∀ {ws : List (List UInt8)} {s : Sg}, ws.mapM refW = some s → (∀ x ∈ s, 0 ≤ x.2) → ws = s.map entB
  | [], s, h, _ => by
    rw [List.mapM_nil] at h
    rw [← Option.some.inj h]; rfl
  | w :: ws, s, h, hs => by
    rw [List.mapM_cons] at h
    obtain ⟨x, hx, h⟩ := Option.bind_eq_some_iff.1 h
    obtain ⟨r, hr, h⟩ := Option.bind_eq_some_iff.1 h
    obtain rfl := Option.some.inj h
    rw [List.map_cons, ← refW_inv hx (hs x (by simp)), ← mapM_inv hr (fun y hy => hs y (by simp [hy]))]
theorem refP_inv {text : List UInt8} {s : Sg} (h : refP text = some s) (hs : okSign s = true) : text = fmtM s := by
  obtain ⟨h1, -, -⟩ := okSign_ents hs
  have := mapM_inv h (fun x hx => (ent_parts (h1 x hx)).2.2.1)
  unfold fmtM
  rw [if_pos hs, ← this, joinM_words]
theorem joinM_snoc {m : UInt8} (w : List UInt8) : ∀ ws : List (List UInt8), joinM m (ws ++ [w]) = if ws = [] then w else joinM m ws ++ m :: w
  | [] => rfl
  | [v] => rfl
  | v :: u :: ws => by
    have ih := joinM_snoc (m := m) w (u :: ws)
    rw [if_neg (by simp)] at ih ⊢
    rw [show joinM m (v :: u :: ws ++ [w]) = v ++ m :: joinM m (u :: ws ++ [w]) from rfl, ih, show joinM m (v :: u :: ws) = v ++ m :: joinM m (u :: ws) from rfl, List.append_assoc, List.cons_append]
/-- the text of the first symbols -/
def preF (s : Sg) (j : Nat) : List UInt8 := joinM 32 ((s.take j).map entB)
theorem preF_zero (s : Sg) : preF s 0 = [] := rfl
theorem preF_succ {s : Sg} {j : Nat} (hj : j < s.length) : preF s (j + 1) = if j = 0 then entB s[j] else preF s j ++ 32 :: entB s[j] := by
  unfold preF
  rw [List.take_succ_eq_append_getElem hj, List.map_append, List.map_cons, List.map_nil, joinM_snoc]
  by_cases h : j = 0
  · subst h; simp
  · rw [if_neg h, if_neg]
    intro e
    have := congrArg List.length e
    rw [List.length_map, List.length_take, List.length_nil] at this
    omega
theorem preF_end {s : Sg} (h : okSign s = true) : preF s s.length = fmtM s := by
  unfold preF fmtM
  rw [if_pos h, List.take_length]
/-- both parses, in one word -/
def parseS (av : List UInt8 → Int) (text : List UInt8) : Sg × Int :=
  if text.length ≤ 65536 then (if okSign (parP av text) = true ∧ fmtM (parP av text) = text then (parP av text, 0) else ([], 2)) else ([], 3)
theorem parse_ref {av : List UInt8 → Int} (ha : ∀ v, v < 4 → av (Lib.decDigits v) = (v : Int)) {text : List UInt8} (hl : text.length ≤ 65536) :
    (∀ s, refP text = some s → okSign s = true → parseS av text = (s, 0)) ∧ ((∀ s, refP text = some s → okSign s = false) → parseS av text = ([], 2)) := by
  unfold parseS
  rw [if_pos hl]
  refine ⟨fun s h hs => ?_, fun h => ?_⟩
  · have e := refP_inv h hs
    have e2 : parP av text = s := by rw [e]; exact parP_fmt ha hs
    rw [e2, if_pos ⟨hs, e.symm⟩]
  · rw [if_neg]
    intro ⟨h1, h2⟩
    have := refP_fmt h1
    rw [h2] at this
    rw [h _ this] at h1
    cases h1
end Go.Proofs.YtljkojpooajlhaaDoor

/- Lists of strings of a call's own, and the texts of trees in them. -/
namespace Go.Proofs.YtljkojpooajlhaaDoor
open Go Go.RowKit

abbrev OwnS (w : World) (base : Nat) (v : Value) (l : List ByteArray) : Prop := OwnL strE (fun _ => False) w base 9 v l
theorem infoStr : (Tryd.prog.info? 9).map (fun i => (i.zero, i.size, i.bytes)) = some (some (.string ByteArray.empty), 1, 16) := by kernel_rfl
theorem OwnS.strs {w : World} {base : Nat} {v : Value} {l : List ByteArray} (h : OwnS w base v l) : ∃ a c, v = .slice a l.length c ∧ Sl strE (fun b => base ≤ b) w a c l := by
  obtain ⟨a, c, rfl, hI⟩ := OwnL.sl h
  exact ⟨a, c, rfl, hI.weak (fun b hb => hb.elim id False.elim)⟩
theorem Sl.str {S : Nat → Prop} {w : World} {a : Option Addr} {c : Nat} {l : List ByteArray} (h : Sl strE S w a c l) (i : Nat) (hi : i < l.length) :
    ∃ b off, a = some ⟨b, off, none⟩ ∧ S b ∧ w.cell? ⟨b, off + i, none⟩ = some (.string l[i]) ∧ l[i].size ≤ big := by
  obtain ⟨b, off, ha, hb, _, vs, _, hv, hr⟩ := h.at1 i hi
  obtain ⟨rfl, hx⟩ := hr
  have := hv 0 (by simp)
  simp [strE] at this
  exact ⟨b, off, ha, hb, this, hx⟩
/-- a tree's text, or nothing where it is too long -/
def outB (t : Tr) : ByteArray := if t.text.length ≤ 65536 then ⟨t.text.toArray⟩ else ByteArray.empty
def outsT (ts : List Tr) : List ByteArray := ts.map outB
theorem outB_le (t : Tr) : (outB t).size ≤ 65536 := by
  unfold outB
  split
  · exact ‹_›
  · exact Nat.zero_le _
theorem outB_big {t : Tr} (h : 65536 < minT t) : outB t = ByteArray.empty := by
  unfold outB
  have : 65536 < t.text.length := by unfold minT at h; omega
  rw [if_neg (by omega)]
theorem outB_bytes {t : Tr} (h : minT t ≤ 65536) : (outB t).data.toList = t.text := by
  unfold outB
  have : t.text.length ≤ 65536 := by unfold minT at h; omega
  rw [if_pos this]
theorem outB_eq {t : Tr} {b : ByteArray} (h : minT t ≤ 65536) (hb : b.data.toList = t.text) : b = outB t := by
  rw [← outB_bytes h] at hb
  exact ByteArray.ext (Array.toList_inj.1 hb)
theorem outB_g {n : Nat} (hn : n < 100) : (⟨#[103]⟩ : ByteArray) ++ (tens.extract (n / 10) (n / 10 + 1) ++ tens.extract (n % 10) (n % 10 + 1)) = outB (.g n) := by
  refine outB_eq (by rw [minT_g]; omega) ?_
  rw [ByteArray.data_append, Array.toList_append, two_bytes n hn]
  rfl
theorem outB_d {a b : Tr} (h : minT (.d a b) ≤ 65536) : (⟨#[68]⟩ : ByteArray) ++ outB a ++ outB b = outB (.d a b) := by
  have h2 := minT_d a b
  refine outB_eq h ?_
  rw [ByteArray.data_append, ByteArray.data_append, Array.toList_append, Array.toList_append, outB_bytes (by omega), outB_bytes (by omega)]
  simp [Tr.text]
theorem outsT_len (ts : List Tr) (i : Nat) (h : i ≤ ts.length) : (outsT (ts.take i)).length = i := by unfold outsT; rw [List.length_map, List.length_take]; omega
theorem outsT_succ {ts : List Tr} {i : Nat} (h : i < ts.length) : outsT (ts.take (i + 1)) = outsT (ts.take i) ++ [outB (ts.getD i (.g 0))] := by
  unfold outsT
  rw [List.take_succ_eq_append_getElem h, List.map_append, List.getD_eq_getElem?_getD, List.getElem?_eq_getElem h]
  rfl
theorem outsT_get {ts : List Tr} {i m : Nat} (h : i ≤ ts.length) (hm : m < i) (hl : m < (outsT (ts.take i)).length) : (outsT (ts.take i))[m] = outB (ts.getD m (.g 0)) := by
  have e : (outsT (ts.take i))[m]? = some (outB (ts.getD m (.g 0))) := by
    unfold outsT
    rw [List.getElem?_map, List.getElem?_take_of_lt hm, List.getD_eq_getElem?_getD, List.getElem?_eq_getElem (by omega)]
    rfl
  rw [List.getElem?_eq_getElem hl] at e
  exact Option.some.inj e
theorem lensT_last {ts : List Tr} {i : Nat} (hi : i < ts.length) (hl : i < (lensT ts).length) : (lensT ts)[i] = (minT (ts.getD i (.g 0)) : Int) := by
  have e : (lensT ts)[i]? = some (minT (ts.getD i (.g 0)) : Int) := by
    unfold lensT
    rw [List.getElem?_map, List.getD_eq_getElem?_getD, List.getElem?_eq_getElem hi]
    rfl
  rw [List.getElem?_eq_getElem hl] at e
  exact Option.some.inj e
end Go.Proofs.YtljkojpooajlhaaDoor

/- Walks: lemmaryref01.Number. -/
namespace Go.Proofs.YtljkojpooajlhaaDoor
open Go Go.RowKit

theorem numR_parts (l : List UInt8) : (((bodyL l).length < 1 ∨ 18 < (bodyL l).length) → numR l = none) ∧
    (¬ ((bodyL l).length < 1 ∨ 18 < (bodyL l).length) → (∀ m, Lib.decFrom 0 (bodyL l) = some m → numR l = if Lib.itoa (sgnL l m) = l then some (sgnL l m) else none) ∧ (Lib.decFrom 0 (bodyL l) = none → numR l = none)) := by
  refine ⟨fun h => by unfold numR; rw [if_pos h], fun h => ⟨fun m hm => ?_, fun hm => ?_⟩⟩
  · unfold numR; rw [if_neg h, hm]
  · unfold numR; rw [if_neg h, hm]
set_option maxRecDepth 100000 in
set_option maxHeartbeats 4000000 in
theorem Number_any (s : ByteArray) (hs : s.size ≤ 65536) (w : World) : Calls Tryd.prog 18 #[.string s] w (retN s.data.toList w) := by
  obtain ⟨np1, np2⟩ := numR_parts s.data.toList
  by_cases hs0 : s.size = 0
  · have hse : s = ByteArray.empty := by
      refine ByteArray.ext (Array.eq_empty_of_size_eq_zero ?_)
      exact hs0
    subst hse
    have hnoneH := Lib.hid (show numR (ByteArray.empty).data.toList = none from rfl)
    clear np1 np2
    go_enter Tryd.func18, Tryd.ntmps18
    go_wp2_with fail
    all_goals go_ret2
    all_goals exact ⟨0, by rw [hnoneH.out]; rfl, fun m hm => by (rw [hnoneH.out] at hm; cases hm), by unfold inRange; omega, rfl⟩
  have h0 : 0 < s.size := by omega
  have gs : ((0 : Int) < (s.size : Int)) = True := eq_true (by omega)
  have hh : s.data.toList.head? = some (s[0]'h0) := by
    have := data_get h0
    rw [List.head?_eq_getElem?]; exact this
  by_cases h45 : s[0]'h0 = 45
  · have hq45 : (((s[0]'h0).toNat : Int) == 45) = true := by rw [h45]; rfl
    rw [h45] at hh
    have hbo0 : bodyL s.data.toList = (s.extract 1 s.size).data.toList := by
      unfold bodyL; rw [if_pos hh]
      rw [ByteArray.data_extract, Array.toList_extract]
      rw [show (s.data.toList.extract 1 s.size) = s.data.toList.tail from ?_]
      rw [List.extract_eq_take_drop, List.drop_one, List.take_of_length_le]
      rw [List.length_tail, Array.length_toList]; exact Nat.le_refl _
    have hsg : ∀ m, sgnL s.data.toList m = -(m : Int) := fun m => by unfold sgnL; rw [if_pos hh]
    obtain ⟨b, hbe⟩ : ∃ b, s.extract 1 s.size = b := ⟨_, rfl⟩
    have hbs : b.size = s.size - 1 := by rw [← hbe, ByteArray.size_extract]; omega
    rw [hbe] at hbo0
    have hnone : ((bodyL s.data.toList).length < 1 ∨ 18 < (bodyL s.data.toList).length) → numR s.data.toList = none := np1
    have hbo := hbo0
    have hval : ¬ ((bodyL s.data.toList).length < 1 ∨ 18 < (bodyL s.data.toList).length) → (∀ m : Nat, Lib.decFrom 0 b.data.toList = some m → numR s.data.toList = if Lib.itoa (-(m : Int)) = s.data.toList then some (-(m : Int)) else none) ∧ (Lib.decFrom 0 b.data.toList = none → numR s.data.toList = none) := fun h => by
      have := np2 h
      rw [hbo] at this
      exact ⟨fun m hm => by have := this.1 m hm; rwa [hsg] at this, this.2⟩
    have glt : ((b.size : Int) < (s.size : Int)) = True := eq_true (by omega)
    clear np1 np2 hsg hh hbo0 h45
    go_enter Tryd.func18, Tryd.ntmps18
    go_upto_region 4 with fail
    try rw [hbe]
    clear hbe hbs
    have hbl : b.data.toList.length = b.size := by have : b.size = b.data.size := rfl; rw [Array.length_toList, this]
    by_cases hb1 : b.size < 1
    · have g1 : ((b.size : Int) < 1) = True := eq_true (by omega)
      have hnoneH := Lib.hid (hnone (by rw [hbo, hbl]; exact .inl hb1))
      clear hnone hval
      go_wp2_with fail
      all_goals go_ret2
      all_goals exact ⟨0, by rw [hnoneH.out]; rfl, fun m hm => by (rw [hnoneH.out] at hm; cases hm), by unfold inRange; omega, rfl⟩
    have g1 : ((b.size : Int) < 1) = False := eq_false (by omega)
    by_cases hb2 : 18 < b.size
    · have g2 : (18 < (b.size : Int)) = True := eq_true (by omega)
      have hnoneH := Lib.hid (hnone (by rw [hbo, hbl]; exact .inr hb2))
      clear hnone hval
      go_wp2_with fail
      all_goals go_ret2
      all_goals exact ⟨0, by rw [hnoneH.out]; rfl, fun m hm => by (rw [hnoneH.out] at hm; cases hm), by unfold inRange; omega, rfl⟩
    have g2 : (18 < (b.size : Int)) = False := eq_false (by omega)
    have hvalH := Lib.hid (hval (by rw [hbo, hbl]; omega))
    clear hnone hval
    go_wp2_with fail
    go_loopw [5, 6] (fun nV iV wr => nbR b w nV iV wr) (fun _ iV _ => b.size - (intOf iV).toNat)
    case atStart => exact ⟨0, 0, rfl, rfl, Nat.zero_le _, rfl, by decide, rfl⟩
    case round =>
      obtain ⟨k, m, rfl, rfl, hk, hdf, hmk, hww⟩ := hrel
      subst hww
      by_cases hlt : k < b.size
      · have hget := data_get hlt
        have hcn := (b[k]'hlt).toNat_lt
        have hm18 : m < 1000000000000000000 := Nat.lt_of_lt_of_le hmk (Nat.le_trans (Nat.pow_le_pow_right (n := 10) (by decide) (show _ ≤ 18 by omega)) (by decide))
        have hkl : ((k : Int) < (b.size : Int)) = True := eq_true (by omega)
        by_cases hc1 : (b[k]'hlt).toNat < 48
        · have hnoneH := Lib.hid ((hvalH.out).2 (decFrom_bad _ 0 k _ hget (digitVal_no (.inl hc1))))
          have c1 : (((b[k]'hlt).toNat : Int) < 48) = True := eq_true (by omega)
          clear hdf hget
          go_wp2_with fail
          all_goals go_ret2
          all_goals exact ⟨0, by rw [hnoneH.out]; rfl, fun m hm => by (rw [hnoneH.out] at hm; cases hm), by unfold inRange; omega, rfl⟩
        have c1 : (((b[k]'hlt).toNat : Int) < 48) = False := eq_false (by omega)
        by_cases hc2 : 57 < (b[k]'hlt).toNat
        · have hnoneH := Lib.hid ((hvalH.out).2 (decFrom_bad _ 0 k _ hget (digitVal_no (.inr hc2))))
          have c2 : (57 < ((b[k]'hlt).toNat : Int)) = True := eq_true (by omega)
          clear hdf hget
          go_wp2_with fail
          all_goals go_ret2
          all_goals exact ⟨0, by rw [hnoneH.out]; rfl, fun m hm => by (rw [hnoneH.out] at hm; cases hm), by unfold inRange; omega, rfl⟩
        have c2 : (57 < ((b[k]'hlt).toNat : Int)) = False := eq_false (by omega)
        have hnx := Lib.decFrom_take _ k 0 m _ _ hdf hget (digitVal_yes (by omega) (by omega))
        have hm17 : m < 100000000000000000 := Nat.lt_of_lt_of_le hmk (Nat.le_trans (Nat.pow_le_pow_right (n := 10) (by decide) (show k ≤ 17 by omega)) (by decide))
        have hw8 : ∀ z : Int, 0 ≤ z → z < 256 → IntKind.u8.wrap z = z := fun z h0 h1 => by
          unfold IntKind.wrap
          simp [IntKind.signed, IntKind.bits]
          omega
        have hu : IntKind.u8.wrap (((b[k]'hlt).toNat : Int) - 48) = (((b[k]'hlt).toNat - 48 : Nat) : Int) := by rw [hw8 _ (by omega) (by omega)]; omega
        obtain ⟨d, hd⟩ : ∃ d, (b[k]'hlt).toNat - 48 = d := ⟨_, rfl⟩
        have hd9 : d ≤ 9 := by omega
        rw [hd] at hu hnx
        have hw2 : IntKind.i64.wrap (10 * (m : Int)) = 10 * (m : Int) := IntWalk.i64_in _ (by omega)
        have hw3 : IntKind.i64.wrap (d : Int) = (d : Int) := IntWalk.i64_in _ (by omega)
        have hw4 : IntKind.i64.wrap (10 * (m : Int) + (d : Int)) = 10 * (m : Int) + (d : Int) := IntWalk.i64_in _ (by omega)
        have hrel : nbR b wr (.int .i64 (10 * (m : Int) + (d : Int))) (.int .i64 ((k : Int) + 1)) wr := ⟨k + 1, m * 10 + d, by go_num, by congr 1; omega, by omega, hnx, by rw [Nat.pow_succ]; omega, rfl⟩
        have hrelH := Lib.hid hrel
        clear hrel hdf hget hnx hd
        go_wp2_with fail
        all_goals go_roundw
        all_goals first | exact hrelH.out | (simp [intOf]; done) | (simp [intOf]; omega)
      · obtain rfl : k = b.size := by omega
        rw [List.take_of_length_le (by rw [hbl]; exact Nat.le_refl _)] at hdf
        have hm18 : m < 1000000000000000000 := Nat.lt_of_lt_of_le hmk (Nat.le_trans (Nat.pow_le_pow_right (n := 10) (by decide) (show _ ≤ 18 by omega)) (by decide))
        have hv := (hvalH.out).1 m hdf
        have ct := fun W => Digits_any (-(m : Int)) (by omega) (by omega) W
        obtain ⟨ds, hds⟩ : ∃ ds : ByteArray, (⟨(Lib.itoa (-(m : Int))).toArray⟩ : ByteArray) = ds := ⟨_, rfl⟩
        simp only [hds] at ct
        have hdb : ds.data.toList = Lib.itoa (-(m : Int)) := by rw [← hds]
        have ctH := Lib.hid ct
        have hw1 : IntKind.i64.wrap (-(m : Int)) = -(m : Int) := IntWalk.i64_in _ (by omega)
        clear ct hds hdf
        by_cases hes : ds = s
        · have hv2 : numR s.data.toList = some (-(m : Int)) := by rw [hv, if_pos (by rw [← hes, hdb])]
          have hq := str_eq hes
          have hv2H := Lib.hid hv2
          clear hv hv2 hdb hes
          go_wp2_with fail
          refine (ctH.out _).mono ?_
          rintro e w2 ⟨rfl, rfl⟩
          go_wp2_with fail
          all_goals go_ret2
          all_goals exact ⟨(-(m : Int)), by (simp only [hv2H.out]; rfl), fun m' hm => by (rw [hv2H.out] at hm; exact Option.some.inj hm), by unfold inRange; omega, rfl⟩
        · have hv2 : numR s.data.toList = none := by rw [hv, if_neg (fun e => hes (ByteArray.ext (Array.toList_inj.1 (by rw [hdb, e]))))]
          have hq := str_neq hes
          have hv2H := Lib.hid hv2
          clear hv hv2 hdb
          go_wp2_with fail
          refine (ctH.out _).mono ?_
          rintro e w2 ⟨rfl, rfl⟩
          go_wp2_with fail
          all_goals go_ret2
          all_goals exact ⟨(-(m : Int)), by (simp only [hv2H.out]; rfl), fun m' hm => by (rw [hv2H.out] at hm; cases hm), by unfold inRange; omega, rfl⟩
  · have hq45 : (((s[0]'h0).toNat : Int) == 45) = false := by
      rw [beq_eq_false_iff_ne]; intro e; exact h45 (UInt8.toNat_inj.1 (by show (s[0]'h0).toNat = 45; omega))
    have hn45 : ¬ s.data.toList.head? = some 45 := fun e => by rw [hh] at e; exact h45 (Option.some.inj e)
    have hbo0 : bodyL s.data.toList = s.data.toList := by unfold bodyL; rw [if_neg hn45]
    have hsg : ∀ m, sgnL s.data.toList m = (m : Int) := fun m => by unfold sgnL; rw [if_neg hn45]
    obtain ⟨b, hbe⟩ : ∃ b, b = s := ⟨s, rfl⟩
    have hnone : ((bodyL s.data.toList).length < 1 ∨ 18 < (bodyL s.data.toList).length) → numR s.data.toList = none := np1
    have hbo : bodyL s.data.toList = b.data.toList := by rw [hbe]; exact hbo0
    have hval : ¬ ((bodyL s.data.toList).length < 1 ∨ 18 < (bodyL s.data.toList).length) → (∀ m : Nat, Lib.decFrom 0 b.data.toList = some m → numR s.data.toList = if Lib.itoa (m : Int) = s.data.toList then some (m : Int) else none) ∧ (Lib.decFrom 0 b.data.toList = none → numR s.data.toList = none) := fun h => by
      have := np2 h
      rw [hbo] at this
      exact ⟨fun m hm => by have := this.1 m hm; rwa [hsg] at this, this.2⟩
    have glt : ((b.size : Int) < (b.size : Int)) = False := eq_false (by omega)
    clear np1 np2 hsg hh hbo0 h45 hn45
    go_enter Tryd.func18, Tryd.ntmps18
    go_upto_region 4 with fail
    subst hbe
    have hbl : b.data.toList.length = b.size := by have : b.size = b.data.size := rfl; rw [Array.length_toList, this]
    by_cases hb1 : b.size < 1
    · have g1 : ((b.size : Int) < 1) = True := eq_true (by omega)
      have hnoneH := Lib.hid (hnone (by rw [hbo, hbl]; exact .inl hb1))
      clear hnone hval
      go_wp2_with fail
      all_goals go_ret2
      all_goals exact ⟨0, by rw [hnoneH.out]; rfl, fun m hm => by (rw [hnoneH.out] at hm; cases hm), by unfold inRange; omega, rfl⟩
    have g1 : ((b.size : Int) < 1) = False := eq_false (by omega)
    by_cases hb2 : 18 < b.size
    · have g2 : (18 < (b.size : Int)) = True := eq_true (by omega)
      have hnoneH := Lib.hid (hnone (by rw [hbo, hbl]; exact .inr hb2))
      clear hnone hval
      go_wp2_with fail
      all_goals go_ret2
      all_goals exact ⟨0, by rw [hnoneH.out]; rfl, fun m hm => by (rw [hnoneH.out] at hm; cases hm), by unfold inRange; omega, rfl⟩
    have g2 : (18 < (b.size : Int)) = False := eq_false (by omega)
    have hvalH := Lib.hid (hval (by rw [hbo, hbl]; omega))
    clear hnone hval
    go_wp2_with fail
    go_loopw [5, 6] (fun nV iV wr => nbR b w nV iV wr) (fun _ iV _ => b.size - (intOf iV).toNat)
    case atStart => exact ⟨0, 0, rfl, rfl, Nat.zero_le _, rfl, by decide, rfl⟩
    case round =>
      obtain ⟨k, m, rfl, rfl, hk, hdf, hmk, hww⟩ := hrel
      subst hww
      by_cases hlt : k < b.size
      · have hget := data_get hlt
        have hcn := (b[k]'hlt).toNat_lt
        have hm18 : m < 1000000000000000000 := Nat.lt_of_lt_of_le hmk (Nat.le_trans (Nat.pow_le_pow_right (n := 10) (by decide) (show _ ≤ 18 by omega)) (by decide))
        have hkl : ((k : Int) < (b.size : Int)) = True := eq_true (by omega)
        by_cases hc1 : (b[k]'hlt).toNat < 48
        · have hnoneH := Lib.hid ((hvalH.out).2 (decFrom_bad _ 0 k _ hget (digitVal_no (.inl hc1))))
          have c1 : (((b[k]'hlt).toNat : Int) < 48) = True := eq_true (by omega)
          clear hdf hget
          go_wp2_with fail
          all_goals go_ret2
          all_goals exact ⟨0, by rw [hnoneH.out]; rfl, fun m hm => by (rw [hnoneH.out] at hm; cases hm), by unfold inRange; omega, rfl⟩
        have c1 : (((b[k]'hlt).toNat : Int) < 48) = False := eq_false (by omega)
        by_cases hc2 : 57 < (b[k]'hlt).toNat
        · have hnoneH := Lib.hid ((hvalH.out).2 (decFrom_bad _ 0 k _ hget (digitVal_no (.inr hc2))))
          have c2 : (57 < ((b[k]'hlt).toNat : Int)) = True := eq_true (by omega)
          clear hdf hget
          go_wp2_with fail
          all_goals go_ret2
          all_goals exact ⟨0, by rw [hnoneH.out]; rfl, fun m hm => by (rw [hnoneH.out] at hm; cases hm), by unfold inRange; omega, rfl⟩
        have c2 : (57 < ((b[k]'hlt).toNat : Int)) = False := eq_false (by omega)
        have hnx := Lib.decFrom_take _ k 0 m _ _ hdf hget (digitVal_yes (by omega) (by omega))
        have hm17 : m < 100000000000000000 := Nat.lt_of_lt_of_le hmk (Nat.le_trans (Nat.pow_le_pow_right (n := 10) (by decide) (show k ≤ 17 by omega)) (by decide))
        have hw8 : ∀ z : Int, 0 ≤ z → z < 256 → IntKind.u8.wrap z = z := fun z h0 h1 => by
          unfold IntKind.wrap
          simp [IntKind.signed, IntKind.bits]
          omega
        have hu : IntKind.u8.wrap (((b[k]'hlt).toNat : Int) - 48) = (((b[k]'hlt).toNat - 48 : Nat) : Int) := by rw [hw8 _ (by omega) (by omega)]; omega
        obtain ⟨d, hd⟩ : ∃ d, (b[k]'hlt).toNat - 48 = d := ⟨_, rfl⟩
        have hd9 : d ≤ 9 := by omega
        rw [hd] at hu hnx
        have hw2 : IntKind.i64.wrap (10 * (m : Int)) = 10 * (m : Int) := IntWalk.i64_in _ (by omega)
        have hw3 : IntKind.i64.wrap (d : Int) = (d : Int) := IntWalk.i64_in _ (by omega)
        have hw4 : IntKind.i64.wrap (10 * (m : Int) + (d : Int)) = 10 * (m : Int) + (d : Int) := IntWalk.i64_in _ (by omega)
        have hrel : nbR b wr (.int .i64 (10 * (m : Int) + (d : Int))) (.int .i64 ((k : Int) + 1)) wr := ⟨k + 1, m * 10 + d, by go_num, by congr 1; omega, by omega, hnx, by rw [Nat.pow_succ]; omega, rfl⟩
        have hrelH := Lib.hid hrel
        clear hrel hdf hget hnx hd
        go_wp2_with fail
        all_goals go_roundw
        all_goals first | exact hrelH.out | (simp [intOf]; done) | (simp [intOf]; omega)
      · obtain rfl : k = b.size := by omega
        rw [List.take_of_length_le (by rw [hbl]; exact Nat.le_refl _)] at hdf
        have hm18 : m < 1000000000000000000 := Nat.lt_of_lt_of_le hmk (Nat.le_trans (Nat.pow_le_pow_right (n := 10) (by decide) (show _ ≤ 18 by omega)) (by decide))
        have hv := (hvalH.out).1 m hdf
        have ct := fun W => Digits_any (m : Int) (by omega) (by omega) W
        obtain ⟨ds, hds⟩ : ∃ ds : ByteArray, (⟨(Lib.itoa (m : Int)).toArray⟩ : ByteArray) = ds := ⟨_, rfl⟩
        simp only [hds] at ct
        have hdb : ds.data.toList = Lib.itoa (m : Int) := by rw [← hds]
        have ctH := Lib.hid ct
        have hw1 : IntKind.i64.wrap (-(m : Int)) = -(m : Int) := IntWalk.i64_in _ (by omega)
        clear ct hds hdf
        by_cases hes : ds = b
        · have hv2 : numR b.data.toList = some (m : Int) := by rw [hv, if_pos (by rw [← hes, hdb])]
          have hq := str_eq hes
          have hv2H := Lib.hid hv2
          clear hv hv2 hdb hes
          go_wp2_with fail
          refine (ctH.out _).mono ?_
          rintro e w2 ⟨rfl, rfl⟩
          go_wp2_with fail
          all_goals go_ret2
          all_goals exact ⟨(m : Int), by (simp only [hv2H.out]; rfl), fun m' hm => by (rw [hv2H.out] at hm; exact Option.some.inj hm), by unfold inRange; omega, rfl⟩
        · have hv2 : numR b.data.toList = none := by rw [hv, if_neg (fun e => hes (ByteArray.ext (Array.toList_inj.1 (by rw [hdb, e]))))]
          have hq := str_neq hes
          have hv2H := Lib.hid hv2
          clear hv hv2 hdb
          go_wp2_with fail
          refine (ctH.out _).mono ?_
          rintro e w2 ⟨rfl, rfl⟩
          go_wp2_with fail
          all_goals go_ret2
          all_goals exact ⟨(m : Int), by (simp only [hv2H.out]; rfl), fun m' hm => by (rw [hv2H.out] at hm; cases hm), by unfold inRange; omega, rfl⟩
end Go.Proofs.YtljkojpooajlhaaDoor

/- Walks: lemmaryref01.Words, Numbers. -/
namespace Go.Proofs.YtljkojpooajlhaaDoor
open Go Go.RowKit

theorem wordsB_len (m : UInt8) : ∀ l, (wordsB m l).length ≤ l.length + 1
  | [] => Nat.le_refl _
  | c :: r => by
    have ih := wordsB_len m r
    rw [wordsB]
    split
    · simp; omega
    · split
      · simp
      · rename_i w ws h; rw [h] at ih; simp at ih ⊢; omega
def bts (l : List ByteArray) : List (List UInt8) := l.map fun b => b.data.toList
def wdR (t : ByteArray) (m : UInt8) (w : World) (vO fV iV : Value) (wr : World) : Prop :=
  ∃ (f i : Nat) (out : List ByteArray), fV = .int .i64 f ∧ iV = .int .i64 i ∧ f ≤ i ∧ i ≤ t.size ∧ OwnS wr w.heap.size vO out ∧ bts out ++ wordsB m (t.data.toList.drop f) = wordsB m t.data.toList ∧ m ∉ (t.data.toList.drop f).take (i - f) ∧ Below w.heap.size w wr
def retW (l : List (List UInt8)) (w : World) (e : Ending) (w' : World) : Prop := ∃ v out, e = .returned v ∧ OwnS w' w.heap.size v out ∧ bts out = l ∧ Below w.heap.size w w'
theorem extract_bytes (t : ByteArray) (a b : Nat) : (t.extract a b).data.toList = (t.data.toList.drop a).take (b - a) := by
  rw [ByteArray.data_extract, Array.toList_extract, List.extract_eq_take_drop]
set_option maxRecDepth 100000 in
set_option maxHeartbeats 4000000 in
theorem Words_any (t : ByteArray) (m : UInt8) (hs : t.size ≤ 65536) (w : World) :
    Calls Tryd.prog 17 #[.string t, .int .u8 (m.toNat : Int)] w (retW (wordsB m t.data.toList) w) := by
  have htl : t.data.toList.length = t.size := by have : t.size = t.data.size := rfl; rw [Array.length_toList, this]
  have hwl := wordsB_len m t.data.toList
  have hlH := Lib.hid hwl
  clear hwl
  go_enter Tryd.func17, Tryd.ntmps17
  go_wp2_with fail
  go_loopw [5, 6, 7] (fun vO fV iV wr => wdR t m w vO fV iV wr) (fun _ _ iV _ => t.size - (intOf iV).toNat)
  case atStart => exact ⟨0, 0, [], rfl, rfl, Nat.le_refl _, Nat.zero_le _, .nil _ _ _ _ _, by simp [bts], by simp, Below.refl _ _⟩
  case round =>
    obtain ⟨f, i, out, rfl, rfl, hfi, hi, hO, hw, hno, hB⟩ := hrel
    have hol : out.length ≤ 65537 := by
      have h1 := congrArg List.length hw
      have h2 := hlH.out
      rw [List.length_append] at h1
      unfold bts at h1
      rw [List.length_map] at h1
      omega
    have hsz : (t.extract f i).size ≤ 65536 := by rw [ByteArray.size_extract]; omega
    by_cases hlt : i < t.size
    · have hil : ((i : Int) < (t.size : Int)) = True := eq_true (by omega)
      have hsp : (t.data.toList.drop f).drop (i - f) = (t[i]'hlt) :: t.data.toList.drop (i + 1) := by
        rw [List.drop_drop, show f + (i - f) = i by omega]
        exact drop_cons hlt
      by_cases hm : t[i]'hlt = m
      · have hq : (((t[i]'hlt).toNat : Int) == (m.toNat : Int)) = true := by rw [hm]; simp
        obtain ⟨v', W', hrun, ho, hg, -⟩ := OwnL.push (P := Tryd.prog) (t := 51) (ty := 51) hO Tryd.underlying51 infoStr rfl (vs := [.string (t.extract f i)]) (x := t.extract f i) ⟨rfl, by unfold big; omega⟩ (by omega) (by unfold big; omega) hB.size
        have hrel : wdR t m w v' (.int .i64 ((i : Int) + 1)) (.int .i64 ((i : Int) + 1)) W' := by
          refine ⟨i + 1, i + 1, out ++ [t.extract f i], by go_num, by go_num, Nat.le_refl _, by omega, ho, ?_, by simp, hB.grown hg hB.size (fun k e => (OwnL.lt hO k e).1)⟩
          rw [← hw]
          have h2 : t.data.toList.drop f = (t.data.toList.drop f).take (i - f) ++ m :: t.data.toList.drop (i + 1) := by
            rw [← hm, ← hsp, List.take_append_drop]
          rw [h2, wordsB_at hno]
          unfold bts
          rw [List.map_append, List.append_assoc, List.map_singleton, extract_bytes]
          have h3 : ((List.take (i - f) (List.drop f t.data.toList) ++ m :: List.drop (i + 1) t.data.toList)) = List.drop f t.data.toList := h2.symm
          rfl
        have hrelH := Lib.hid hrel
        clear hrel hO hB hw hno hsp ho hg hol hsz hm
        go_wp2_with (at_builtin; refine wpList_append_run rfl _ _ _ rfl rfl rfl hrun ?_)
        all_goals go_roundw
        all_goals first | exact hrelH.out | (simp [intOf]; done) | (simp [intOf]; omega)
      · have hq : (((t[i]'hlt).toNat : Int) == (m.toNat : Int)) = false := by
          rw [beq_eq_false_iff_ne]; intro e; exact hm (UInt8.toNat_inj.1 (by show (t[i]'hlt).toNat = m.toNat; omega))
        have hrel : wdR t m w u5 (.int .i64 (f : Int)) (.int .i64 ((i : Int) + 1)) wr := by
          refine ⟨f, i + 1, out, rfl, by go_num, by omega, by omega, hO, hw, ?_, hB⟩
          have hl2 : i - f < (t.data.toList.drop f).length := by rw [List.length_drop, htl]; omega
          rw [show i + 1 - f = i - f + 1 by omega, List.take_succ_eq_append_getElem hl2, List.mem_append, List.mem_singleton, not_or]
          refine ⟨hno, fun e => hm ?_⟩
          rw [List.drop_eq_getElem_cons hl2] at hsp
          rw [e]
          exact (List.cons.inj hsp).1.symm
        have hrelH := Lib.hid hrel
        clear hrel hO hB hw hno hsp hol hsz hm
        go_wp2_with fail
        all_goals go_roundw
        all_goals first | exact hrelH.out | (simp [intOf]; done) | (simp [intOf]; omega)
    · obtain rfl : i = t.size := by omega
      rw [List.take_of_length_le (by rw [List.length_drop, htl]; exact Nat.le_refl _)] at hno
      rw [wordsB_no hno] at hw
      obtain ⟨v', W', hrun, ho, hg, -⟩ := OwnL.push (P := Tryd.prog) (t := 51) (ty := 51) hO Tryd.underlying51 infoStr rfl (vs := [.string (t.extract f t.size)]) (x := t.extract f t.size) ⟨rfl, by unfold big; omega⟩ (by omega) (by unfold big; omega) hB.size
      have hfin : retW (wordsB m t.data.toList) w (.returned v') W' := by
        refine ⟨v', _, rfl, ho, ?_, hB.grown hg hB.size (fun k e => (OwnL.lt hO k e).1)⟩
        rw [← hw]
        unfold bts
        rw [List.map_append, List.map_singleton, extract_bytes, List.take_of_length_le (by rw [List.length_drop, htl]; exact Nat.le_refl _)]
      have hfinH := Lib.hid hfin
      clear hfin hO hB hw hno ho hg hol hsz
      go_wp2_with (at_builtin; refine wpList_append_run rfl _ _ _ rfl rfl rfl hrun ?_)
      all_goals go_ret
      all_goals exact hfinH.out
/-! ### Numbers -/
def retNs (l : List (List UInt8)) (w : World) (e : Ending) (w' : World) : Prop :=
  ∃ v ns, e = .returned (.tuple #[v, .bool (l.mapM numR).isSome]) ∧ OwnI w' w.heap.size v ns ∧ (∀ ms, l.mapM numR = some ms → ns = ms) ∧ Below w.heap.size w w'
def nsR (l : List (List UInt8)) (w : World) (vO iV : Value) (wr : World) : Prop :=
  ∃ (k : Nat) (ns : List Int), iV = .int .i64 k ∧ k ≤ l.length ∧ OwnI wr w.heap.size vO ns ∧ ns.length = k ∧ (l.take k).mapM numR = some ns ∧ Below w.heap.size w wr
theorem mapM_snoc {l : List (List UInt8)} {x : List UInt8} : (l ++ [x]).mapM numR = (l.mapM numR).bind fun ns => (numR x).bind fun n => some (ns ++ [n]) := by
  induction l with
  | nil => simp [List.mapM_cons]
  | cons a l ih =>
    rw [List.cons_append, List.mapM_cons, List.mapM_cons, ih]
    cases numR a with
    | none => rfl
    | some v =>
      cases l.mapM numR with
      | none => rfl
      | some vs =>
        cases numR x with
        | none => rfl
        | some u => rfl
theorem mapM_none : ∀ {l : List (List UInt8)} {k : Nat}, (l.take k).mapM numR = none → l.mapM numR = none
  | [], k, h => by simp at h
  | a :: l, 0, h => by simp at h
  | a :: l, k + 1, h => by
    rw [List.take_succ_cons, List.mapM_cons] at h
    rw [List.mapM_cons]
    cases ha : numR a with
    | none => rfl
    | some v =>
      rw [ha] at h
      cases hl : (l.take k).mapM numR with
      | none => rw [mapM_none hl]; rfl
      | some vs => rw [hl] at h; simp at h
end Go.Proofs.YtljkojpooajlhaaDoor

/- Walks: lemmaryref01.Format. -/
namespace Go.Proofs.YtljkojpooajlhaaDoor
open Go Go.RowKit Go.Maps

theorem ent_len {x : ByteArray × Int} (h : entOk x = true) : (entB x).length ≤ 10 := by
  obtain ⟨-, -, h3, h4⟩ := ent_parts h
  unfold entOk nameOk at h
  simp only [Bool.and_eq_true, decide_eq_true_eq] at h
  have h8 := h.1.1.2
  unfold entB
  rw [List.length_append, List.length_cons, dec_dgv (by omega), (dig4 _ (by omega)).1, Array.length_toList]
  have : x.1.data.size = x.1.size := rfl
  omega
theorem preF_len {s : Sg} (h : okSign s = true) : ∀ j, j ≤ s.length → (preF s j).length ≤ 11 * j
  | 0, _ => by rw [preF_zero]; simp
  | j + 1, hj => by
    have ih := preF_len h j (by omega)
    have he := ent_len ((okSign_ents h).1 s[j] (List.getElem_mem (by omega)))
    rw [preF_succ (by omega)]
    split
    · omega
    · rw [List.length_append, List.length_cons]; omega
set_option maxHeartbeats 2000000 in
theorem rFormatS_any {S : Nat → Prop} (a : Option Addr) (c : Nat) (s : Sg) (w : World) (h : Sign S w a c s) :
    Calls Tryd.prog 10 #[.slice a s.length c] w fun e w' => e = .returned (.string (toB (fmtM s))) ∧ Below w.heap.size w w' := by
  have m1 := h.le
  have v1 := Lib.hid (rValidSign_any a c s w h)
  cases hx : okSign s with
  | false =>
    rw [hx] at v1
    have hR := Lib.hid (show toB (fmtM s) = ⟨#[]⟩ by unfold fmtM; rw [if_neg (by simp [hx])]; rfl)
    clear h hx
    go_enter Tryd.func10, Tryd.ntmps10
    go_wp2_with fail
    refine v1.out.mono ?_
    rintro e w1 ⟨rfl, hd1⟩
    go_wp2_with fail
    go_ret
    rw [hR.out]
    exact ⟨rfl, hd1.below _⟩
  | true =>
  rw [hx] at v1
  have hxH := Lib.hid hx
  have hH := Lib.hid h
  clear h hx
  go_enter Tryd.func10, Tryd.ntmps10
  go_wp2_with fail
  refine v1.out.mono ?_
  rintro e w1 ⟨rfl, hd1⟩
  have hb1 := Lib.hid (hd1.below w.heap.size)
  clear hd1
  go_wp2_with fail
  go_loopw [3, 4] (fun o i wr => ∃ j : Nat, i = .int .i64 j ∧ j ≤ s.length ∧ o = .string (toB (preF s j)) ∧ Below w.heap.size w wr) (fun _ i _ => s.length - (intOf i).toNat)
  case atStart => exact ⟨0, rfl, Nat.zero_le _, rfl, hb1.out⟩
  case round =>
    obtain ⟨j, rfl, hj, rfl, hB⟩ := hrel
    by_cases hlt : j < s.length
    · obtain ⟨b, o, rfl, -, q1, q2, -, -⟩ := (hH.out.below hB).sym j hlt
      obtain ⟨e1, e2, e3, e4⟩ := ent_parts ((okSign_ents hxH.out).1 s[j] (List.getElem_mem hlt))
      obtain ⟨-, -, h12⟩ := okSign_ents hxH.out
      have h8 := ent_len ((okSign_ents hxH.out).1 s[j] (List.getElem_mem hlt))
      obtain ⟨v, hv⟩ : ∃ v : Nat, s[j].2 = (v : Int) := ⟨s[j].2.toNat, by omega⟩
      have hv4 : v < 4 := by omega
      have hent : entB s[j] = s[j].1.data.toList ++ 47 :: Lib.decDigits v := by unfold entB; rw [hv]; rfl
      rw [hv] at q2
      obtain ⟨X, hX⟩ : ∃ X, s[j].1 = X := ⟨_, rfl⟩
      have hXs : X.size ≤ 10 := by
        rw [hent, List.length_append, hX, Array.length_toList] at h8
        have : X.data.size = X.size := rfl
        omega
      rw [hX] at q1
      have hd := digN_any v (by omega)
      have hlen := dec_len (v := v) (by omega)
      obtain ⟨D, hD⟩ : ∃ D : ByteArray, (⟨(Lib.decDigits v).toArray⟩ : ByteArray) = D := ⟨_, rfl⟩
      have hDs : D.size ≤ 2 := by rw [← hD]; exact hlen
      rw [hD] at hd
      have hdH := Lib.hid hd
      have hBH := Lib.hid hB
      clear hd hlen e1 e2 e3 e4 h8 hv
      by_cases hj0 : j = 0
      · have hj0i : ((0 : Int) < (j : Int)) = False := eq_false (by omega)
        have hj0n : (0 < j) = False := eq_false (by omega)
        have hcat : (X ++ (⟨#[47]⟩ : ByteArray)) ++ D = toB (preF s (j + 1)) := by
          rw [preF_succ hlt, if_pos hj0, hent, ← hX, ← hD, show s[j].1.data.toList ++ 47 :: Lib.decDigits v = (s[j].1.data.toList ++ [47]) ++ Lib.decDigits v by simp, ← toB_append, ← toB_append]
          rfl
        have hP : toB (preF s j) = ⟨#[]⟩ := by rw [hj0]; rfl
        rw [hP]
        have s1 : (9223372036854775807 < 0 + X.size) = False := eq_false (by omega)
        have s2 : (9223372036854775807 < X.size + 1) = False := eq_false (by omega)
        have s3 : (9223372036854775807 < X.size + 1 + D.size) = False := eq_false (by omega)
        have s4 : (9223372036854775807 < X.size) = False := eq_false (by omega)
        have hr := Lib.hid (fun wr' (hb : Below w.heap.size w wr') => (⟨j + 1, rfl, hlt, congrArg Value.string hcat, hb⟩ : ∃ q : Nat, Value.int .i64 ((j : Int) + 1) = .int .i64 q ∧ q ≤ s.length ∧ Value.string ((X ++ (⟨#[47]⟩ : ByteArray)) ++ D) = .string (toB (preF s q)) ∧ Below w.heap.size w wr'))
        clear hcat hP hj0 hent hX hD hB
        go_wp2_with fail
        go_quiet ((go_at_call 23; (with_reducible exact quiet_left (hdH.out _))))
        all_goals go_wp2_with fail
        go_roundw
        case rel => exact hr.out _ (below_drewN hBH.out _)
        case measure => simp [intOf]; omega
      · have hj0i : ((0 : Int) < (j : Int)) = True := eq_true (by omega)
        have hj0n : 0 < j := by omega
        have hPl := preF_len hxH.out j hj
        have hPz := toB_size (preF s j)
        obtain ⟨P, hP⟩ : ∃ P, toB (preF s j) = P := ⟨_, rfl⟩
        have hcat : (((P ++ (⟨#[32]⟩ : ByteArray)) ++ X) ++ (⟨#[47]⟩ : ByteArray)) ++ D = toB (preF s (j + 1)) := by
          rw [preF_succ hlt, if_neg hj0, hent, ← hX, ← hD, ← hP]
          rw [show (preF s j) ++ 32 :: (s[j].1.data.toList ++ 47 :: Lib.decDigits v) = (((preF s j ++ [32]) ++ s[j].1.data.toList) ++ [47]) ++ Lib.decDigits v by simp, ← toB_append, ← toB_append, ← toB_append]
          rfl
        rw [hP] at hPz
        rw [hP]
        have s1 : (9223372036854775807 < P.size + 1) = False := eq_false (by omega)
        have s2 : (9223372036854775807 < P.size + 1 + X.size) = False := eq_false (by omega)
        have s3 : (9223372036854775807 < P.size + 1 + X.size + 1) = False := eq_false (by omega)
        have s4 : (9223372036854775807 < P.size + 1 + X.size + 1 + D.size) = False := eq_false (by omega)
        have hr := Lib.hid (fun wr' (hb : Below w.heap.size w wr') => (⟨j + 1, rfl, hlt, congrArg Value.string hcat, hb⟩ : ∃ q : Nat, Value.int .i64 ((j : Int) + 1) = .int .i64 q ∧ q ≤ s.length ∧ Value.string ((((P ++ (⟨#[32]⟩ : ByteArray)) ++ X) ++ (⟨#[47]⟩ : ByteArray)) ++ D) = .string (toB (preF s q)) ∧ Below w.heap.size w wr'))
        clear hcat hP hj0 hent hX hD hB hPl hPz
        go_wp2_with fail
        go_quiet ((go_at_call 23; (with_reducible exact quiet_left (hdH.out _))))
        all_goals go_wp2_with fail
        go_roundw
        case rel => exact hr.out _ (below_drewN hBH.out _)
        case measure => simp [intOf]; omega
    · have hjj : j = s.length := by omega
      have hR := Lib.hid (show toB (preF s j) = toB (fmtM s) by rw [hjj, preF_end hxH.out])
      have hBH := Lib.hid hB
      clear hB
      go_wp2_with fail
      go_ret
      exact ⟨congrArg (fun b => Ending.returned (.string b)) hR.out, hBH.out⟩
end Go.Proofs.YtljkojpooajlhaaDoor

/- Walks: term.Format. -/
namespace Go.Proofs.YtljkojpooajlhaaDoor
open Go Go.RowKit Go.Maps

def entS (s : Sg) : List ByteArray := s.map fun x => toB (entB x)
theorem entS_len (s : Sg) : (entS s).length = s.length := by unfold entS; rw [List.length_map]
theorem entS_take {s : Sg} {j : Nat} (hj : j < s.length) : entS (s.take (j + 1)) = entS (s.take j) ++ [toB (entB s[j])] := by
  unfold entS
  rw [List.take_succ_eq_append_getElem hj, List.map_append]; rfl
theorem entS_join {s : Sg} (h : okSign s = true) : Lib.join ((entS s).map (·.data.toList)) [32] = fmtM s := by
  rw [join_joinM]
  unfold fmtM entS
  rw [if_pos h, List.map_map]
  rfl
theorem fmtM_len {s : Sg} (h : okSign s = true) : (fmtM s).length ≤ 200 := by
  have h1 := preF_len h s.length (Nat.le_refl _)
  rw [preF_end h] at h1
  have := (okSign_ents h).2.2
  omega
set_option maxRecDepth 100000 in
set_option maxHeartbeats 2000000 in
theorem pFormat_any {S : Nat → Prop} (a : Option Addr) (c : Nat) (s : Sg) (w : World) (h : Sign S w a c s) :
    Calls Tryd.prog 9 #[.slice a s.length c] w fun e w' => e = .returned (.string (toB (fmtM s))) ∧ Below w.heap.size w w' := by
  have m1 := h.le
  have v1 := Lib.hid (ValidSign_any a c s w h)
  cases hx : okSign s with
  | false =>
    rw [hx] at v1
    have hR := Lib.hid (show toB (fmtM s) = ⟨#[]⟩ by unfold fmtM; rw [if_neg (by simp [hx])]; rfl)
    clear h hx
    go_enter Tryd.func9, Tryd.ntmps9
    go_wp2_with fail
    refine v1.out.mono ?_
    rintro e w1 ⟨rfl, hd1⟩
    go_wp2_with fail
    go_ret
    rw [hR.out]
    exact ⟨rfl, hd1⟩
  | true =>
  rw [hx] at v1
  have hxH := Lib.hid hx
  have hH := Lib.hid h
  have h12 := (okSign_ents hx).2.2
  clear h hx
  go_enter Tryd.func9, Tryd.ntmps9
  go_wp2_with fail
  refine v1.out.mono ?_
  rintro e w1 ⟨rfl, hb1⟩
  have hb1H := Lib.hid hb1
  clear hb1
  go_wp2_with fail
  go_loopw [3, 11] (fun o i wr => ∃ j : Nat, i = .int .i64 j ∧ j ≤ s.length ∧ OwnS wr w.heap.size o (entS (s.take j)) ∧ Below w.heap.size w wr) (fun _ i _ => s.length - (intOf i).toNat)
  case atStart => exact ⟨0, rfl, Nat.zero_le _, .nil _ _ _ _ _, hb1H.out⟩
  case round =>
    obtain ⟨j, rfl, hj, hO, hB⟩ := hrel
    by_cases hlt : j < s.length
    · obtain ⟨b, o2, rfl, -, q1, q2, -, -⟩ := (hH.out.below hB).sym j hlt
      obtain ⟨e1, e2, e3, e4⟩ := ent_parts ((okSign_ents hxH.out).1 s[j] (List.getElem_mem hlt))
      have h8 := ent_len ((okSign_ents hxH.out).1 s[j] (List.getElem_mem hlt))
      obtain ⟨v, hv⟩ : ∃ v : Nat, s[j].2 = (v : Int) := ⟨s[j].2.toNat, by omega⟩
      have hv4 : v < 4 := by omega
      have hent : entB s[j] = s[j].1.data.toList ++ 47 :: Lib.decDigits v := by unfold entB; rw [hv]; rfl
      rw [hv] at q2
      obtain ⟨X, hX⟩ : ∃ X, s[j].1 = X := ⟨_, rfl⟩
      have hXs : X.size ≤ 10 := by
        rw [hent, List.length_append, hX, Array.length_toList] at h8
        have : X.data.size = X.size := rfl
        omega
      rw [hX] at q1
      have hd := fun W => Itoa_small v (by omega) W
      have hlen := dec_len (v := v) (by omega)
      obtain ⟨D, hD⟩ : ∃ D : ByteArray, (⟨(Lib.decDigits v).toArray⟩ : ByteArray) = D := ⟨_, rfl⟩
      have hDs : D.size ≤ 2 := by rw [← hD]; exact hlen
      rw [hD] at hd
      have hcat : (X ++ (⟨#[47]⟩ : ByteArray)) ++ D = toB (entB s[j]) := by
        rw [hent, ← hX, ← hD, show s[j].1.data.toList ++ 47 :: Lib.decDigits v = (s[j].1.data.toList ++ [47]) ++ Lib.decDigits v by simp, ← toB_append, ← toB_append]
        rfl
      have s2 : (9223372036854775807 < X.size + 1) = False := eq_false (by omega)
      have s3 : (9223372036854775807 < X.size + 1 + D.size) = False := eq_false (by omega)
      obtain ⟨W1, hW1⟩ : ∃ W1, (wr.alloc (.cells #[.string X, .int .i64 v] 36)).drew = W1 := ⟨_, rfl⟩
      have hb2 : Below wr.heap.size wr W1 := by rw [← hW1]; exact (below1 wr _).drew
      have hO1 := OwnL.call hO hb2
      have hB1 : Below w.heap.size w W1 := bcall hB hb2
      obtain ⟨v', W', hrun, ho, hg, -⟩ := OwnL.push (P := Tryd.prog) (t := 51) (ty := 51) hO1 Tryd.underlying51 infoStr rfl (vs := [.string ((X ++ (⟨#[47]⟩ : ByteArray)) ++ D)]) (x := (X ++ (⟨#[47]⟩ : ByteArray)) ++ D) ⟨rfl, by rw [ByteArray.size_append, ByteArray.size_append]; unfold big; show X.size + 1 + D.size ≤ _; omega⟩ (by rw [entS_len, List.length_take]; omega) (by rw [entS_len, List.length_take]; unfold big; omega) hB1.size
      rw [hcat, ← entS_take hlt] at ho
      have hrel : ∃ q : Nat, Value.int .i64 ((j : Int) + 1) = .int .i64 q ∧ q ≤ s.length ∧ OwnS W' w.heap.size v' (entS (s.take q)) ∧ Below w.heap.size w W' := ⟨j + 1, rfl, hlt, ho, hB1.grown hg hB1.size (fun k e => (OwnL.lt hO1 k e).1)⟩
      have hS0 : (wr.alloc (.cells #[.string X, .int .i64 v] 36)).cell? ⟨wr.heap.size, 0, none⟩ = some (.string X) ∧ (wr.alloc (.cells #[.string X, .int .i64 v] 36)).cell? ⟨wr.heap.size, 1, none⟩ = some (.int .i64 (v : Int)) := by
        constructor <;> go_simp
      have hrelH := Lib.hid hrel
      have hdH := Lib.hid hd
      have hWH := Lib.hid hW1
      have hlt5 : ∀ k, u3.ownBlock = some k → k < wr.heap.size := fun k e => (OwnL.lt hO k e).2
      have hWz : W1.heap.size = wr.heap.size + 1 := by rw [← hW1]; simp
      have hkp : W'.heap[wr.heap.size]? = W1.heap[wr.heap.size]? := hg.block _ (by omega) (fun e => by have := hlt5 _ e.symm; omega)
      have hc0 : ∀ o, W'.cell? ⟨wr.heap.size, o, none⟩ = W1.cell? ⟨wr.heap.size, o, none⟩ := fun o => World.cell?_of_block (w := W1) hkp
      have hSb := Lib.hid (show W'.cell? ⟨wr.heap.size, 0, none⟩ = some (.string X) ∧ W'.cell? ⟨wr.heap.size, 1, none⟩ = some (.int .i64 (v : Int)) by rw [hc0, hc0, ← hW1]; exact hS0)
      have hSa := Lib.hid (show (((wr.alloc (.cells #[.string X, .int .i64 v] 36)).alloc (.cells #[.string ((X ++ (⟨#[47]⟩ : ByteArray)) ++ D)] 9)).drew).cell? ⟨wr.heap.size, 0, none⟩ = some (.string X) ∧ (((wr.alloc (.cells #[.string X, .int .i64 v] 36)).alloc (.cells #[.string ((X ++ (⟨#[47]⟩ : ByteArray)) ++ D)] 9)).drew).cell? ⟨wr.heap.size, 1, none⟩ = some (.int .i64 (v : Int)) from
        ⟨cell_later (below1 _ _).drew hS0.1, cell_later (below1 _ _).drew hS0.2⟩)
      have hrun : (Builtin.append_ #[51, 51] 51 #[u3, .slice (some ⟨wr.heap.size + 1, 0, none⟩) 1 1]).run Tryd.prog (((wr.alloc (.cells #[.string X, .int .i64 v] 36)).alloc (.cells #[.string ((X ++ (⟨#[47]⟩ : ByteArray)) ++ D)] 9)).drew) = .ok v' W' := by
        rw [hWz] at hrun
        rw [← hW1] at hrun
        exact hrun
      have hrunH := Lib.hid hrun
      clear hkp hc0 hlt5 hWz hrel ho hg hO1 hB1 hb2 hO hB hcat hd hD hX hent hlen e1 e2 e3 e4 h8 hv hrun hW1
      go_wp2_with fail
      refine wp_region_held_drew (S := fun w' => w'.cell? ⟨wr.heap.size, 0, none⟩ = some (.string X) ∧ w'.cell? ⟨wr.heap.size, 1, none⟩ = some (.int .i64 (v : Int))) (by kernel_rfl) hS0 (fun hS => ?_)
      refine region_take 0 (some 15) (v := ?_) rfl rfl (by kernel_rfl) (by kernel_rfl) (by kernel_rfl) (fun _ _ _ h => h) rfl ?_ hS ?_
      rotate_left
      · (intro w9 hS9; obtain ⟨p0, p1⟩ := hS9; go_simp; try (with_reducible rfl))
      simp only [Act.put, List.setIfInBounds_toArray, List.set_cons_zero, List.set_cons_succ]
      refine region_take 1 (some 16) (v := ?_) rfl rfl (by kernel_rfl) (by kernel_rfl) (by kernel_rfl) (fun _ _ _ h => h) rfl ?_ hS ?_
      rotate_left
      · (intro w9 hS9; obtain ⟨p0, p1⟩ := hS9; go_simp; try (with_reducible rfl))
      simp only [Act.put, List.setIfInBounds_toArray, List.set_cons_zero, List.set_cons_succ]
      refine region_take 2 (some 17) (v := ?_) rfl rfl (by kernel_rfl) (by kernel_rfl) (by kernel_rfl) (fun _ _ _ h => h) rfl ?_ hS ?_
      rotate_left
      · (intro w9 hS9; obtain ⟨p0, p1⟩ := hS9; go_simp; try (with_reducible rfl))
      simp only [Act.put, List.setIfInBounds_toArray, List.set_cons_zero, List.set_cons_succ]
      refine region_take 3 (some 18) (v := ?_) rfl rfl (by kernel_rfl) (by kernel_rfl) (by kernel_rfl) (fun _ _ _ h => h) rfl ?_ hS ?_
      rotate_left
      · (intro w9 hS9; obtain ⟨p0, p1⟩ := hS9; go_simp; try (with_reducible rfl))
      simp only [Act.put, List.setIfInBounds_toArray, List.set_cons_zero, List.set_cons_succ]
      refine region_take 4 (some 19) (v := ?_) rfl rfl (by kernel_rfl) (by kernel_rfl) (by kernel_rfl) (fun _ _ _ h => h) rfl ?_ hS ?_
      rotate_left
      · (intro w9 hS9; obtain ⟨p0, p1⟩ := hS9; go_simp; try (with_reducible rfl))
      simp only [Act.put, List.setIfInBounds_toArray, List.set_cons_zero, List.set_cons_succ]
      refine region_take 5 (some 20) (v := ?_) rfl rfl (by kernel_rfl) (by kernel_rfl) (by kernel_rfl) (fun _ _ _ h => h) rfl ?_ hS ?_
      rotate_left
      · (intro w9 hS9; obtain ⟨p0, p1⟩ := hS9; go_simp; try (with_reducible rfl))
      simp only [Act.put, List.setIfInBounds_toArray, List.set_cons_zero, List.set_cons_succ]
      refine region_call 6 rfl (by kernel_rfl) (fun K hK => ?_)
      go_simp
      (with_reducible refine (hdH.out _).mono ?_)
      rintro e w5 ⟨rfl, rfl⟩
      go_simp
      refine hK.out _ _ hS ?_
      clear hK hS K
      intro hS
      refine region_take 7 (some 22) (v := ?_) rfl rfl (by kernel_rfl) (by kernel_rfl) (by kernel_rfl) (fun _ _ _ h => h) rfl ?_ hS ?_
      rotate_left
      · (intro w9 hS9; obtain ⟨p0, p1⟩ := hS9; go_simp; try (with_reducible rfl))
      simp only [Act.put, List.setIfInBounds_toArray, List.set_cons_zero, List.set_cons_succ]
      refine region_call 8 rfl (by kernel_rfl) (fun K hK => ?_)
      go_simp
      refine hK.out _ _ hSa.out ?_
      clear hK hS K
      intro hS
      refine region_call 9 rfl (by kernel_rfl) (fun K hK => ?_)
      rw [if_pos (by kernel_rfl)]
      refine oper_append_run (.tmp 15) (.tmp 23) _ rfl rfl rfl hrunH.out ?_
      refine hK.out _ _ hSb.out ?_
      clear hK hS K
      intro hS
      simp only [Act.put, List.setIfInBounds_toArray, List.set_cons_zero, List.set_cons_succ]
      refine region_take 10 (some 3) (v := ?_) rfl rfl (by kernel_rfl) (by kernel_rfl) (by kernel_rfl) (fun _ _ _ h => h) rfl ?_ hS ?_
      rotate_left
      · (intro w9 hS9; obtain ⟨p0, p1⟩ := hS9; go_simp; try (with_reducible rfl))
      simp only [Act.put, List.setIfInBounds_toArray, List.set_cons_zero, List.set_cons_succ]
      refine wpAnyH_done (by kernel_rfl) ?_ _
      go_wp2_with fail
      go_roundw
      case rel => exact hrelH.out
      case measure => simp [intOf]; omega
    · obtain rfl : j = s.length := by omega
      rw [List.take_length] at hO
      obtain ⟨aO, cO, rfl, hS⟩ := OwnS.strs hO
      rw [entS_len] at *
      have cj := SJoin_any aO cO (entS s) ⟨#[32]⟩ wr hS (by rw [entS_len]; omega) (by rw [show (⟨#[32]⟩ : ByteArray).data.toList = [32] from rfl, entS_join hxH.out]; have := fmtM_len hxH.out; omega)
      rw [show (⟨#[32]⟩ : ByteArray).data.toList = [32] from rfl, entS_join hxH.out, entS_len] at cj
      have cjH := Lib.hid cj
      have hBH := Lib.hid hB
      clear cj hS hO hB
      go_wp2_with fail
      (with_reducible refine cjH.out.mono ?_)
      rintro e w2 ⟨rfl, hb2⟩
      go_wp2_with fail
      go_ret
      exact ⟨rfl, bcall hBH.out hb2⟩
end Go.Proofs.YtljkojpooajlhaaDoor

/- Walks: lemmaryref01.Parse. -/
namespace Go.Proofs.YtljkojpooajlhaaDoor
open Go Go.RowKit Go.Maps

theorem wordsP_size {m : UInt8} : ∀ {l w : List UInt8}, w ∈ wordsB m l → w.length ≤ l.length
  | [], w, h => by simp [wordsB] at h; subst h; simp
  | c :: r, w, h => by
    rw [wordsB] at h
    split at h
    · rcases List.mem_cons.1 h with h | h
      · subst h; simp
      · have := wordsP_size h; rw [List.length_cons]; omega
    · split at h
      · simp at h; subst h; simp
      · rename_i w1 ws hw
        have ih : ∀ u ∈ wordsB m r, u.length ≤ r.length := fun u hu => wordsP_size hu
        rw [hw] at ih
        rcases List.mem_cons.1 h with h | h
        · subst h; have := ih w1 (by simp); simp; omega
        · have := ih w (by simp [h]); rw [List.length_cons]; omega
theorem mapMo_snoc {α β : Type} {f : α → Option β} {l : List α} {x : α} : (l ++ [x]).mapM f = (l.mapM f).bind fun ns => (f x).bind fun n => some (ns ++ [n]) := by
  induction l with
  | nil => simp [List.mapM_cons]
  | cons a l ih =>
    rw [List.cons_append, List.mapM_cons, List.mapM_cons, ih]
    cases f a with
    | none => rfl
    | some v =>
      cases l.mapM f with
      | none => rfl
      | some vs =>
        cases f x with
        | none => rfl
        | some u => rfl
theorem mapMo_none {α β : Type} {f : α → Option β} : ∀ {l : List α} {k : Nat} (h : k < l.length), f l[k] = none → l.mapM f = none
  | a :: l, 0, _, h => by
    rw [List.mapM_cons, show f a = none from h]; rfl
  | a :: l, k + 1, hk, h => by
    rw [List.mapM_cons, mapMo_none (l := l) (k := k) (by simpa using hk) (by simpa using h)]
    cases f a <;> rfl
theorem ba_list_len (b : ByteArray) : b.data.toList.length = b.size := Array.length_toList
theorem bts_len (l : List ByteArray) : (bts l).length = l.length := by unfold bts; rw [List.length_map]
theorem bts_get {l : List ByteArray} {k : Nat} (h : k < l.length) : (bts l)[k]'(by rw [bts_len]; exact h) = l[k].data.toList := by simp [bts]
theorem refW_len {w : List UInt8} (h : (wordsB 47 w).length ≠ 2) : refW w = none := by
  unfold refW
  split
  · rename_i a b hw; rw [hw] at h; exact (h rfl).elim
  · rfl
theorem refW_two {w a b : List UInt8} (h : wordsB 47 w = [a, b]) : refW w = (numR b).map (fun n => ((⟨a.toArray⟩ : ByteArray), n)) := by
  unfold refW; rw [h]
/-- the loop over the words -/
def rpsR (L : List ByteArray) (w : World) (vO iV : Value) (wr : World) : Prop :=
  ∃ (k : Nat) (sg : Sg), iV = .int .i64 k ∧ k ≤ L.length ∧ OwnSg wr w.heap.size vO sg ∧ sg.length = k ∧ ((bts L).take k).mapM refW = some sg ∧ Below w.heap.size w wr
set_option maxRecDepth 100000 in
set_option maxHeartbeats 4000000 in
theorem rParseS_any {av : List UInt8 → Int} (ha : ∀ v, v < 4 → av (Lib.decDigits v) = (v : Int)) (t : ByteArray) (w : World) :
    Calls Tryd.prog 7 #[.string t] w (retSgE (parseS av t.data.toList) w) := by
  by_cases hz : t.size ≤ 65536
  · have hl : t.data.toList.length ≤ 65536 := by rw [ba_list_len]; exact hz
    obtain ⟨hy, hn⟩ := parse_ref ha hl
    obtain ⟨R, hRR⟩ : ∃ R, parseS av t.data.toList = R := ⟨_, rfl⟩
    rw [hRR] at hy hn ⊢
    have hyH := Lib.hid hy
    have hnH := Lib.hid hn
    have cw := Lib.hid (Words_any t 32 hz w)
    clear hy hn hRR
    go_enter Tryd.func7, Tryd.ntmps7
    go_wp2_with fail
    refine cw.out.mono ?_
    rintro e w1 ⟨v, L, rfl, hO, hL, hb1⟩
    obtain ⟨aL, cL, rfl, hS⟩ := OwnS.strs hO
    have hwl := wordsB_len 32 t.data.toList
    have hll : L.length ≤ 65537 := by rw [← bts_len, hL]; omega
    have hws : ∀ b ∈ L, b.size ≤ 65536 := fun b hb => by
      have : b.data.toList ∈ wordsB 32 t.data.toList := by rw [← hL]; exact List.mem_map_of_mem hb
      have := wordsP_size this
      rw [ba_list_len] at this; omega
    have hSH := Lib.hid hS
    have hLH := Lib.hid hL
    have hb1H := Lib.hid hb1
    have hwsH := Lib.hid hws
    clear cw hO hL hS hb1 hwl hws
    go_wp2_with fail
    go_loopw [5, 6] (fun vO iV wr => rpsR L w1 vO iV wr) (fun _ iV _ => L.length - (intOf iV).toNat)
    case atStart => exact ⟨0, [], rfl, Nat.zero_le _, .nil _ _ _ _ _, rfl, rfl, .refl _ _⟩
    case round =>
      obtain ⟨k, sg, rfl, hk, hO, hsl, hmp, hB⟩ := hrel
      have hslH := Lib.hid hsl
      clear hsl
      by_cases hlt : k < L.length
      · obtain ⟨bL, oL, rfl, -, q0, -⟩ := (hSH.out.below hB).str k hlt
        have hsz := hwsH.out _ (List.getElem_mem hlt)
        have hgk := bts_get hlt
        have hno := fun (h : refW L[k].data.toList = none) => hnH.out (fun s hs => by
          have h2 : refP t.data.toList = none := by
            unfold refP
            rw [← hLH.out]
            exact mapMo_none (k := k) (by rw [bts_len]; exact hlt) (by rw [hgk]; exact h)
          rw [h2] at hs; cases hs)
        have hsn : ∀ y, refW L[k].data.toList = some y → ((bts L).take (k + 1)).mapM refW = some (sg ++ [y]) := fun y hy => by
          rw [List.take_succ_eq_append_getElem (by rw [bts_len]; exact hlt), mapMo_snoc, hmp, hgk, hy]; rfl
        obtain ⟨X, hX⟩ : ∃ X, L[k] = X := ⟨_, rfl⟩
        rw [hX] at q0 hsz hno hsn
        have cw2 := Lib.hid (fun W => Words_any X 47 hsz W)
        have hnoH := Lib.hid hno
        have hsnH := Lib.hid hsn
        have hOH := Lib.hid hO
        have hBH := Lib.hid hB
        clear hno hsn hX hgk hmp hO hB
        go_wp2_with fail
        refine (cw2.out _).mono ?_
        rintro e w2 ⟨v2, P, rfl, hO2, hP, hb2⟩
        obtain ⟨aP, cP, rfl, hS2⟩ := OwnS.strs hO2
        have hwl2 := wordsB_len 47 X.data.toList
        rw [← hP, bts_len, ba_list_len] at hwl2
        have hB2 := Lib.hid (bcall hBH.out hb2)
        have hO2' := Lib.hid (OwnL.call hOH.out hb2)
        by_cases h2 : P.length = 2
        · obtain ⟨A, B, rfl⟩ : ∃ A B, P = [A, B] := by
            match P, h2 with
            | [A, B], _ => exact ⟨A, B, rfl⟩
          have hP2 : wordsB 47 X.data.toList = [A.data.toList, B.data.toList] := hP.symm
          obtain ⟨bP, oP, rfl, -, p0, -⟩ := hS2.str 0 (by simp)
          have p1 : w2.cell? ⟨bP, oP + 1, none⟩ = some (.string B) := by
            obtain ⟨b', o', he, -, p1, -⟩ := hS2.str 1 (by simp)
            cases he; exact p1
          simp only [Nat.add_zero, List.getElem_cons_zero] at p0
          have hAs : A.size ≤ 65536 := by
            have : A.data.toList ∈ wordsB 47 X.data.toList := by rw [hP2]; simp
            have := wordsP_size this
            rw [ba_list_len, ba_list_len] at this; omega
          have hBs : B.size ≤ 65536 := by
            have : B.data.toList ∈ wordsB 47 X.data.toList := by rw [hP2]; simp
            have := wordsP_size this
            rw [ba_list_len, ba_list_len] at this; omega
          have hrf := refW_two hP2
          have cn := fun W => Number_any B hBs W
          cases hnx : numR B.data.toList with
          | none =>
            rw [hnx] at hrf
            have hR := Lib.hid (hnoH.out hrf)
            have cnH := Lib.hid cn
            have hnxH := Lib.hid hnx
            clear cn hrf hP2 hP hS2 hO2 hb2 hwl2 hnx h2
            go_wp2_with fail
            refine (cnH.out _).mono ?_
            rintro e w3 ⟨n, rfl, -, -, rfl⟩
            rw [hnxH.out]
            go_wp2_with fail
            go_ret2
            rw [hR.out]
            exact ⟨_, rfl, .nil _ _ _ _ _, bcall hb1H.out hB2.out⟩
          | some n =>
            rw [hnx] at hrf
            have hcn : ∀ W, Calls Tryd.prog 18 #[.string B] W fun e w' => e = .returned (.tuple #[.int .i64 n, .bool true]) ∧ inRange n ∧ W = w' := fun W => (cn W).mono fun e w' hh => by
              obtain ⟨n', h1, h2, h3, h4⟩ := hh
              have := h2 n hnx
              subst this
              rw [hnx] at h1
              exact ⟨h1, h3, h4⟩
            have hst := hsnH.out (A, n) hrf
            have hcnH := Lib.hid hcn
            have hstH := Lib.hid hst
            clear cn hcn hst hrf hP2 hP hS2 hO2 hb2 hwl2 hnx h2
            go_wp2_with fail
            refine (hcnH.out _).mono ?_
            rintro e w3 ⟨rfl, hnr, rfl⟩
            have hO := hO2'.out
            have hB := hB2.out
            have hsl := hslH.out
            obtain ⟨v', W', hrun, ho, hg, -⟩ := OwnL.push (P := Tryd.prog) (t := 23) (ty := 23) hO Tryd.underlying23 infoSg rfl (vs := [.string A, .int .i64 n]) (x := (A, n)) ⟨[.string A], [.int .i64 n], rfl, ⟨rfl, show A.size ≤ big by unfold big; omega⟩, ⟨rfl, hnr⟩⟩ (by omega) (by unfold big; omega) hB.size
            have hrel : rpsR L w1 v' (.int .i64 ((k : Int) + 1)) W' := ⟨k + 1, _, by go_num, by omega, ho, by simp [hsl], hstH.out, hB.grown hg hB.size (fun k e => (OwnL.lt hO k e).1)⟩
            have hrelH := Lib.hid hrel
            clear hrel hO hB ho hg hsl
            go_wp2_with (at_builtin; refine wpList_append_run rfl _ _ _ rfl rfl rfl hrun ?_)
            go_roundw
            case rel => exact hrelH.out
            case measure => simp [intOf]; omega
        · have hR := Lib.hid (hnoH.out (refW_len (by rw [← hP, bts_len]; exact h2)))
          have hne : ((P.length : Int) != 2) = true := by rw [bne_iff_ne]; omega
          clear hP hS2 hO2 hb2 hwl2 h2
          go_wp2_with fail
          go_ret2
          rw [hR.out]
          exact ⟨_, rfl, .nil _ _ _ _ _, bcall hb1H.out hB2.out⟩
      · have hkL := Lib.hid (show k = L.length by omega)
        rw [List.take_of_length_le (by rw [bts_len, hkL.out]; exact Nat.le_refl _), hLH.out] at hmp
        have hnl : ((k : Int) < (L.length : Int)) = False := eq_false (by omega)
        obtain ⟨aO, cO, rfl, hSg⟩ := OwnSg.sg hO
        have cv := rValidSign_any aO cO sg wr hSg
        have hO2 := Lib.hid (fun w2 (hb : Below wr.heap.size wr w2) => OwnL.call hO hb)
        have hBH := Lib.hid hB
        cases hok : okSign sg with
        | false =>
          have hR := Lib.hid (hnH.out (fun s hs => by have := Option.some.inj (hs.symm.trans hmp); subst this; exact hok))
          rw [hok] at cv
          have cvH := Lib.hid cv
          clear cv hok hmp hSg hO hB
          go_wp2_with fail
          refine cvH.out.mono ?_
          rintro e w3 ⟨rfl, hd⟩
          go_wp2_with fail
          go_ret2
          rw [hR.out]
          exact ⟨_, rfl, .nil _ _ _ _ _, bcall hb1H.out (bcall hBH.out (hd.below _))⟩
        | true =>
          have hR := Lib.hid (hyH.out sg hmp hok)
          rw [hok] at cv
          have cvH := Lib.hid cv
          clear cv hok hmp hSg hO hB
          go_wp2_with fail
          refine cvH.out.mono ?_
          rintro e w3 ⟨rfl, hd⟩
          go_wp2_with fail
          go_ret2
          rw [hR.out]
          exact ⟨_, rfl, OwnL.baseMono (hO2.out _ (hd.below _)) hb1H.out.size, bcall hb1H.out (bcall hBH.out (hd.below _))⟩
  · have e : parseS av t.data.toList = ([], 3) := by unfold parseS; rw [if_neg (by rw [ba_list_len]; exact hz)]
    rw [e]
    have hgt : (65536 : Int) < t.size := by omega
    clear e
    go_enter Tryd.func7, Tryd.ntmps7
    go_wp2_with fail
    go_ret2
    exact ⟨_, rfl, .nil _ _ _ _ _, .refl _ _⟩
end Go.Proofs.YtljkojpooajlhaaDoor

/- Walks: term.Parse. -/
namespace Go.Proofs.YtljkojpooajlhaaDoor
open Go Go.RowKit Go.Maps

attribute [local go_sem] Oper.semAt_some

theorem avU_dig : ∀ v, v < 4 → avU (Lib.decDigits v) = (v : Int) := fun v hv => by
  rw [dec_dgv (by omega)]
  revert v
  decide +kernel
/-- the symbol of a word -/
def symU (x : ByteArray) : ByteArray × Int := (⟨(Lib.cut x.data.toList [47]).1.toArray⟩, avU (Lib.cut x.data.toList [47]).2.1)
theorem symU_all {xs : List ByteArray} {t : ByteArray} (h : bsU xs = wordsB 32 t.data.toList) : xs.map symU = parP avU t.data.toList := by
  unfold parP
  rw [← h]
  unfold bsU
  rw [List.map_map]
  rfl
theorem atoiSat_range (l : List UInt8) : inRange (Lib.atoiSat l) := by unfold Lib.atoiSat; split <;> (unfold inRange; omega)
theorem fmt_nil {av : List UInt8 → Int} : fmtM (parP av []) = [] := by
  unfold fmtM
  rw [if_neg]
  unfold parP
  rw [show wordsB 32 [] = [[]] from rfl]
  simp only [List.map_cons, List.map_nil]
  intro h
  have := (okSign_ents h).1 _ (List.mem_singleton.2 rfl)
  have := (ent_parts this).2.1
  revert this
  rw [show Lib.cut [] [47] = ([], [], false) from rfl]
  simp
theorem parseS_nil {av : List UInt8 → Int} : parseS av [] = ([], 2) := by
  unfold parseS
  rw [if_pos (by simp), if_neg]
  rintro ⟨h, -⟩
  unfold parP at h
  rw [show wordsB 32 [] = [[]] from rfl] at h
  simp only [List.map_cons, List.map_nil] at h
  have := (okSign_ents h).1 _ (List.mem_singleton.2 rfl)
  have := (ent_parts this).2.1
  revert this
  rw [show Lib.cut [] [47] = ([], [], false) from rfl]
  simp
theorem parseS_ne {av : List UInt8 → Int} {l : List UInt8} (hl : l.length ≤ 65536) (hne : l ≠ []) (h : fmtM (parP av l) = l) : parseS av l = (parP av l, 0) := by
  unfold parseS
  have hok : okSign (parP av l) = true := by
    cases hx : okSign (parP av l) with
    | true => rfl
    | false =>
      unfold fmtM at h
      rw [if_neg (by simp [hx])] at h
      exact (hne h.symm).elim
  rw [if_pos hl, if_pos ⟨hok, h⟩]
theorem parseS_no {av : List UInt8 → Int} {l : List UInt8} (hl : l.length ≤ 65536) (h : ¬ fmtM (parP av l) = l) : parseS av l = ([], 2) := by
  unfold parseS
  rw [if_pos hl, if_neg (fun hc => h hc.2)]
theorem avU_range (l : List UInt8) : inRange (avU l) := by
  unfold avU
  split
  · rename_i v h; exact Lib.atoiAll_bounds h
  · exact atoiSat_range l
  · unfold inRange; omega
theorem symU_ok {x : ByteArray} (h : x.size ≤ 65536) : (symU x).1.size ≤ 65536 ∧ inRange (symU x).2 := by
  refine ⟨?_, avU_range _⟩
  have := (cut_len x.data.toList 47).1
  rw [ba_list_len] at this
  unfold symU
  simp only [ByteArray.size, List.size_toArray]
  omega
theorem OwnL.anySg {S S' : Nat → Prop} {w : World} {base : Nat} {e : TypeId} {v : Value} {l : Sg} (h : OwnL symE S w base e v l) : OwnL symE S' w base e v l := by
  obtain ⟨xs, ho, hl, hx⟩ := h
  exact ⟨xs, ho, hl, fun i h1 h2 => hx i h1 h2⟩
theorem celled_sym : Celled symE := fun _ _ _ _ h => h
theorem ba_tlU (b : ByteArray) : b.toList = b.data.toList := by rw [ByteArray.toList_eq]
theorem wordU_size {xs : List ByteArray} {x : ByteArray} {t : ByteArray} (h : bsU xs = wordsB 32 t.data.toList) (hx : x ∈ xs) : x.size ≤ t.size := by
  have : x.data.toList ∈ wordsB 32 t.data.toList := by rw [← h]; exact List.mem_map_of_mem hx
  have := wordsP_size this
  rw [ba_list_len, ba_list_len] at this
  exact this
set_option maxRecDepth 100000 in
set_option maxHeartbeats 4000000 in
theorem pParse_any (t : ByteArray) (w : World) (hL : LibU w) :
    Calls Tryd.prog 6 #[.string t] w (retSgE (parseS avU t.data.toList) w) := by
  by_cases hz : t.size ≤ 65536
  · have hzH := Lib.hid hz
    have hng : ((65536 : Int) < (t.size : Int)) = False := eq_false (by omega)
    have hLH := Lib.hid hL
    clear hz hL
    refine (callsIn_wide (n := 6)).1 ?_
    refine callsIn_of_wp_marks Tryd.func6 rfl trivial ?_ rfl
    simp only [Tryd.ntmps6, List.size_toArray, List.length_cons, List.length_nil, Nat.reduceAdd, Nat.reduceSub, Array.replicate_succ, Array.replicate_zero, List.push_toArray, List.append_toArray, List.nil_append, List.cons_append]
    gi_wp2_with fail
    refine ⟨trivial, ?_⟩
    gi_at_call 14
    refine (SplitSeq_in _ _ _ _).mono ?_
    rintro e w' ⟨rfl, rfl⟩
    obtain ⟨w1, hw1⟩ : ∃ w1, w.alloc (.cells #[.slice none 0 0] 23) = w1 := ⟨_, rfl⟩
    rw [hw1]
    obtain ⟨W0, hW0⟩ : ∃ W0, splitWld w1 t 32 = W0 := ⟨_, rfl⟩
    rw [hW0]
    have hz1 : w1.heap.size = w.heap.size + 1 := by rw [← hw1]; simp
    have hz0 : W0.heap.size = w1.heap.size + 1 + 1 + 1 := by rw [← hW0]; simp [splitWld]
    have hb1 : Below w.heap.size w w1 := by rw [← hw1]; exact below1 _ _
    have hb0 : Below w1.heap.size w1 W0 := by rw [← hW0]; exact below3 _ _ _ _
    have hbW : Below w.heap.size w W0 := bcall hb1 hb0
    have hv1 : Boxed w1 w.heap.size 23 (.slice none 0 0) := by rw [← hw1]; exact Boxed.new w _ _
    have hv0 : Boxed W0 w.heap.size 23 (.slice none 0 0) := (hb0.block _ hv1.lt).trans hv1
    have hs0 : Boxed W0 w1.heap.size 9 (.string t) := by rw [← hW0]; exact ((Boxed.new w1 _ _).alloc _).alloc _
    have hp0 : Boxed W0 (w1.heap.size + 1) 9 (.string ⟨#[32]⟩) := by
      rw [← hW0]
      have := (Boxed.new (w1.alloc (.cells #[.string t] 9)) 9 (.string ⟨#[32]⟩)).alloc (.cells #[.int .i64 0] 3)
      rw [World.size_alloc] at this
      exact this
    have hq0 : Boxed W0 (w1.heap.size + 1 + 1) 3 (.int .i64 0) := by
      rw [← hW0]
      have := Boxed.new ((w1.alloc (.cells #[.string t] 9)).alloc (.cells #[.string ⟨#[32]⟩] 9)) 3 (.int .i64 0)
      rw [World.size_alloc, World.size_alloc] at this
      exact this
    have hseq := split_seq (6 - 1) w1.heap.size (w1.heap.size + 1) (w1.heap.size + 1 + 1) (t.size + 1) 32 t W0 (Nat.le_refl _) (by have := hzH.out; omega) hs0 hp0 hq0 (by omega) (by omega)
    have hbx : BoxB symE w.heap.size 23 W0.heap.size 36 (([] : List ByteArray).map symU) W0 := ⟨_, hv0, .nil _ _ _ _ _⟩
    have hbxH := Lib.hid hbx
    have hbWH := Lib.hid hbW
    rw [hz1] at hseq hz0
    clear hbx hbW hs0 hp0 hq0 hv0 hv1 hb0 hb1 hW0 hw1
    gi_wp2_with fail
    refine range_relB rfl (by omega) (gf := 42) (lb := #[.pointer (some ⟨w.heap.size + 1 + 1, 0, none⟩), .pointer (some ⟨w.heap.size + 1, 0, none⟩), .pointer (some ⟨w.heap.size + 1 + 1 + 1, 0, none⟩)]) rfl trivial (enters_of Tryd.func42 (by kernel_rfl) rfl)
      hseq (fun W r o h => h.2) (fun h k => h.trans k) (fun W l o o' hl h hc _ => ⟨World.putObj_heap_other (by omega), World.putObj_heap_other (by omega), World.putObj_heap_other (by omega)⟩) (Below.refl _ _) (fun _ => rfl)
      (fun pre W => BoxB symE w.heap.size 23 W0.heap.size 36 (pre.map symU) W ∧ (Below w.heap.size w W ∧ w.heap.size ≤ W.heap.size) ∧ W0.heap.size ≤ W.heap.size)
      (fun _ _ _ => False)
      ?hI (fun _ _ _ _ _ hs _ _ => hs) ?h0
      (fun x a' _ => a' = { tmps := #[.string t, undef, .slice none 0 0, .int .i64 0, .pointer (some ⟨w.heap.size, 0, none⟩), .string x, undef, undef, undef, undef, undef, .string t, .int .i64 t.size, .bool false, .string t, .func (.func 42) #[] #[.pointer (some ⟨w.heap.size + 1 + 1, 0, none⟩), .pointer (some ⟨w.heap.size + 1, 0, none⟩), .pointer (some ⟨w.heap.size + 1 + 1 + 1, 0, none⟩)], .string x, undef, undef, undef, undef, undef, undef, undef, undef, undef, undef, undef, undef, undef, undef, undef, undef, undef, undef, undef, undef, undef, undef, undef, undef, undef, undef], defers := [] } ∧ x.size ≤ 65536)
      (fun x a' => ownFrom_pure _ (fun _ => _)) ?assign ?body ?done ?stop
    case h0 => exact ⟨hbxH.out, ⟨hbWH.out, hbWH.out.size⟩, Nat.le_refl _⟩
    case hI => exact OwnRowsB.and (boxB_own celled_sym (by omega) (by omega) _ _) (OwnRowsB.and (belowB_own (K := w.heap.size) (by omega) _ (by omega)) (fun s A A' row h hg _ => Nat.le_trans h hg.size))
    case assign =>
      intro l pre x W K hi hr hK
      dsimp only
      gi_wp2
      exact hK _ _ (KeepsFrom.refl _ _) ⟨rfl, rfl, rfl⟩ hi ⟨rfl, Nat.le_trans hr hzH.out⟩
    case body =>
      rintro l pre x a' W - - ⟨⟨vv, hv, ho⟩, ⟨hB, hB1⟩, hB2⟩ ⟨rfl, hx⟩ hlen
      have hzz := hzH.out
      obtain ⟨A, hA⟩ : ∃ A, (⟨(Lib.cut x.data.toList [47]).1.toArray⟩ : ByteArray) = A := ⟨_, rfl⟩
      obtain ⟨C, hC⟩ : ∃ C, (⟨(Lib.cut x.data.toList [47]).2.1.toArray⟩ : ByteArray) = C := ⟨_, rfl⟩
      obtain ⟨fl, hfl⟩ : ∃ fl, (Lib.cut x.data.toList [47]).2.2 = fl := ⟨_, rfl⟩
      have hsz := symU_ok hx
      have hse : symU x = (A, avU C.data.toList) := by unfold symU; rw [hA, ← hC]
      rw [hse] at hsz
      have hCs : C.size ≤ 70000 := by
        have := (cut_len x.data.toList 47).2
        rw [ba_list_len] at this
        rw [← hC]
        simp only [ByteArray.size, List.size_toArray]
        omega
      have cc := CutU_any x 47 (by omega) W
      rw [hA, hC, hfl] at cc
      obtain ⟨n, hn⟩ : ∃ n, avU C.data.toList = n := ⟨_, rfl⟩
      have ca := fun W1 (hb : Below W.heap.size W W1) => AtoiU_any C hCs W1 (hLH.out.later (hB.trans (hb.mono hB1)))
      rw [hn] at hsz hse
      simp only [hn] at ca
      obtain ⟨L, hL⟩ : ∃ L, pre.map symU = L := ⟨_, rfl⟩
      have hLl : L.length = pre.length := by rw [← hL, List.length_map]
      rw [hL] at ho
      have hpu := fun (W1 : World) (hb : Below W.heap.size W W1) => boxB_push (P := Tryd.prog) (t := 23) (ty := 23) (x := (A, n)) (vs := [.string A, .int .i64 n]) hv ho (by decide) hB2 (by omega) hb Tryd.underlying23 infoSg rfl ⟨[.string A], [.int .i64 n], rfl, ⟨rfl, show A.size ≤ big by have := hsz.1; unfold big; simp only at this; omega⟩, ⟨rfl, hsz.2⟩⟩ (by omega) (by unfold big; omega)
      have hmap : (pre ++ [x]).map symU = L ++ [(A, n)] := by rw [List.map_append, List.map_cons, List.map_nil, hse, hL]
      have hmapH := Lib.hid hmap
      have ccH := Lib.hid cc
      have caH := Lib.hid ca
      have hpuH := Lib.hid hpu
      have hBH := Lib.hid hB
      clear hA hC hfl hsz hse hCs cc ca hn hpu ho hv hmap hB hL hLl
      gi_wp2_with fail
      refine ⟨trivial, (CallsIn.inRound l (callsIn_wide.2 ccH.out)).mono ?_⟩
      rintro e W1 ⟨rfl, hd1⟩
      have hb1 : Below W.heap.size W W1 := hd1.below _
      have hb1H := Lib.hid hb1
      clear hb1 hd1
      gi_wp2_with fail
      refine ⟨trivial, (CallsIn.inRound l (callsIn_wide.2 (caH.out _ hb1H.out))).mono ?_⟩
      rintro e W2 ⟨ev, rfl, hb2⟩
      have hb2' := Lib.hid (bcall hb1H.out hb2)
      obtain ⟨a5, cap5, W5, r5, z5, q5, f5, s5, k5, l5, b5⟩ := hpuH.out W2 hb2'.out
      have z5 := z5.out
      have q5 := q5.out
      have f5 := f5.out
      have r5 := r5.out
      clear hb2 hpuH
      gi_wp2_with (gi_at_builtin; refine wpListIn_appendU rfl (.tmp 28) (.tmp 32) 23 rfl rfl rfl r5 ?_)
      have hl5 := l5.out
      refine ⟨k5.out.from _, ⟨hl5 (w.heap.size + 1) (by omega) (by omega), hl5 (w.heap.size + 1 + 1) (by omega) (by omega), hl5 (w.heap.size + 1 + 1 + 1) (by omega) (by omega)⟩, by rw [hmapH.out]; exact s5.out, ⟨hBH.out.trans ((b5.out _ (Nat.le_refl _))), ?_⟩, ?_⟩
      · exact Nat.le_trans hB1 (b5.out _ (Nat.le_refl _)).size
      · exact Nat.le_trans hB2 (b5.out _ (Nat.le_refl _)).size
    case done =>
      rintro D ys W hD hys ⟨⟨vv, hv, ho⟩, ⟨hB, hB1⟩, hB2⟩ hK
      have hc := hv.cell
      rw [symU_all hys] at ho
      by_cases ht : t.data.toList = []
      · have hte : (t.toList == ([] : List UInt8)) = true := by rw [ba_tlU, ht]; rfl
        have hR := Lib.hid (show parseS avU t.data.toList = ([], 2) by rw [ht]; exact parseS_nil)
        have hKH := Lib.hid hK
        clear ht hK ho
        gi_wp2_with fail
        refine ⟨trivial, ?_⟩
        gi_wp2_with fail
        refine ⟨by simp, .inl ⟨_, _, rfl, run_takeDeferred hKH.out, ?_⟩⟩
        rw [hR.out]
        exact ⟨_, results_tmp2 rfl _ _ _, _, rfl, .nil _ _ _ _ _, hB.trans (belowK_b (w := w) (Nat.le_refl _) W D _ _ (by omega) hKH.out rfl rfl)⟩
      · have hte : (t.toList == ([] : List UInt8)) = false := by
          rw [ba_tlU, beq_eq_false_iff_ne]; exact ht
        have hzz := hzH.out
        have hll : t.data.toList.length ≤ 65536 := by rw [ba_list_len]; exact hzz
        obtain ⟨G, hG⟩ : ∃ G, parP avU t.data.toList = G := ⟨_, rfl⟩
        have hyes := parseS_ne hll ht (av := avU)
        have hno := parseS_no hll (av := avU)
        rw [hG] at ho hyes hno
        obtain ⟨aG, cG, rfl, hSg⟩ := OwnL.slB ho (fun _ h => h)
        have cf := pFormat_any aG cG G W hSg
        have hKH := Lib.hid hK
        have hoH := Lib.hid (fun W2 (hb : Below W.heap.size W W2) => OwnL.call ho hb)
        have hBH := Lib.hid hB
        obtain ⟨F, hF⟩ : ∃ F, toB (fmtM G) = F := ⟨_, rfl⟩
        rw [hF] at cf
        by_cases hq : F = t
        · have hqe := str_eq hq
          have hR := Lib.hid (hyes (by rw [← hq, ← hF]; rfl))
          have cfH := Lib.hid cf
          clear hyes hno hG ht hll hK ho hSg cf hB hF hq
          gi_wp2_with fail
          refine ⟨trivial, (callsIn_wide.2 cfH.out).mono ?_⟩
          rintro e W2 ⟨rfl, hb2⟩
          have hKD := (hb2.block D (Array.getElem?_eq_some_iff.1 hKH.out).1).trans hKH.out
          have ho2 := hoH.out _ hb2
          have hc2 := cell_later hb2 hc
          have hKDH := Lib.hid hKD
          have ho2H := Lib.hid ho2
          have hbb := Lib.hid (hBH.out.trans (hb2.mono hB1))
          clear hKD ho2 hb2
          gi_wp2_with fail
          refine ⟨by simp, .inl ⟨_, _, rfl, run_takeDeferred hKDH.out, ?_⟩⟩
          rw [hR.out]
          exact ⟨_, results_tmp2 rfl _ _ _, _, rfl, OwnL.anySg (OwnL.baseMono (OwnL.putObj ho2H.out hKDH.out rfl celled_sym) (by omega)), hbb.out.trans (belowK_b (w := w) (Nat.le_refl _) W2 D _ _ (by omega) hKDH.out rfl rfl)⟩
        · have hqe := str_neq hq
          have hR := Lib.hid (hno (fun h => hq (by rw [← hF, h]; rfl)))
          have cfH := Lib.hid cf
          clear hyes hno hG ht hll hK ho hSg cf hB hF hq
          gi_wp2_with fail
          refine ⟨trivial, (callsIn_wide.2 cfH.out).mono ?_⟩
          rintro e W2 ⟨rfl, hb2⟩
          have hKD := (hb2.block D (Array.getElem?_eq_some_iff.1 hKH.out).1).trans hKH.out
          have hKDH := Lib.hid hKD
          have hbb := Lib.hid (hBH.out.trans (hb2.mono hB1))
          clear hKD hb2
          gi_wp2_with fail
          refine ⟨by simp, .inl ⟨_, _, rfl, run_takeDeferred hKDH.out, ?_⟩⟩
          rw [hR.out]
          exact ⟨_, results_tmp2 rfl _ _ _, _, rfl, .nil _ _ _ _ _, hbb.out.trans (belowK_b (w := w) (Nat.le_refl _) W2 D _ _ (by omega) hKDH.out rfl rfl)⟩
    case stop =>
      rintro D c pre W _ _ h _
      exact h.elim
  · have e : parseS avU t.data.toList = ([], 3) := by unfold parseS; rw [if_neg (by rw [ba_list_len]; exact hz)]
    rw [e]
    have hgt : (65536 : Int) < t.size := by omega
    clear e hL
    refine (callsIn_wide (n := 6)).1 ?_
    refine callsIn_of_wp_marks Tryd.func6 rfl trivial ?_ rfl
    simp only [Tryd.ntmps6, List.size_toArray, List.length_cons, List.length_nil, Nat.reduceAdd, Nat.reduceSub, Array.replicate_succ, Array.replicate_zero, List.push_toArray, List.append_toArray, List.nil_append, List.cons_append]
    gi_wp2_with fail
    exact ⟨_, results_tmp2 rfl _ _ _, _, rfl, .nil _ _ _ _ _, .refl _ _⟩
end Go.Proofs.YtljkojpooajlhaaDoor

/- The law TermTexts, walked. -/
namespace Go.Proofs.YtljkojpooajlhaaDoor
open Go Go.RowKit Go.Maps

theorem parseS_fmt {s : Sg} (h : okSign s = true) : parseS avU (fmtM s) = (s, 0) := by
  unfold parseS
  rw [if_pos (by have := fmtM_len h; omega), parP_fmt avU_dig h, if_pos ⟨h, rfl⟩]
theorem parseS_zero {av : List UInt8 → Int} {l : List UInt8} (h : (parseS av l).2 = 0) : fmtM (parseS av l).1 = l := by
  unfold parseS at h ⊢
  split at h
  · split at h
    · rename_i h1 h2
      rw [if_pos h1, if_pos h2]; exact h2.2
    · simp at h
  · simp at h
theorem fmtM_ok {s : Sg} (h : fmtM s ≠ []) : okSign s = true := by
  cases hx : okSign s with
  | true => rfl
  | false => exact (h (by unfold fmtM; rw [if_neg (by simp [hx])])).elim
set_option maxRecDepth 100000 in
set_option maxHeartbeats 4000000 in
theorem TermTexts_walk {S1 : Nat → Prop} (a1 : Option Addr) (c1 : Nat) (s : Sg) (t : ByteArray) (w : World) (h1 : Sign S1 w a1 c1 s) (hL : LibU w) :
    Calls Tryd.prog 3 #[.slice a1 s.length c1, .string t] w fun e w' => e = .returned (.bool true) ∧ Below w.heap.size w w' := by
  have m1 := h1.le
  have sm := Small_any (S2 := fun _ => True) a1 none c1 0 s [] w h1 ⟨Nat.le_refl _, by unfold big; omega, fun _ => ⟨rfl, rfl⟩, fun h => (h rfl).elim⟩
  have aw := Lib.hid (fun W' => awake_any W')
  have h1H := Lib.hid h1
  have hLH := Lib.hid hL
  clear h1 hL
  cases z0 : smallT s [] with
  | false =>
    rw [z0] at sm
    have smH := Lib.hid sm
    clear sm z0
    go_enter Tryd.func3, Tryd.ntmps3
    go_wp2_with fail
    refine smH.out.mono ?_
    rintro e w1 ⟨rfl, rfl⟩
    go_wp2_with fail
    refine (aw.out _).mono ?_
    rintro e w2 ⟨rfl, hb2⟩
    go_wp2_with fail
    go_ret
    exact ⟨rfl, hb2⟩
  | true =>
  rw [z0] at sm
  have smH := Lib.hid sm
  have cp := pParse_any t w hLH.out
  have cr := fun W => rParseS_any avU_dig t W
  have hfz := parseS_zero (av := avU) (l := t.data.toList)
  obtain ⟨R, hR⟩ : ∃ R, parseS avU t.data.toList = R := ⟨_, rfl⟩
  rw [hR] at cp hfz
  simp only [hR] at cr
  obtain ⟨R1, R2⟩ := R
  simp only at hfz
  have hfzH := Lib.hid hfz
  have cpH := Lib.hid cp
  have crH := Lib.hid cr
  clear sm z0 cp cr hR hfz
  have hfin : ∀ (W : World) (hb : Below w.heap.size w W), Calls Tryd.prog 9 #[.slice a1 s.length c1] W fun e w' => e = .returned (.string (toB (fmtM s))) ∧ Below W.heap.size W w' := fun W hb => pFormat_any a1 c1 s W (h1H.out.below hb)
  have hfir : ∀ (W : World) (hb : Below w.heap.size w W), Calls Tryd.prog 10 #[.slice a1 s.length c1] W fun e w' => e = .returned (.string (toB (fmtM s))) ∧ Below W.heap.size W w' := fun W hb => rFormatS_any a1 c1 s W (h1H.out.below hb)
  have hft : fmtM s ≠ [] → parseS avU (fmtM s) = (s, 0) := fun h => parseS_fmt (fmtM_ok h)
  obtain ⟨F, hF⟩ : ∃ F, toB (fmtM s) = F := ⟨_, rfl⟩
  rw [show fmtM s = F.data.toList by rw [← hF]; rfl] at hft
  simp only [hF] at hfin hfir
  have hfinH := Lib.hid hfin
  have hfirH := Lib.hid hfir
  have hftH := Lib.hid hft
  have cpF := Lib.hid (fun W (hb : Below w.heap.size w W) => pParse_any F W (hLH.out.later hb))
  have css : RowKit.Hid (∀ W, Below w.heap.size w W → ∀ (S9 : Nat → Prop) aU cU, Sign S9 W aU cU s → Calls Tryd.prog 8 #[.slice aU s.length cU, .slice a1 s.length c1] W fun e w' => e = .returned (.bool true) ∧ Drew W w') := Lib.hid (fun W hb S9 aU cU hU => by
    have := SameSign_any aU a1 cU c1 s s W hU (h1H.out.below hb)
    rw [decide_eq_true rfl] at this
    exact this)
  clear hfin hfir hft hF
  go_enter Tryd.func3, Tryd.ntmps3
  go_wp2_with fail
  refine smH.out.mono ?_
  rintro e w1 ⟨rfl, rfl⟩
  go_wp2_with fail
  (with_reducible refine cpH.out.mono ?_)
  rintro e w2 ⟨v2, rfl, hO2, hb2⟩
  obtain ⟨a2, c2, rfl, hI2⟩ := OwnSg.sg hO2
  have hb2H := Lib.hid hb2
  have hI2H := Lib.hid hI2
  clear hb2 hI2 hO2
  go_wp2_with fail
  (with_reducible refine (crH.out _).mono ?_)
  rintro e w3 ⟨v3, rfl, hO3, hb3⟩
  obtain ⟨a3, c3, rfl, hI3⟩ := OwnSg.sg hO3
  have hI2H := Lib.hid (hI2H.out.below hb3)
  have cs1 := SameSign_any a2 a3 c2 c3 R1 R1 w3 hI2H.out hI3
  rw [decide_eq_true rfl] at cs1
  have cs1H := Lib.hid cs1
  have hb3H := Lib.hid (bcall hb2H.out hb3)
  clear hb3 hI3 hO3 cs1
  --tail
  have hnn : (R2 != R2) = false := by simp
  by_cases hz : R2 = 0
  · have hzb : (R2 == (0 : Int)) = true := by simpa using hz
    have hfm := hfzH.out hz
    have cf := pFormat_any (S := fun b => w.heap.size ≤ b) a2 c2 R1
    rw [hfm] at cf
    have htt := str_eq (rfl : t = t)
    have htd : toB t.data.toList = t := rfl
    rw [htd] at cf
    have cfH := Lib.hid (fun W (h : Sign (fun b => w.heap.size ≤ b) W a2 c2 R1) => cf W h)
    clear hfm cf htd hz
    go_wp2_with fail
    (with_reducible refine cs1H.out.mono ?_)
    rintro e w4 ⟨rfl, hd4⟩
    have hI4 := hI2H.out.below (hd4.below _)
    have hb4H := Lib.hid (bcall hb3H.out (hd4.below _))
    have cf4 := Lib.hid (cfH.out w4 hI4)
    clear hd4 hI4
    go_wp2_with fail
    (with_reducible refine cf4.out.mono ?_)
    rintro e w5 ⟨rfl, hb5⟩
    have hb5H := Lib.hid (bcall hb4H.out hb5)
    clear hb5
    go_wp2_with fail
    (with_reducible refine (hfinH.out _ hb5H.out).mono ?_)
    rintro e w6 ⟨rfl, hb6⟩
    have hb6H := Lib.hid (bcall hb5H.out hb6)
    clear hb6
    go_wp2_with fail
    (with_reducible refine (hfirH.out _ hb6H.out).mono ?_)
    rintro e w7 ⟨rfl, hb7⟩
    have hb7H := Lib.hid (bcall hb6H.out hb7)
    have hff := str_eq (rfl : F = F)
    clear hb7
    by_cases hF0 : F.data.toList = []
    · have hte : (F.toList == ([] : List UInt8)) = true := by rw [ba_tlU, hF0]; rfl
      clear hF0
      go_wp2_with fail
      (with_reducible refine (aw.out _).mono ?_)
      rintro e w8 ⟨rfl, hb8⟩
      go_wp2_with fail
      go_ret
      exact ⟨rfl, bcall hb7H.out hb8⟩
    · have hte : (F.toList == ([] : List UInt8)) = false := by rw [ba_tlU, beq_eq_false_iff_ne]; exact hF0
      have cq := cpF.out w7 hb7H.out
      rw [hftH.out hF0] at cq
      have cqH := Lib.hid cq
      clear cq hF0
      go_wp2_with fail
      (with_reducible refine cqH.out.mono ?_)
      rintro e w8 ⟨v8, rfl, hO8, hb8⟩
      obtain ⟨a8, c8, rfl, hI8⟩ := OwnSg.sg hO8
      have hb8H := Lib.hid (bcall hb7H.out hb8)
      have cs8 := css.out w8 hb8H.out _ a8 c8 hI8
      have cs8H := Lib.hid cs8
      clear cs8 hI8 hO8 hb8
      go_wp2_with fail
      (with_reducible refine cs8H.out.mono ?_)
      rintro e w9 ⟨rfl, hd9⟩
      have hb9H := Lib.hid (bcall hb8H.out (hd9.below _))
      clear hd9
      go_wp2_with fail
      (with_reducible refine (aw.out _).mono ?_)
      rintro e w10 ⟨rfl, hb10⟩
      go_wp2_with fail
      go_ret
      exact ⟨rfl, bcall hb9H.out hb10⟩
  · have hzb : (R2 == (0 : Int)) = false := by simpa using hz
    clear hz
    go_wp2_with fail
    (with_reducible refine cs1H.out.mono ?_)
    rintro e w4 ⟨rfl, hd4⟩
    have hb4H := Lib.hid (bcall hb3H.out (hd4.below _))
    clear hd4
    go_wp2_with fail
    (with_reducible refine (hfinH.out _ hb4H.out).mono ?_)
    rintro e w6 ⟨rfl, hb6⟩
    have hb6H := Lib.hid (bcall hb4H.out hb6)
    clear hb6
    go_wp2_with fail
    (with_reducible refine (hfirH.out _ hb6H.out).mono ?_)
    rintro e w7 ⟨rfl, hb7⟩
    have hb7H := Lib.hid (bcall hb6H.out hb7)
    have hff := str_eq (rfl : F = F)
    clear hb7
    by_cases hF0 : F.data.toList = []
    · have hte : (F.toList == ([] : List UInt8)) = true := by rw [ba_tlU, hF0]; rfl
      clear hF0
      go_wp2_with fail
      (with_reducible refine (aw.out _).mono ?_)
      rintro e w8 ⟨rfl, hb8⟩
      go_wp2_with fail
      go_ret
      exact ⟨rfl, bcall hb7H.out hb8⟩
    · have hte : (F.toList == ([] : List UInt8)) = false := by rw [ba_tlU, beq_eq_false_iff_ne]; exact hF0
      have cq := cpF.out w7 hb7H.out
      rw [hftH.out hF0] at cq
      have cqH := Lib.hid cq
      clear cq hF0
      go_wp2_with fail
      (with_reducible refine cqH.out.mono ?_)
      rintro e w8 ⟨v8, rfl, hO8, hb8⟩
      obtain ⟨a8, c8, rfl, hI8⟩ := OwnSg.sg hO8
      have hb8H := Lib.hid (bcall hb7H.out hb8)
      have cs8 := css.out w8 hb8H.out _ a8 c8 hI8
      have cs8H := Lib.hid cs8
      clear cs8 hI8 hO8 hb8
      go_wp2_with fail
      (with_reducible refine cs8H.out.mono ?_)
      rintro e w9 ⟨rfl, hd9⟩
      have hb9H := Lib.hid (bcall hb8H.out (hd9.below _))
      clear hd9
      go_wp2_with fail
      (with_reducible refine (aw.out _).mono ?_)
      rintro e w10 ⟨rfl, hb10⟩
      go_wp2_with fail
      go_ret
      exact ⟨rfl, bcall hb9H.out hb10⟩
end Go.Proofs.YtljkojpooajlhaaDoor

/- The card of TermTexts: for every input TermTexts returns true and leaves its arguments as they were; the listed variables are tied to the program's text. No condition. -/
namespace Go.Proofs.YtljkojpooajlhaaDoor
open Go Go.RowKit Go.ChangeShapes Go.WideShapes Go.ChangeAt

theorem termTexts_laid {W : World} : laidMetH Tryd.prog Rows.termTextsRow.laid W = laidMet Tryd.prog [("math/bits.deBruijn32tab", Rows.laid_math_bits_deBruijn32tab), ("math/bits.deBruijn64tab", Rows.laid_math_bits_deBruijn64tab), ("internal/strconv.uint64pow10", Rows.laid_internal_strconv_uint64pow10), ("unicode/utf8.acceptRanges", Rows.laid_unicode_utf8_acceptRanges), ("strconv.ErrRange", Rows.laid_strconv_ErrRange), ("strconv.ErrSyntax", Rows.laid_strconv_ErrSyntax), ("unicode/utf8.first", Rows.laid_unicode_utf8_first)] W := by kernel_rfl
set_option maxRecDepth 100000 in
theorem termTexts_lifted (os : Os) (started : os.Started) (H : Type) (enc : TypeId × Value → H) :
    ReturnsInHanded {} Tryd.checked os 3 .any (fun w args => (Rows.termTextsSpec.pre enc Tryd.prog Tryd.f3 [] false w args ∧ laidMetH Tryd.prog Rows.termTextsRow.laid w) ∧ sizedMet enc Tryd.prog Tryd.f3 (OpenSpec.ofChange Rows.termTextsSpec) false w args)
      (Rows.termTextsSpec.post enc Tryd.prog Tryd.f3 false true false false) := by
  refine returnsInHanded_of_change_and (C := Tryd.checked) (X := fun w _ => laidMetH Tryd.prog Rows.termTextsRow.laid w) (fun _ _ _ hh h => h.of_heap hh) Tryd.own started (by kernel_rfl) Tryd.func3
    (ChangeSpec.witness_shaped (enc := enc) (C := Tryd.checked) (os := os) (X := fun w _ => laidMetH Tryd.prog Rows.termTextsRow.laid w) false (World.laidAll Tryd.prog os Rows.termTextsRow.laid) #[.slice none 0 0, .string ByteArray.empty] 8 (World.laidAll_os _ _ _) (World.shaped_of_ZipB (by kernel_rfl) (by kernel_rfl)) (by kernel_rfl) (by kernel_rfl) (by kernel_rfl) (by rw [MakeChecks.laidMetH_plain _ _ _ (by kernel_rfl)]; exact laidMet_laidAll _ (by kernel_rfl) (by kernel_rfl))) ?_
  intro W base args ds gs before hval0 hW _ _ hL _
  have hLib : LibU W := libU_of_laid (n1 := _) (n2 := _) (n3 := _) (n0 := _) (d1 := _) (d2 := _) (d3 := _) (d0 := _) (d4 := _) (d5 := _) (rest := _) (Eq.mp termTexts_laid hL)
  clear hL
  have hval : ∀ (j : Nat) t v, Tryd.f3.params[j]? = some t → args[j]? = some v → Value.okWide Tryd.prog W .any base t v := hval0
  have hW' := hW
  obtain ⟨p, q, hA0, hV, rfl, hfz, hnd⟩ := hW
  have hA : DataW.TrodAll enc Tryd.prog W 0 (fun _ => true) true Tryd.f3.params.toList args.toList ds p := hA0
  rw [Tryd.params3] at hA hval
  obtain ⟨v0, v1, d0, d1, p0, p1, rfl, rfl, rfl, h0, h1⟩ := trodAll_two hA
  obtain ⟨rfl, rfl⟩ := trodVars_none hV
  clear hA0 hval0
  simp only [List.append_nil] at hW'
  have hlt : ∀ x ∈ p0 ++ p1, x.block < W.heap.size := fun x hx => hW'.lt x (by simpa using hx)
  have keep0 := fun (W' : World) (hn : Below W.heap.size W W') => Below.trod Tryd.laidOut (by kernel_rfl) (of_decide_eq_true (by kernel_rfl)) h0 hn (fun x hx => hlt x (by simp [hx]))
  have keep1 := fun (W' : World) (hn : Below W.heap.size W W') => Below.trod Tryd.laidOut (by kernel_rfl) (of_decide_eq_true (by kernel_rfl)) h1 hn (fun x hx => hlt x (by simp [hx]))
  obtain ⟨l0, a0, c0, rfl, r0⟩ := gSign.arg h0 (okWide_slice Tryd.underlying23 (hval 0 23 v0 rfl rfl))
  obtain ⟨s1, rfl, rfl, rfl, ws1⟩ := ChangeMaps.open_string Tryd.underlying9 (hval 1 9 v1 rfl rfl) h1
  refine (TermTexts_walk _ _ _ _ W r0 hLib).mono fun e W' ⟨he, hB⟩ => ?_
  subst he
  exact ⟨_, rfl, _, _, _, [], _, [], hW', trodAll_mk1 (shut_bool Tryd.underlying4 true), trodAll_mk2 (keep0 _ hB) (keep1 _ hB), rfl, hB.frame _, fun h => by cases h⟩

/-- TermTexts: for every input it returns true, and each argument reads as it did. -/
theorem termTexts_holds : Rows.TermTextsSaid :=
  OpenClaim.holds_of_wide 3 Tryd.f3 rfl rfl rfl rfl rfl rfl rfl ⟨rfl, rfl, rfl, rfl, rfl⟩ rfl rfl rfl rfl rfl (by kernel_rfl) Tryd.func3 (by kernel_rfl)
    (of_decide_eq_true (by kernel_rfl)) (by unfold Func.isWrapper; first | (rw [if_pos (by decide +kernel)]; kernel_rfl) | (rw [if_neg (by decide +kernel)]; exact ⟨rfl, rfl⟩))
    (fun os started H enc _ => termTexts_lifted os started H enc)
/-- the card of TermTexts -/
theorem termTexts_card_holds : Rows.TermTextsCardSaid :=
  Claim7.holds_tied_plain_at .later [] [.data, .data, .data, .data, .sentinel, .sentinel, .pinned] true Rows.termTextsCard.stood.harness Rows.termTextsCard.stood.looks
    termTexts_holds (fun _ h => by cases h) (by kernel_rfl) (fun _ h => by cases h) termTexts_row_tie rfl ⟨rfl, rfl⟩ (by kernel_rfl) rfl
    (fun f fn hf hfn => by
      obtain rfl : f = 3 := Option.some.inj ((show Tryd.prog.funcNamed Rows.termTextsRow.func = some 3 by kernel_rfl).symm.trans hf) |>.symm
      obtain rfl : fn = Tryd.f3 := (Option.some.inj (Tryd.func3.symm.trans hfn)).symm
      exact ⟨by kernel_rfl, fun j t ht => by
        rw [Tryd.params3] at ht
        have hm : t ∈ [23, 9] := by simpa using Array.mem_of_getElem? ht
        have hall : ([23, 9].all fun u => !Tryd.prog.wantsStandIn u) = true := by kernel_rfl
        exact (show Tryd.prog.wantsStandIn t = false by simpa using List.all_eq_true.1 hall t hm)⟩)
    (by kernel_rfl)
end Go.Proofs.YtljkojpooajlhaaDoor

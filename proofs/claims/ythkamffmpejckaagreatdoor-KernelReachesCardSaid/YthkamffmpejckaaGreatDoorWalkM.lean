/- Walks: Args, of both; lists of terms alike; all valid. -/
import Derived.Test.YthkamffmpejckaaGreatDoorWalkL
namespace Go.Proofs.YthkamffmpejckaaGreatDoor
open Go Go.RowKit Go.Maps

theorem quiet_drew {P : Program} {f : FuncId} {args : Array Value} {w : World} {n : Nat} {v : Value}
    (h : Calls P f args (w.drewN n) fun e w' => e = .returned v ∧ Drew (w.drewN n) w') : Calls P f args (w.drewN n) fun e w'' => e = .returned v ∧ ∃ m, w'' = w.drewN m :=
  h.mono fun _ _ ⟨he, m, hm⟩ => ⟨he, n + m, by rw [hm]; simp⟩

theorem flatten_set1 : ∀ {xs : List (List Value)} (_ : ∀ x ∈ xs, x.length = 1) (i : Nat) (u : Value), (xs.set i [u]).flatten = xs.flatten.set i u
  | [], _, _, _ => rfl
  | x :: r, h, i, u => by
    have hx := h x (by simp)
    obtain ⟨y, rfl⟩ := List.length_eq_one_iff.1 hx
    cases i with
    | zero => rfl
    | succ i =>
      rw [List.set_cons_succ, List.flatten_cons, flatten_set1 (fun z hz => h z (by simp [hz])) i u]; rfl
section
variable {S : Nat → Prop} {w : World} {base g n cap : Nat} {l : List (List Int)}
theorem OwnTs.ones {xs : List (List Value)} {T : Nat → Prop} (hl : xs.length = l.length) (hx : ∀ i (h1 : i < xs.length) (h2 : i < l.length), (slE intE).R T w xs[i] l[i]) : ∀ x ∈ xs, x.length = 1 := by
  intro x hxm
  obtain ⟨i, hi, rfl⟩ := List.getElem_of_mem hxm
  exact (slE intE).len (hx i hi (by omega))
theorem OwnTs.cell (h : OwnTs S w base (.slice (some ⟨g, 0, none⟩) n cap) l) (hn : n = l.length) (i : Nat) (hi : i < l.length) :
    ∃ a c, w.cell? ⟨g, i, none⟩ = some (.slice a l[i].length c) ∧ Ints (Off S (.slice (some ⟨g, 0, none⟩) n cap)) w a c l[i] ∧ w.frozen? ⟨g, i, none⟩ = false := by
  subst hn
  obtain ⟨xs, ho, hl, hx⟩ := h
  have hi' : i < xs.length := by omega
  obtain ⟨a, c, he, hI⟩ := hx i hi' hi
  have h1 := OwnTs.ones hl hx
  refine ⟨a, c, ?_, hI, ho.frozenAt i⟩
  rw [ho.cellAt i (by show i < l.length * 1; omega)]
  have := flatten_get h1 i hi' 0 (by rw [he]; simp)
  rw [Nat.mul_one, Nat.add_zero] at this
  rw [this]; simp [he]
theorem OwnTs.set (h : OwnTs S w base (.slice (some ⟨g, 0, none⟩) n cap) l) (hn : n = l.length) (i : Nat) {a : Option Addr} {c : Nat} {u : List Int} (hu : Ints (Off S (.slice (some ⟨g, 0, none⟩) n cap)) w a c u) :
    OwnTs S (w.setCell ⟨g, i, none⟩ (.slice a u.length c)) base (.slice (some ⟨g, 0, none⟩) n cap) (l.set i u) ∧ w.grownBy (w.setCell ⟨g, i, none⟩ (.slice a u.length c)) (some g) := by
  subst hn
  obtain ⟨xs, ho, hl, hx⟩ := h
  have h1 := OwnTs.ones hl hx
  obtain ⟨r1, r2⟩ := ho.stored i (.slice a u.length c)
  have hA : Agree (Off S (.slice (some ⟨g, 0, none⟩) l.length cap)) w (w.setCell ⟨g, i, none⟩ (.slice a u.length c)) := .of_grown r2 (fun b hb e => hb.2 (by rw [e]; rfl))
  refine ⟨⟨xs.set i [.slice a u.length c], by rw [List.length_set, flatten_set1 h1]; exact r1, by simp [hl], fun j h1 h2 => ?_⟩, r2⟩
  by_cases hj : i = j
  · subst hj
    simp only [List.getElem_set_self]
    exact (slE intE).mono (w := w) (S := Off S (.slice (some ⟨g, 0, none⟩) l.length cap)) ⟨a, c, rfl, hu⟩ (fun _ _ h => h) hA
  · rw [List.getElem_set_ne hj, List.getElem_set_ne hj]
    exact (slE intE).mono (hx j (by simpa using h1) (by simpa using h2)) (fun _ _ h => h) hA
end

def argsE (s : Sg) (t : List Int) : List (List Int) × Int := if okT s t then (argsT s t, 0) else ([], 1)
theorem argsE_ok {s : Sg} {t : List Int} (h : okT s t = true) : argsE s t = (argsT s t, 0) := by rw [argsE, if_pos h]
theorem argsE_no {s : Sg} {t : List Int} (h : okT s t = false) : argsE s t = ([], 1) := by rw [argsE, h]; rfl
def retTE (r : List (List Int) × Int) (w : World) (e : Ending) (w' : World) : Prop := ∃ v, e = .returned (.tuple #[v, .int .i64 r.2]) ∧ OwnTs (fun _ => True) w' w.heap.size v r.1 ∧ Below w.heap.size w w'

def ArgRel (L : List (List Int)) (w : World) (v i : Value) (wr : World) : Prop := ∃ k : Nat, i = .int .i64 k ∧ k ≤ L.length ∧ OwnTs (fun _ => True) wr w.heap.size v L ∧ Below w.heap.size w wr
set_option maxHeartbeats 1000000 in
theorem Args_any {S1 S2 : Nat → Prop} (a1 a2 : Option Addr) (c1 c2 : Nat) (s : Sg) (t : List Int) (w : World) (h1 : Sign S1 w a1 c1 s) (h2 : Ints S2 w a2 c2 t) :
    Calls Tryz.prog 67 #[.slice a1 s.length c1, .slice a2 t.length c2] w (retTE (argsE s t) w) := by
  have m2 := h2.le
  have v1 := Valid_any a1 a2 c1 c2 s t w h1 h2
  obtain ⟨x, hx⟩ : ∃ x, okT s t = x := ⟨_, rfl⟩
  rw [hx] at v1
  have v1H := Lib.hid v1
  clear v1
  cases x with
  | false =>
    rw [argsE_no hx]
    clear hx
    go_enter Tryz.func67, Tryz.ntmps67
    go_wp2_with (go_at_call 37; refine v1H.out.mono ?_; rintro e w1 ⟨rfl, hb⟩)
    go_ret2
    exact ⟨_, rfl, .nil _ _ _ _ _, hb⟩
  | true =>
    rw [argsE_ok hx]
    have hl := (okT_parts hx).2.2.1
    have hsp := argsT_spec hx
    have hall : ∀ u ∈ argsT s t, u.length ≤ lim := fun u hu => okT_lim (hsp.2.2 u hu)
    have hLn : (argsT s t).length ≤ 60 := by
      rw [hsp.1]
      obtain ⟨n, r, rfl, hc, -⟩ := okT_head hx
      have := (arC_ok (okT_parts hx).1 hc).2
      simp only [List.headD_cons]; omega
    have ca := fun W (hb : Below w.heap.size w W) => args_any a1 a2 c1 c2 s t W (h1.below hb) (h2.below hb) hx
    obtain ⟨L, hL⟩ : ∃ L, argsT s t = L := ⟨_, rfl⟩
    rw [hL] at ca hall hLn ⊢
    have caH := Lib.hid ca
    clear hx ca hsp hL
    go_enter Tryz.func67, Tryz.ntmps67
    go_wp2_with (first | (go_at_call 37; refine v1H.out.mono ?_; rintro e w1 ⟨rfl, hb⟩) | (go_at_call 98; refine (caH.out w1 hb).mono ?_; rintro e w2 ⟨v, rfl, ho0, hb2⟩; have hB2 := bcall hb hb2; have ho := (ho0.weak (S' := fun _ => True) (fun _ _ _ => trivial)).baseMono hb.size; clear ho0; obtain ⟨a, c, rfl, -⟩ := ho.sl))
    go_loopw [18] (fun i wr => ArgRel L w (.slice a L.length c) i wr) (fun i _ => L.length - (intOf i).toNat)
    case atStart => exact ⟨0, rfl, Nat.zero_le _, ho, hB2⟩
    case round =>
      clear ho hB2 hb2
      obtain ⟨k, rfl, hk, ho, hB⟩ := hrel
      by_cases hlt : k < L.length
      · obtain ⟨g, cap, hv, hg1, hg2⟩ := ho.form (by intro e; subst e; simp at hlt)
        simp only [Value.slice.injEq] at hv
        obtain ⟨rfl, -, rfl⟩ := hv
        obtain ⟨a', c', q1, hI, hf1⟩ := ho.cell rfl k hlt
        have cc := Clone_any a' c' L[k] wr hI (hall _ (List.getElem_mem hlt))
        have hset : L.set k L[k] = L := List.set_getElem_self hlt
        have hkey : ∀ w2 v', OwnI w2 wr.heap.size v' L[k] → Below wr.heap.size wr w2 → w2.cell? ⟨g, k, none⟩ = some (.slice a' L[k].length c') ∧ w2.frozen? ⟨g, k, none⟩ = false ∧ RowKit.Hid (OwnTs (fun _ => True) (w2.setCell ⟨g, k, none⟩ v') w.heap.size (.slice (some ⟨g, 0, none⟩) L.length c) L) ∧ RowKit.Hid (Below w.heap.size w (w2.setCell ⟨g, k, none⟩ v')) := by
          intro w2 v' ho' hb'
          have ho2 := ho.call hb'
          obtain ⟨a3, c3, rfl, hI3⟩ := ho'.ints
          have hst := OwnTs.set ho2 rfl k (hI3.weak (S' := Off (fun _ => True) (.slice (some ⟨g, 0, none⟩) L.length c)) (fun b hb => ⟨trivial, fun e => by simp [Value.ownBlock] at e; omega⟩))
          rw [hset] at hst
          obtain ⟨-, -, -, -, hf2⟩ := OwnTs.cell ho2 rfl k hlt
          exact ⟨(hb'.cell (p := ⟨g, k, none⟩) hg2).trans q1, hf2, Lib.hid hst.1, Lib.hid ((hB.trans (hb'.mono hB.size)).grown hst.2 (by have := hB.size; have := hb'.size; omega) (fun j e => by simp at e; omega))⟩
        have ccH := Lib.hid cc
        have hkH := Lib.hid hkey
        clear cc hkey ho hI hset hB
        go_wp2_with (go_at_call 77; refine ccH.out.mono ?_; rintro e w3 ⟨v', rfl, ho', hb'⟩; obtain ⟨a3, c3, rfl, -⟩ := ho'.ints; obtain ⟨q2, hf2, hoH, hBH⟩ := hkH.out w3 _ ho' hb')
        go_roundw
        case rel => exact ⟨k + 1, by go_num, by omega, hoH.out, hBH.out⟩
        case measure => simp [intOf]; omega
      · have hoH := Lib.hid ho
        clear ho
        go_wp2_with fail
        go_ret2
        exact ⟨_, rfl, hoH.out, hB⟩

def rArgRel (L : List (List Int)) (w : World) (out i : Value) (wr : World) : Prop := ∃ k : Nat, i = .int .i64 k ∧ k ≤ L.length ∧ OwnTs (fun _ => True) wr w.heap.size out (L.take k) ∧ Below w.heap.size w wr
end Go.Proofs.YthkamffmpejckaaGreatDoor

/- The library's sort at lists of terms, under the program's Compare. -/
import Derived.Test.YtjiffkpgadjodaaCompact
import Derived.Test.YtjiffkpgadjodaaSortShelf
namespace Go.Proofs.Ytjiffkpgadjodaa
open Go Go.RowKit Go.Maps

set_option maxHeartbeats 1000000 in
theorem Compare_exact {S1 S2 : Nat → Prop} (a1 a2 : Option Addr) (c1 c2 : Nat) (l1 l2 : List Int) (w : World) (h1 : Ints S1 w a1 c1 l1) (h2 : Ints S2 w a2 c2 l2) :
    Calls Try.prog 10 #[.slice a1 l1.length c1, .slice a2 l2.length c2] w fun e w' => e = .returned (.int .i64 (compareT l1 l2)) ∧ ∃ q os', w' = Go.Sort.grow (w.drewN q) os' := by
  have m1 := h1.le
  have m2 := h2.le
  have ho := compareT_or l1 l2
  have hr := lexc_range l1 l2
  have c1 := cmpInt_any l1.length l2.length w
  have hc : -1 ≤ cmpI l1.length l2.length ∧ cmpI l1.length l2.length ≤ 1 := by rcases cmpI_cases (l1.length : Int) l2.length with ⟨h, _⟩ | ⟨h, _⟩ | ⟨h, _⟩ <;> rw [h] <;> omega
  have c2 := slCompare_any a1 a2 _ _ l1 l2 w h1 h2
  generalize cmpI l1.length l2.length = x at *
  generalize lexc l1 l2 = y at *
  have hI := Ints.new w [x, y] 3 (by unfold big; simp) (by intro z hz; simp at hz; unfold inRange; rcases hz with rfl | rfl <;> omega)
  have c3 := Or_any _ _ [x, y] _ hI
  have he : orI [x, y] = compareT l1 l2 := by
    rw [← ho]; simp only [orI]
    by_cases hx : x = 0 <;> by_cases hy : y = 0 <;> simp [hx, hy]
  rw [he] at c3
  have c1H := Lib.hid c1
  have c2H := Lib.hid c2
  have c3H := Lib.hid c3
  clear c1 c2 c3 he ho hI h1 h2
  go_enter Try.func10, Try.ntmps10
  go_wp2_with fail
  refine c1H.out.mono ?_
  rintro e w1 ⟨rfl, rfl⟩
  go_wp2_with fail
  refine c2H.out.mono ?_
  rintro e w1 ⟨rfl, rfl⟩
  go_wp2_with fail
  refine c3H.out.mono ?_
  rintro e w1 ⟨rfl, rfl⟩
  go_wp2_with fail
  go_ret
  exact ⟨rfl, 0, #[_], Go.Sort.alloc_eq_grow _ _⟩


/-- a list of numbers that lies in the world w off the row -/
structure Lain (S : Nat → Prop) (w : World) where
  a : Option Addr
  c : Nat
  l : List Int
  ok : Ints S w a c l
instance (S : Nat → Prop) (w : World) : Inhabited (Lain S w) := ⟨⟨none, 0, [], .empty⟩⟩
def Lain.enc {S : Nat → Prop} {w : World} (x : Lain S w) : Value := .slice x.a x.l.length x.c
def Lain.cf {S : Nat → Prop} {w : World} (x y : Lain S w) : Int := compareT x.l y.l

theorem ltOf_yes {S : Nat → Prop} {w : World} {x y : Lain S w} (h : ltOf Lain.cf x y = true) : ltT x.l y.l := by
  have h' : decide (compareT x.l y.l < 0) = true := h
  show compareT x.l y.l < 0
  exact of_decide_eq_true h'
theorem ltOf_no {S : Nat → Prop} {w : World} {x y : Lain S w} (h : ltOf Lain.cf x y = false) : ¬ ltT x.l y.l := by
  have h' : decide (compareT x.l y.l < 0) = false := h
  show ¬ compareT x.l y.l < 0
  exact of_decide_eq_false h'
theorem ltOf_mk {S : Nat → Prop} {w : World} {x y : Lain S w} (h : ltT x.l y.l) : ltOf Lain.cf x y = true := by
  show decide (compareT x.l y.l < 0) = true
  exact decide_eq_true h
theorem ltOf_mkno {S : Nat → Prop} {w : World} {x y : Lain S w} (h : ¬ ltT x.l y.l) : ltOf Lain.cf x y = false := by
  show decide (compareT x.l y.l < 0) = false
  exact decide_eq_false h
theorem swo_cf {S : Nat → Prop} {w : World} : Go.Sort.SWO (ltOf (Lain.cf (S := S) (w := w))) where
  irrefl x := ltOf_mkno (ltT_irrefl _)
  trans x y z h1 h2 := ltOf_mk (ltT_trans (ltOf_yes h1) (ltOf_yes h2))
  ntrans x y z h1 h2 := ltOf_mkno fun h => by
    have h1 := ltOf_no h1
    have h2 := ltOf_no h2
    rcases ltT_total x.l y.l with g | g | g
    · exact h1 g
    · have h' : ltT x.l z.l := h
      rw [g] at h'; exact h2 h'
    · rcases ltT_total y.l z.l with k | k | k
      · exact h2 k
      · rw [k] at g; exact ltT_irrefl _ (ltT_trans h g)
      · exact ltT_irrefl _ (ltT_trans h (ltT_trans k g))

section
variable {α : Type} [Inhabited α]
theorem putRow_grown (enc : α → Value) (w : World) (blk off : Nat) (d : Array α) : w.grownBy (Go.Sort.putRow enc w blk off d) (some blk) := by
  refine ⟨rfl, rfl, rfl, by simp, fun k _ hk => ?_⟩
  have : blk ≠ k := fun e => hk (by rw [e])
  simp [Go.Sort.putRow, Go.Sort.mapBlock, Array.getElem?_modify, this]
theorem grow_grown (w : World) (os : Array Obj) (o : Option Nat) : w.grownBy (Go.Sort.grow w os) o := by
  refine ⟨rfl, rfl, rfl, by simp [Go.Sort.grow], fun k hk _ => ?_⟩
  simp only [Go.Sort.grow]
  rw [Array.getElem?_append_left hk]
theorem ahead_grown (w : World) (n : Nat) (o : Option Nat) : w.grownBy (Go.Sort.ahead w n) o := ⟨rfl, rfl, rfl, Nat.le_refl _, fun _ _ _ => rfl⟩
theorem sortWorld_grown (enc : α → Value) (w : World) (blk off m : Nat) (dk : Array α) (os : Array Obj) : w.grownBy (sortWorld enc w blk off m dk os) (some blk) :=
  grown_by (grown_by (ahead_grown w m _) (putRow_grown enc _ blk off dk)) (grow_grown _ os _)
end
section
variable {S : Nat → Prop} {w : World} {base g n cap : Nat}
/-- the row laid anew -/
theorem OwnTs.putRow {α : Type} [Inhabited α] (enc : α → Value) (f : α → List Int) (l : List (List Int)) (d d' : Array α) (h : OwnTs S w base (.slice (some ⟨g, 0, none⟩) n cap) l) (hn : n = l.length) (hd : d.size = n) (hd' : d'.size = n) (hH : Go.Sort.Holds enc w g 0 d)
    (hl : ∀ j, j < n → l[j]? = some (f d[j]!))
    (he : ∀ x, ∃ a c, enc x = .slice a (f x).length c ∧ Ints (Off S (.slice (some ⟨g, 0, none⟩) n cap)) w a c (f x)) :
    ∀ k, k ≤ n → ∃ dk : Array α, dk.size = n ∧ (∀ j, j < k → dk[j]! = d'[j]!) ∧ OwnTs S (Go.Sort.putRow enc w g 0 dk) base (.slice (some ⟨g, 0, none⟩) n cap) (dk.toList.map f) := by
  intro k
  induction k with
  | zero =>
    intro _
    refine ⟨d, hd, fun j hj => by omega, ?_⟩
    rw [Go.Sort.putRow_self enc w g 0 d hH]
    have : d.toList.map f = l := by
      apply List.ext_getElem?
      intro j
      by_cases hj : j < n
      · rw [hl j hj, List.getElem?_map, Array.getElem?_toList, getElem!_pos d j (by omega), Array.getElem?_eq_getElem (by omega)]; rfl
      · rw [List.getElem?_eq_none (by simp; omega), List.getElem?_eq_none (by omega)]
    rw [this]; exact h
  | succ k ih =>
    intro hk
    obtain ⟨dk, e1, e2, e3⟩ := ih (by omega)
    obtain ⟨a, c, q1, q2⟩ := he d'[k]!
    have hA : Ints (Off S (.slice (some ⟨g, 0, none⟩) n cap)) (Go.Sort.putRow enc w g 0 dk) a c (f d'[k]!) :=
      q2.mono (fun _ _ h => h) (Agree.of_grown (putRow_grown enc w g 0 dk) fun b hb e => hb.2 (by injection e with e; rw [e]; rfl))
    have hs := OwnTs.set e3 (by simp [e1]) k hA
    rw [← q1, show (⟨g, k, none⟩ : Addr) = ⟨g, 0 + k, none⟩ by rw [Nat.zero_add], Go.Sort.putRow_set enc w g 0 dk k _ (by omega)] at hs
    refine ⟨dk.setIfInBounds k d'[k]!, by simp [e1], fun j hj => ?_, ?_⟩
    · by_cases hjk : j = k
      · subst hjk; exact Go.Sort.getElem!_set_same _ _ _ (by omega)
      · rw [Go.Sort.getElem!_set_other _ _ _ _ hjk]; exact e2 j (by omega)
    · have : (dk.setIfInBounds k d'[k]!).toList.map f = (dk.toList.map f).set k (f d'[k]!) := by simp
      rw [this]; exact hs.1
end

set_option maxHeartbeats 1000000 in
theorem SortT_any {S : Nat → Prop} {w : World} {base g cap : Nat} {l : List (List Int)} (ho : OwnTs S w base (.slice (some ⟨g, 0, none⟩) l.length cap) l) (h0 : 1 ≤ l.length) (hl : l.length ≤ 1000) :
    Calls Try.prog 17 #[.slice (some ⟨g, 0, none⟩) l.length cap, .func (.func 10) #[] #[]] w fun e w' =>
      e = .returned (.tuple #[]) ∧ ∃ l', l'.Perm l ∧ l'.Pairwise (fun a b => ¬ ltT b a) ∧ OwnTs S w' base (.slice (some ⟨g, 0, none⟩) l.length cap) l' ∧ w.grownBy w' (some g) := by
  let S' : Nat → Prop := Off S (.slice (some ⟨g, 0, none⟩) l.length cap)
  have hg : g < w.heap.size := (OwnL.lt ho g rfl).2
  have hx : ∀ i : Fin l.length, ∃ x : Lain S' w, w.cell? ⟨g, i.1, none⟩ = some x.enc ∧ x.l = l[i.1] ∧ w.frozen? ⟨g, i.1, none⟩ = false := fun i => by
    obtain ⟨a, c, q1, q2, q3⟩ := OwnTs.cell ho rfl i.1 i.2
    exact ⟨⟨a, c, l[i.1], q2⟩, q1, rfl, q3⟩
  let F : Fin l.length → Lain S' w := fun i => Classical.choose (hx i)
  have hF := fun i => Classical.choose_spec (hx i)
  let d : Array (Lain S' w) := Array.ofFn F
  have hds : d.size = l.length := by simp [d]
  have hd : ∀ j (hj : j < l.length), d[j]! = F ⟨j, hj⟩ := fun j hj => by rw [getElem!_pos d j (by omega)]; simp [d]
  have hH : Go.Sort.Holds Lain.enc w g 0 d := fun j hj => by
    rw [Nat.zero_add, hd j (by omega)]; exact ⟨(hF ⟨j, by omega⟩).1, (hF ⟨j, by omega⟩).2.2⟩
  have hc := Any.slices_SortFunc YtjiffkpgadjodaaSort (Lain.enc (S := S') (w := w)) (fun _ => rfl) Lain.cf swo_cf 10 #[] g 0 cap d w (enters_of Try.func10 (by kernel_rfl) rfl)
    (fun m os dk hs x y => Compare_exact x.a y.a x.c y.c x.l y.l _
      (x.ok.mono (fun _ _ h => h) (Agree.of_grown (sortWorld_grown Lain.enc w g 0 m dk os) fun b hb e => hb.2 (by injection e with e; rw [e]; rfl)))
      (y.ok.mono (fun _ _ h => h) (Agree.of_grown (sortWorld_grown Lain.enc w g 0 m dk os) fun b hb e => hb.2 (by injection e with e; rw [e]; rfl)))) hH hg (by omega)
  rw [hds] at hc
  refine hc.mono ?_
  rintro e w' ⟨rfl, d', m, os, hp, hs, rfl⟩
  obtain ⟨p1, -, p3⟩ := hp
  have hall : ∀ b : Array (Lain S' w), b.size = l.length → b.extract 0 l.length = b := fun b hb => by rw [← hb]; exact Array.extract_size
  rw [hall d' (by omega), hall d hds] at p3
  have hdl : d.toList.map Lain.l = l := by
    apply List.ext_getElem
    · simp [hds]
    · intro j h1 h2
      have := hd j h2
      rw [getElem!_pos d j (by omega)] at this
      rw [List.getElem_map, Array.getElem_toList, this]
      exact (hF ⟨j, h2⟩).2.1
  have hah := ahead_grown w m (some g)
  have hHa : Go.Sort.Holds Lain.enc (Go.Sort.ahead w m) g 0 d := hH
  have hoa : OwnTs S (Go.Sort.ahead w m) base (.slice (some ⟨g, 0, none⟩) l.length cap) l := OwnL.call ho ⟨rfl, rfl, rfl, Nat.le_refl _, fun _ _ => rfl⟩
  obtain ⟨dk, k1, k2, k3⟩ := OwnTs.putRow (Lain.enc (S := S') (w := w)) Lain.l l d d' hoa rfl hds (by omega) hHa
    (fun j hj => by rw [hd j hj, (hF ⟨j, hj⟩).2.1]; exact List.getElem?_eq_getElem hj)
    (fun x => ⟨x.a, x.c, rfl, x.ok.mono (fun _ _ h => h) (Agree.of_grown hah fun b hb e => hb.2 (by injection e with e; rw [e]; rfl))⟩) l.length (Nat.le_refl _)
  have hdk : dk = d' := by
    apply Array.ext (by omega)
    intro j h1 h2
    have := k2 j (by omega)
    rwa [getElem!_pos dk j h1, getElem!_pos d' j h2] at this
  subst hdk
  refine ⟨rfl, dk.toList.map Lain.l, ?_, ?_, ?_, sortWorld_grown Lain.enc w g 0 m dk os⟩
  · have := p3.map Lain.l
    rwa [hdl] at this
  · rw [List.pairwise_iff_getElem]
    intro i j hi hj hij
    simp at hi hj
    have := hs i j (Nat.zero_le _) hij (by omega)
    have := ltOf_no this
    rw [getElem!_pos dk j (by omega), getElem!_pos dk i (by omega)] at this
    simpa using this
  · exact OwnL.grown k3 (grow_grown _ os none) (fun _ _ e => by cases e) (fun _ _ _ e => by cases e)
end Go.Proofs.Ytjiffkpgadjodaa

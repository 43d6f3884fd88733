/- Paths and parts, one argument behind the other. No program is named. -/
import Derived.Test.YtpmnnoopoblpgaaGreatMath8
namespace Go.Proofs.YtpmnnoopoblpgaaGreat

theorem glue_snoc : ∀ (k : Nat) (M : List (List (List Int × List Int))) (x : List (List Int × List Int)), glue k (M ++ [x]) = glue k M ++ x.map (fun e => (((k + M.length : Nat) : Int) :: e.1, e.2))
  | k, [], x => by simp [glue]
  | k, y :: r, x => by
    rw [List.cons_append, glue, glue_snoc (k + 1) r x, glue, List.append_assoc]
    simp only [List.length_cons]
    rw [show k + 1 + r.length = k + (r.length + 1) by omega]
theorem PL_len {s : Sg} {u : List Int} (h : okT s u = true) {f : Nat} (hf : u.length ≤ f) : (PL s f u).length = u.length := by
  have := PL_spec s u f 0 [] (okT_skip0 h) (by rw [partAt_all h]; exact hf)
  rw [partAt_all h] at this
  exact this.1
/-- what the first k arguments and the head give, each path behind p -/
def PK (s : Sg) (f : Nat) (p u : List Int) (k : Nat) : List (List Int × List Int) := (([], u) :: glue 0 (((argsT s u).take k).map (PL s f))).map (fun e => (p ++ e.1, e.2))
theorem PK_zero (s : Sg) (f : Nat) (p u : List Int) : PK s f p u 0 = [(p, u)] := by simp [PK, glue]
theorem PK_succ {s : Sg} {f : Nat} {p u : List Int} {k : Nat} (hk : k < (argsT s u).length) : PK s f p u (k + 1) = PK s f p u k ++ (PL s f (argsT s u)[k]).map (fun e => ((p ++ [(k : Int)]) ++ e.1, e.2)) := by
  have hl : (((argsT s u).take k).map (PL s f)).length = k := by simp; omega
  have h2 : ((argsT s u).take (k + 1)).map (PL s f) = ((argsT s u).take k).map (PL s f) ++ [PL s f (argsT s u)[k]] := by rw [List.take_succ_eq_append_getElem hk]; simp only [List.map_append, List.map_cons, List.map_nil]
  unfold PK
  rw [h2, glue_snoc, hl]
  simp [Function.comp_def, List.append_assoc]
theorem PK_all {s : Sg} {f : Nat} {p u : List Int} {k : Nat} (hk : (argsT s u).length ≤ k) : PK s f p u k = (PL s (f + 1) u).map (fun e => (p ++ e.1, e.2)) := by
  unfold PK; rw [List.take_of_length_le hk]; rfl
theorem PK_len {s : Sg} {f : Nat} {p u : List Int} {k : Nat} (h : okT s u = true) (hf : u.length ≤ f + 1) : (PK s f p u k).length = 1 + ((argsT s u).take k).flatten.length := by
  obtain ⟨-, h2, h3⟩ := argsT_spec h
  unfold PK
  rw [List.length_map, List.length_cons, glue_len, flatten_len_sum, List.map_map]
  have : ((argsT s u).take k).map (List.length ∘ PL s f) = ((argsT s u).take k).map List.length := by
    apply List.map_congr_left
    intro v hv
    have hm := List.mem_of_mem_take hv
    have hl := len_flatten hm
    have := congrArg List.length h2
    rw [List.length_cons] at this
    exact PL_len (h3 v hm) (by omega)
  rw [this]; omega
end Go.Proofs.YtpmnnoopoblpgaaGreat

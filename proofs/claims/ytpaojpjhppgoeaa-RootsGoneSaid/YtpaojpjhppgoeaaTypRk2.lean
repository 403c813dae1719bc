import Derived.Test.YtpaojpjhppgoeaaTypRk
import Derived.Test.YtpaojpjhppgoeaaK4
set_option linter.unusedSimpArgs false
set_option linter.unusedVariables false
namespace Dm
open Go Go.Proofs
theorem typ29 {k : Nat} {xs : List C} (h : Typ Try.prog (k + 2) 29 xs) : ∃ l, xs = [.sl (u8s l)] ∧ ∀ e ∈ l, 0 ≤ e ∧ e ≤ 255 := by
  simp only [Typ, Try.underlying29] at h
  obtain ⟨els, rfl, _, h2⟩ := h
  have h3 : ∀ x ∈ els, ∃ n, x = [.int .u8 n] ∧ 0 ≤ n ∧ n ≤ 255 := fun x hx => typ5 (k := k) (h2 x hx)
  clear h2
  induction els with
  | nil => exact ⟨[], rfl, by simp⟩
  | cons x t ih =>
    obtain ⟨l, h4, h5⟩ := ih (by
      rename_i h0
      first | exact Nat.le_of_succ_le h0 | (simp only [List.length_cons] at h0; omega) | skip) (fun y hy => h3 y (List.mem_cons_of_mem _ hy))
    obtain ⟨n, rfl, h6⟩ := h3 x (List.mem_cons_self ..)
    simp only [List.cons.injEq, C.sl.injEq, and_true] at h4
    subst h4
    exact ⟨n :: l, rfl, fun e he => (List.mem_cons.1 he).elim (fun h => by rw [h]; exact h6) (h5 e)⟩
theorem typ30 {k : Nat} {xs : List C} (h : Typ Try.prog (k + 2) 30 xs) : ∃ l, xs = [.sl (u64s l)] ∧ ∀ e ∈ l, 0 ≤ e ∧ e ≤ 18446744073709551615 := by
  simp only [Typ, Try.underlying30] at h
  obtain ⟨els, rfl, _, h2⟩ := h
  have h3 : ∀ x ∈ els, ∃ n, x = [.int .u64 n] ∧ 0 ≤ n ∧ n ≤ 18446744073709551615 := fun x hx => typ22 (k := k) (h2 x hx)
  clear h2
  induction els with
  | nil => exact ⟨[], rfl, by simp⟩
  | cons x t ih =>
    obtain ⟨l, h4, h5⟩ := ih (by
      rename_i h0
      first | exact Nat.le_of_succ_le h0 | (simp only [List.length_cons] at h0; omega) | skip) (fun y hy => h3 y (List.mem_cons_of_mem _ hy))
    obtain ⟨n, rfl, h6⟩ := h3 x (List.mem_cons_self ..)
    simp only [List.cons.injEq, C.sl.injEq, and_true] at h4
    subst h4
    exact ⟨n :: l, rfl, fun e he => (List.mem_cons.1 he).elim (fun h => by rw [h]; exact h6) (h5 e)⟩
end Dm

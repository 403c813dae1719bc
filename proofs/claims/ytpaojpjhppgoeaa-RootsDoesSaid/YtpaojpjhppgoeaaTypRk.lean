import Derived.Test.YtpaojpjhppgoeaaK1
import Derived.Test.YtpaojpjhppgoeaaConv
set_option linter.unusedSimpArgs false
set_option linter.unusedVariables false
namespace Dm
open Go Go.Proofs
theorem wf_u64 {n : Int} (h : (Lit.int .u64 n).wf = true) : 0 ≤ n ∧ n ≤ 18446744073709551615 := by
  simp [Lit.wf, IntKind.min, IntKind.max, IntKind.bits, IntKind.signed] at h
  omega
theorem wf_u8 {n : Int} (h : (Lit.int .u8 n).wf = true) : 0 ≤ n ∧ n ≤ 255 := by
  simp [Lit.wf, IntKind.min, IntKind.max, IntKind.bits, IntKind.signed] at h
  omega
def Rk.rng (e : Rk) : Prop := (0 ≤ e.id ∧ e.id ≤ 18446744073709551615) ∧ 0 ≤ e.key ∧ e.key ≤ 18446744073709551615
theorem typ39 {k : Nat} {xs : List C} (h : Typ Try.prog (k + 2) 39 xs) : (Rk.dec xs).enc = xs ∧ (Rk.dec xs).rng := by
  simp only [Typ, Try.underlying39, TypFs, Try.underlying22, Try.underlying4] at h
  obtain ⟨_, _, rfl, ⟨s, rfl, h1⟩, _, _, rfl, ⟨kd, rfl, h2⟩, _, _, rfl, ⟨a, rfl⟩, rfl⟩ := h
  exact ⟨rfl, wf_u64 h1, wf_u64 h2⟩
theorem rks_drks {els : List (List C)} (h : ∀ x ∈ els, (Rk.dec x).enc = x) : rks (drks els) = els := by
  simp only [rks, drks, List.map_map]
  refine (List.map_congr_left fun x hx => ?_).trans (List.map_id _)
  exact h x hx
theorem typ24 {k : Nat} {xs : List C} (h : Typ Try.prog (k + 3) 24 xs) : ∃ l, xs = [.sl (rks l)] ∧ ∀ e ∈ l, e.rng := by
  simp only [Typ, Try.underlying24] at h
  obtain ⟨els, rfl, _, h2⟩ := h
  have h3 : ∀ x ∈ els, (Rk.dec x).enc = x ∧ (Rk.dec x).rng := fun x hx => typ39 (k := k) (h2 x hx)
  refine ⟨drks els, by rw [rks_drks fun x hx => (h3 x hx).1], fun e he => ?_⟩
  obtain ⟨x, hx, rfl⟩ := List.mem_map.1 he
  exact (h3 x hx).2
theorem typ22 {k : Nat} {xs : List C} (h : Typ Try.prog (k + 1) 22 xs) : ∃ n, xs = [.int .u64 n] ∧ 0 ≤ n ∧ n ≤ 18446744073709551615 := by
  simp only [Typ, Try.underlying22] at h
  obtain ⟨n, rfl, h1⟩ := h
  exact ⟨n, rfl, wf_u64 h1⟩
theorem typ5 {k : Nat} {xs : List C} (h : Typ Try.prog (k + 1) 5 xs) : ∃ n, xs = [.int .u8 n] ∧ 0 ≤ n ∧ n ≤ 255 := by
  simp only [Typ, Try.underlying5] at h
  obtain ⟨n, rfl, h1⟩ := h
  exact ⟨n, rfl, wf_u8 h1⟩
end Dm

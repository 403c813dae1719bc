import Derived.Test.YtfngdpmbhfejcaaF6
import Derived.Test.YtfngdpmbhfejcaaConv
set_option linter.unusedSimpArgs false
set_option linter.unusedVariables false
namespace Dm
open Go Go.Proofs
theorem wf_u64 {n : Int} (h : (Lit.int .u64 n).wf = true) : 0 ≤ n ∧ n ≤ 18446744073709551615 := by
  simp [Lit.wf, IntKind.min, IntKind.max, IntKind.bits, IntKind.signed] at h
  omega
theorem wf_i64 {n : Int} (h : (Lit.int .i64 n).wf = true) : -9223372036854775808 ≤ n ∧ n ≤ 9223372036854775807 := by
  simp [Lit.wf, IntKind.min, IntKind.max, IntKind.bits, IntKind.signed] at h
  omega
theorem wf_u8 {n : Int} (h : (Lit.int .u8 n).wf = true) : 0 ≤ n ∧ n ≤ 255 := by
  simp [Lit.wf, IntKind.min, IntKind.max, IntKind.bits, IntKind.signed] at h
  omega
theorem typ33 {k : Nat} {xs : List C} (h : Typ Try.prog (k + 2) 33 xs) : (Ev.dec xs).enc = xs ∧ (Ev.dec xs).rng := by
  simp only [Typ, Try.underlying33, TypFs, Try.underlying22, Try.underlying3] at h
  obtain ⟨_, _, rfl, ⟨s, rfl, h1⟩, _, _, rfl, ⟨kd, rfl, h2⟩, _, _, rfl, ⟨a, rfl, h3⟩, _, _, rfl, ⟨n, rfl, h4⟩, rfl⟩ := h
  exact ⟨rfl, wf_u64 h1, wf_i64 h2, wf_u64 h3, wf_u64 h4⟩
theorem evs_devs {els : List (List C)} (h : ∀ x ∈ els, (Ev.dec x).enc = x) : evs (devs els) = els := by
  simp only [evs, devs, List.map_map]
  refine (List.map_congr_left fun x hx => ?_).trans (List.map_id _)
  exact h x hx
theorem typ25 {k : Nat} {xs : List C} (h : Typ Try.prog (k + 4) 25 xs) : ∃ n l, xs = [.int .u64 n, .sl (evs l)] ∧ (0 ≤ n ∧ n ≤ 18446744073709551615) ∧ ∀ e ∈ l, e.rng := by
  simp only [Typ, Try.underlying25, TypFs, Try.underlying22, Try.underlying23] at h
  obtain ⟨_, _, rfl, ⟨n, rfl, h1⟩, _, _, rfl, ⟨els, rfl, _, h2⟩, rfl⟩ := h
  have h3 : ∀ x ∈ els, (Ev.dec x).enc = x ∧ (Ev.dec x).rng := fun x hx => typ33 (k := k) (h2 x hx)
  refine ⟨n, devs els, by rw [evs_devs fun x hx => (h3 x hx).1]; rfl, wf_u64 h1, fun e he => ?_⟩
  obtain ⟨x, hx, rfl⟩ := List.mem_map.1 he
  exact (h3 x hx).2
theorem typ26 {k : Nat} {xs : List C} (h : Typ Try.prog (k + 2) 26 xs) : ∃ l : List Int, xs = [.sl (u8s l)] ∧ ∀ n ∈ l, 0 ≤ n ∧ n ≤ 255 := by
  simp only [Typ, Try.underlying26, Try.underlying5] at h
  obtain ⟨els, rfl, _, h2⟩ := h
  refine ⟨els.map fun x => match x with | [.int _ n] => n | _ => 0, ?_, fun n hn => ?_⟩
  · congr 2
    simp only [u8s, List.map_map]
    refine ((List.map_congr_left fun x hx => ?_).trans (List.map_id _)).symm
    obtain ⟨n, rfl, _⟩ := h2 x hx
    rfl
  · obtain ⟨x, hx, rfl⟩ := List.mem_map.1 hn
    obtain ⟨n, rfl, h3⟩ := h2 x hx
    exact wf_u8 h3
theorem typ22 {k : Nat} {xs : List C} (h : Typ Try.prog (k + 1) 22 xs) : ∃ n, xs = [.int .u64 n] ∧ 0 ≤ n ∧ n ≤ 18446744073709551615 := by
  simp only [Typ, Try.underlying22] at h
  obtain ⟨n, rfl, h1⟩ := h
  exact ⟨n, rfl, wf_u64 h1⟩
theorem typ3 {k : Nat} {xs : List C} (h : Typ Try.prog (k + 1) 3 xs) : ∃ n, xs = [.int .i64 n] ∧ -9223372036854775808 ≤ n ∧ n ≤ 9223372036854775807 := by
  simp only [Typ, Try.underlying3] at h
  obtain ⟨n, rfl, h1⟩ := h
  exact ⟨n, rfl, wf_i64 h1⟩
theorem typ5 {k : Nat} {xs : List C} (h : Typ Try.prog (k + 1) 5 xs) : ∃ n, xs = [.int .u8 n] ∧ 0 ≤ n ∧ n ≤ 255 := by
  simp only [Typ, Try.underlying5] at h
  obtain ⟨n, rfl, h1⟩ := h
  exact ⟨n, rfl, wf_u8 h1⟩
theorem typ39 {k : Nat} {xs : List C} (h : Typ Try.prog (k + 2) 39 xs) : ∃ m a, xs = [.int .u64 m, .int .u64 a] ∧ (0 ≤ m ∧ m ≤ 18446744073709551615) ∧ 0 ≤ a ∧ a ≤ 18446744073709551615 := by
  simp only [Typ, Try.underlying39, TypFs, Try.underlying22] at h
  obtain ⟨_, _, rfl, ⟨m, rfl, h1⟩, _, _, rfl, ⟨a, rfl, h2⟩, rfl⟩ := h
  exact ⟨m, a, rfl, wf_u64 h1, wf_u64 h2⟩
end Dm

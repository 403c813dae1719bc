import Derived.Test.YthcioaapafehhaaGreatDoorP7

set_option linter.unusedSimpArgs false
set_option linter.unusedVariables false
set_option linter.unusedSectionVars false
namespace Dm
open Go Go.Proofs
set_option maxRecDepth 20000
theorem wf_u64 {n : Int} (h : (Lit.int .u64 n).wf = true) : 0 ≤ n ∧ n ≤ 18446744073709551615 := by
  simp [Lit.wf, IntKind.min, IntKind.max, IntKind.bits, IntKind.signed] at h
  omega
theorem wf_i64 {n : Int} (h : (Lit.int .i64 n).wf = true) : -9223372036854775808 ≤ n ∧ n ≤ 9223372036854775807 := by
  simp [Lit.wf, IntKind.min, IntKind.max, IntKind.bits, IntKind.signed] at h
  omega
theorem wf_u8 {n : Int} (h : (Lit.int .u8 n).wf = true) : 0 ≤ n ∧ n ≤ 255 := by
  simp [Lit.wf, IntKind.min, IntKind.max, IntKind.bits, IntKind.signed] at h
  omega
theorem typ23 {k : Nat} {xs : List C} (h : Typ Tryz.prog (k + 1) 23 xs) : ∃ n : Nat, xs = [.int .u64 (n : Int)] ∧ n ≤ 18446744073709551615 := by
  simp only [Typ, Tryz.underlying23] at h
  obtain ⟨n, rfl, h1⟩ := h
  have := wf_u64 h1
  exact ⟨n.toNat, by rw [Int.toNat_of_nonneg (by omega)], by omega⟩
theorem typ3 {k : Nat} {xs : List C} (h : Typ Tryz.prog (k + 1) 3 xs) : ∃ n : Int, xs = [.int .i64 n] ∧ -9223372036854775808 ≤ n ∧ n ≤ 9223372036854775807 := by
  simp only [Typ, Tryz.underlying3] at h
  obtain ⟨n, rfl, h1⟩ := h
  have := wf_i64 h1
  exact ⟨n, rfl, by omega, by omega⟩
theorem typ5 {k : Nat} {xs : List C} (h : Typ Tryz.prog (k + 1) 5 xs) : ∃ n : Nat, xs = [.int .u8 (n : Int)] ∧ n ≤ 255 := by
  simp only [Typ, Tryz.underlying5] at h
  obtain ⟨n, rfl, h1⟩ := h
  have := wf_u8 h1
  exact ⟨n.toNat, by rw [Int.toNat_of_nonneg (by omega)], by omega⟩
theorem typ81 {k : Nat} {xs : List C} (h : Typ Tryz.prog (k + 2) 81 xs) : ∃ l : List UInt8, xs = [.sl (u8s l)] ∧ True := by
  simp only [Typ, Tryz.underlying81] at h
  obtain ⟨els, rfl, _, h2⟩ := h
  have : ∀ els : List (List C), (∀ x ∈ els, Typ Tryz.prog (k + 1) 5 x) → ∃ l : List UInt8, els = u8s l := by
    intro els
    induction els with
    | nil => exact fun _ => ⟨[], rfl⟩
    | cons x t ih =>
      intro h3
      obtain ⟨l, h4⟩ := ih (fun y hy => h3 y (List.mem_cons_of_mem _ hy))
      obtain ⟨n, rfl, h6⟩ := typ5 (k := k) (h3 x (List.mem_cons_self ..))
      subst h4
      refine ⟨UInt8.ofNat n :: l, ?_⟩
      have e : (UInt8.ofNat n).toNat = n := UInt8.toNat_ofNat_of_lt' (by show n < 256; omega)
      simp [u8s, e]
  obtain ⟨l, rfl⟩ := this els h2
  exact ⟨l, rfl, trivial⟩
def Hd.rng (e : Hd) : Prop := e.id ≤ 18446744073709551615 ∧ e.n ≤ 18446744073709551615
theorem typ198 {k : Nat} {xs : List C} (h : Typ Tryz.prog (k + 2) 198 xs) : (Hd.dec xs).enc = xs ∧ (Hd.dec xs).rng := by
  simp only [Typ, Tryz.underlying198, TypFs, Tryz.underlying23] at h
  obtain ⟨_, _, rfl, ⟨s0, rfl, h0⟩, _, _, rfl, ⟨s1, rfl, h1⟩, rfl⟩ := h
  have q0 := wf_u64 h0
  have q1 := wf_u64 h1
  simp only [List.cons_append, List.nil_append, List.append_nil]
  refine ⟨by simp [Hd.dec, Hd.enc, Int.toNat_of_nonneg q0.1, Int.toNat_of_nonneg q1.1], ?_⟩
  simp only [Hd.dec, Hd.rng]
  exact ⟨by omega, by omega⟩
theorem hds_dhds {els : List (List C)} (h : ∀ x ∈ els, (Hd.dec x).enc = x) : hds (dhds els) = els := by
  simp only [hds, dhds, List.map_map]
  refine (List.map_congr_left fun x hx => ?_).trans (List.map_id _)
  exact h x hx
theorem typ84 {k : Nat} {xs : List C} (h : Typ Tryz.prog (k + 3) 84 xs) : ∃ l, xs = [.sl (hds l)] ∧ ∀ e ∈ l, e.rng := by
  simp only [Typ, Tryz.underlying84] at h
  obtain ⟨els, rfl, _, h2⟩ := h
  have h3 : ∀ x ∈ els, (Hd.dec x).enc = x ∧ (Hd.dec x).rng := fun x hx => typ198 (k := k) (h2 x hx)
  refine ⟨dhds els, by rw [hds_dhds fun x hx => (h3 x hx).1], fun e he => ?_⟩
  obtain ⟨x, hx, rfl⟩ := List.mem_map.1 he
  exact (h3 x hx).2
def Ch.rng (e : Ch) : Prop := e.id ≤ 18446744073709551615 ∧ e.loc ≤ 18446744073709551615 ∧ e.rem ≤ 18446744073709551615 ∧ e.res ≤ 18446744073709551615 ∧ e.most ≤ 18446744073709551615 ∧ (∀ q ∈ e.holds, q.rng) ∧ True
theorem typ86 {k : Nat} {xs : List C} (h : Typ Tryz.prog (k + 4) 86 xs) : (Ch.dec xs).enc = xs ∧ (Ch.dec xs).rng := by
  simp only [Typ, Tryz.underlying86, TypFs, Tryz.underlying4, Tryz.underlying23] at h
  obtain ⟨_, _, rfl, ⟨s0, rfl, h0⟩, _, _, rfl, ⟨s1, rfl, h1⟩, _, _, rfl, ⟨s2, rfl, h2⟩, _, _, rfl, ⟨s3, rfl, h3⟩, _, _, rfl, ⟨s4, rfl, h4⟩, _, _, rfl, hs5, _, _, rfl, ⟨s6, rfl⟩, rfl⟩ := h
  have q0 := wf_u64 h0
  have q1 := wf_u64 h1
  have q2 := wf_u64 h2
  have q3 := wf_u64 h3
  have q4 := wf_u64 h4
  obtain ⟨s5, rfl, q5⟩ := typ84 (k := k + 0) hs5
  simp only [List.cons_append, List.nil_append, List.append_nil]
  refine ⟨by simp [Ch.dec, Ch.enc, Int.toNat_of_nonneg q0.1, Int.toNat_of_nonneg q1.1, Int.toNat_of_nonneg q2.1, Int.toNat_of_nonneg q3.1, Int.toNat_of_nonneg q4.1, dhds_hds], ?_⟩
  simp only [Ch.dec, Ch.rng, dhds_hds]
  exact ⟨by omega, by omega, by omega, by omega, by omega, q5, trivial⟩
theorem chs_dchs {els : List (List C)} (h : ∀ x ∈ els, (Ch.dec x).enc = x) : chs (dchs els) = els := by
  simp only [chs, dchs, List.map_map]
  refine (List.map_congr_left fun x hx => ?_).trans (List.map_id _)
  exact h x hx
theorem typ32 {k : Nat} {xs : List C} (h : Typ Tryz.prog (k + 5) 32 xs) : ∃ l, xs = [.sl (chs l)] ∧ ∀ e ∈ l, e.rng := by
  simp only [Typ, Tryz.underlying32] at h
  obtain ⟨els, rfl, _, h2⟩ := h
  have h3 : ∀ x ∈ els, (Ch.dec x).enc = x ∧ (Ch.dec x).rng := fun x hx => typ86 (k := k) (h2 x hx)
  refine ⟨dchs els, by rw [chs_dchs fun x hx => (h3 x hx).1], fun e he => ?_⟩
  obtain ⟨x, hx, rfl⟩ := List.mem_map.1 he
  exact (h3 x hx).2
def Wt.rng (e : Wt) : Prop := e.id ≤ 18446744073709551615 ∧ True
theorem typ153 {k : Nat} {xs : List C} (h : Typ Tryz.prog (k + 2) 153 xs) : (Wt.dec xs).enc = xs ∧ (Wt.dec xs).rng := by
  simp only [Typ, Tryz.underlying153, TypFs, Tryz.underlying23, Tryz.underlying151] at h
  obtain ⟨_, _, rfl, ⟨s0, rfl, h0⟩, _, _, rfl, ⟨s1, rfl, h1⟩, rfl⟩ := h
  have q0 := wf_u64 h0
  simp only [List.cons_append, List.nil_append, List.append_nil]
  refine ⟨by simp [Wt.dec, Wt.enc, Int.toNat_of_nonneg q0.1], ?_⟩
  simp only [Wt.dec, Wt.rng]
  exact ⟨by omega, trivial⟩
theorem wts_dwts {els : List (List C)} (h : ∀ x ∈ els, (Wt.dec x).enc = x) : wts (dwts els) = els := by
  simp only [wts, dwts, List.map_map]
  refine (List.map_congr_left fun x hx => ?_).trans (List.map_id _)
  exact h x hx
theorem typ33 {k : Nat} {xs : List C} (h : Typ Tryz.prog (k + 3) 33 xs) : ∃ l, xs = [.sl (wts l)] ∧ ∀ e ∈ l, e.rng := by
  simp only [Typ, Tryz.underlying33] at h
  obtain ⟨els, rfl, _, h2⟩ := h
  have h3 : ∀ x ∈ els, (Wt.dec x).enc = x ∧ (Wt.dec x).rng := fun x hx => typ153 (k := k) (h2 x hx)
  refine ⟨dwts els, by rw [wts_dwts fun x hx => (h3 x hx).1], fun e he => ?_⟩
  obtain ⟨x, hx, rfl⟩ := List.mem_map.1 he
  exact (h3 x hx).2
def Iv.rng (e : Iv) : Prop := e.hash ≤ 18446744073709551615 ∧ e.n ≤ 18446744073709551615 ∧ e.till ≤ 18446744073709551615 ∧ (-9223372036854775808 ≤ e.state ∧ e.state ≤ 9223372036854775807)
theorem typ189 {k : Nat} {xs : List C} (h : Typ Tryz.prog (k + 2) 189 xs) : (Iv.dec xs).enc = xs ∧ (Iv.dec xs).rng := by
  simp only [Typ, Tryz.underlying189, TypFs, Tryz.underlying3, Tryz.underlying23] at h
  obtain ⟨_, _, rfl, ⟨s0, rfl, h0⟩, _, _, rfl, ⟨s1, rfl, h1⟩, _, _, rfl, ⟨s2, rfl, h2⟩, _, _, rfl, ⟨s3, rfl, h3⟩, rfl⟩ := h
  have q0 := wf_u64 h0
  have q1 := wf_u64 h1
  have q2 := wf_u64 h2
  have q3 := wf_i64 h3
  simp only [List.cons_append, List.nil_append, List.append_nil]
  refine ⟨by simp [Iv.dec, Iv.enc, Int.toNat_of_nonneg q0.1, Int.toNat_of_nonneg q1.1, Int.toNat_of_nonneg q2.1], ?_⟩
  simp only [Iv.dec, Iv.rng]
  exact ⟨by omega, by omega, by omega, ⟨by omega, by omega⟩⟩
theorem ivs_divs {els : List (List C)} (h : ∀ x ∈ els, (Iv.dec x).enc = x) : ivs (divs els) = els := by
  simp only [ivs, divs, List.map_map]
  refine (List.map_congr_left fun x hx => ?_).trans (List.map_id _)
  exact h x hx
theorem typ34 {k : Nat} {xs : List C} (h : Typ Tryz.prog (k + 3) 34 xs) : ∃ l, xs = [.sl (ivs l)] ∧ ∀ e ∈ l, e.rng := by
  simp only [Typ, Tryz.underlying34] at h
  obtain ⟨els, rfl, _, h2⟩ := h
  have h3 : ∀ x ∈ els, (Iv.dec x).enc = x ∧ (Iv.dec x).rng := fun x hx => typ189 (k := k) (h2 x hx)
  refine ⟨divs els, by rw [ivs_divs fun x hx => (h3 x hx).1], fun e he => ?_⟩
  obtain ⟨x, hx, rfl⟩ := List.mem_map.1 he
  exact (h3 x hx).2
def Py.rng (e : Py) : Prop := e.id ≤ 18446744073709551615 ∧ e.hash ≤ 18446744073709551615 ∧ e.chan ≤ 18446744073709551615 ∧ e.n ≤ 18446744073709551615 ∧ (-9223372036854775808 ≤ e.state ∧ e.state ≤ 9223372036854775807)
theorem typ192 {k : Nat} {xs : List C} (h : Typ Tryz.prog (k + 2) 192 xs) : (Py.dec xs).enc = xs ∧ (Py.dec xs).rng := by
  simp only [Typ, Tryz.underlying192, TypFs, Tryz.underlying3, Tryz.underlying23] at h
  obtain ⟨_, _, rfl, ⟨s0, rfl, h0⟩, _, _, rfl, ⟨s1, rfl, h1⟩, _, _, rfl, ⟨s2, rfl, h2⟩, _, _, rfl, ⟨s3, rfl, h3⟩, _, _, rfl, ⟨s4, rfl, h4⟩, rfl⟩ := h
  have q0 := wf_u64 h0
  have q1 := wf_u64 h1
  have q2 := wf_u64 h2
  have q3 := wf_u64 h3
  have q4 := wf_i64 h4
  simp only [List.cons_append, List.nil_append, List.append_nil]
  refine ⟨by simp [Py.dec, Py.enc, Int.toNat_of_nonneg q0.1, Int.toNat_of_nonneg q1.1, Int.toNat_of_nonneg q2.1, Int.toNat_of_nonneg q3.1], ?_⟩
  simp only [Py.dec, Py.rng]
  exact ⟨by omega, by omega, by omega, by omega, ⟨by omega, by omega⟩⟩
theorem pys_dpys {els : List (List C)} (h : ∀ x ∈ els, (Py.dec x).enc = x) : pys (dpys els) = els := by
  simp only [pys, dpys, List.map_map]
  refine (List.map_congr_left fun x hx => ?_).trans (List.map_id _)
  exact h x hx
theorem typ35 {k : Nat} {xs : List C} (h : Typ Tryz.prog (k + 3) 35 xs) : ∃ l, xs = [.sl (pys l)] ∧ ∀ e ∈ l, e.rng := by
  simp only [Typ, Tryz.underlying35] at h
  obtain ⟨els, rfl, _, h2⟩ := h
  have h3 : ∀ x ∈ els, (Py.dec x).enc = x ∧ (Py.dec x).rng := fun x hx => typ192 (k := k) (h2 x hx)
  refine ⟨dpys els, by rw [pys_dpys fun x hx => (h3 x hx).1], fun e he => ?_⟩
  obtain ⟨x, hx, rfl⟩ := List.mem_map.1 he
  exact (h3 x hx).2
def Ev.rng (e : Ev) : Prop := e.seq ≤ 18446744073709551615 ∧ (-9223372036854775808 ≤ e.kind ∧ e.kind ≤ 9223372036854775807) ∧ e.a ≤ 18446744073709551615 ∧ e.n ≤ 18446744073709551615
theorem typ195 {k : Nat} {xs : List C} (h : Typ Tryz.prog (k + 2) 195 xs) : (Ev.dec xs).enc = xs ∧ (Ev.dec xs).rng := by
  simp only [Typ, Tryz.underlying195, TypFs, Tryz.underlying3, Tryz.underlying23] at h
  obtain ⟨_, _, rfl, ⟨s0, rfl, h0⟩, _, _, rfl, ⟨s1, rfl, h1⟩, _, _, rfl, ⟨s2, rfl, h2⟩, _, _, rfl, ⟨s3, rfl, h3⟩, rfl⟩ := h
  have q0 := wf_u64 h0
  have q1 := wf_i64 h1
  have q2 := wf_u64 h2
  have q3 := wf_u64 h3
  simp only [List.cons_append, List.nil_append, List.append_nil]
  refine ⟨by simp [Ev.dec, Ev.enc, Int.toNat_of_nonneg q0.1, Int.toNat_of_nonneg q2.1, Int.toNat_of_nonneg q3.1], ?_⟩
  simp only [Ev.dec, Ev.rng]
  exact ⟨by omega, ⟨by omega, by omega⟩, by omega, by omega⟩
theorem evs_devs {els : List (List C)} (h : ∀ x ∈ els, (Ev.dec x).enc = x) : evs (devs els) = els := by
  simp only [evs, devs, List.map_map]
  refine (List.map_congr_left fun x hx => ?_).trans (List.map_id _)
  exact h x hx
theorem typ36 {k : Nat} {xs : List C} (h : Typ Tryz.prog (k + 3) 36 xs) : ∃ l, xs = [.sl (evs l)] ∧ ∀ e ∈ l, e.rng := by
  simp only [Typ, Tryz.underlying36] at h
  obtain ⟨els, rfl, _, h2⟩ := h
  have h3 : ∀ x ∈ els, (Ev.dec x).enc = x ∧ (Ev.dec x).rng := fun x hx => typ195 (k := k) (h2 x hx)
  refine ⟨devs els, by rw [evs_devs fun x hx => (h3 x hx).1], fun e he => ?_⟩
  obtain ⟨x, hx, rfl⟩ := List.mem_map.1 he
  exact (h3 x hx).2
def Fd.rng (e : Fd) : Prop := e.next ≤ 18446744073709551615 ∧ (∀ q ∈ e.l, q.rng)
theorem typ38 {k : Nat} {xs : List C} (h : Typ Tryz.prog (k + 4) 38 xs) : (Fd.dec xs).enc = xs ∧ (Fd.dec xs).rng := by
  simp only [Typ, Tryz.underlying38, TypFs, Tryz.underlying23] at h
  obtain ⟨_, _, rfl, ⟨s0, rfl, h0⟩, _, _, rfl, hs1, rfl⟩ := h
  have q0 := wf_u64 h0
  obtain ⟨s1, rfl, q1⟩ := typ36 (k := k + 0) hs1
  simp only [List.cons_append, List.nil_append, List.append_nil]
  refine ⟨by simp [Fd.dec, Fd.enc, Int.toNat_of_nonneg q0.1, devs_evs], ?_⟩
  simp only [Fd.dec, Fd.rng, devs_evs]
  exact ⟨by omega, q1⟩
def Tm.rng (e : Tm) : Prop := e.key ≤ 18446744073709551615 ∧ (-9223372036854775808 ≤ e.up ∧ e.up ≤ 9223372036854775807) ∧ True
theorem typ83 {k : Nat} {xs : List C} (h : Typ Tryz.prog (k + 3) 83 xs) : (Tm.dec xs).enc = xs ∧ (Tm.dec xs).rng := by
  simp only [Typ, Tryz.underlying83, TypFs, Tryz.underlying3, Tryz.underlying23] at h
  obtain ⟨_, _, rfl, ⟨s0, rfl, h0⟩, _, _, rfl, ⟨s1, rfl, h1⟩, _, _, rfl, hs2, rfl⟩ := h
  have q0 := wf_u64 h0
  have q1 := wf_i64 h1
  obtain ⟨s2, rfl, q2⟩ := typ81 (k := k + 0) hs2
  simp only [List.cons_append, List.nil_append, List.append_nil]
  refine ⟨by simp [Tm.dec, Tm.enc, Int.toNat_of_nonneg q0.1, du8s_u8s], ?_⟩
  simp only [Tm.dec, Tm.rng, du8s_u8s]
  exact ⟨by omega, ⟨by omega, by omega⟩, q2⟩
theorem tms_dtms {els : List (List C)} (h : ∀ x ∈ els, (Tm.dec x).enc = x) : tms (dtms els) = els := by
  simp only [tms, dtms, List.map_map]
  refine (List.map_congr_left fun x hx => ?_).trans (List.map_id _)
  exact h x hx
theorem typ41 {k : Nat} {xs : List C} (h : Typ Tryz.prog (k + 4) 41 xs) : ∃ l, xs = [.sl (tms l)] ∧ ∀ e ∈ l, e.rng := by
  simp only [Typ, Tryz.underlying41] at h
  obtain ⟨els, rfl, _, h2⟩ := h
  have h3 : ∀ x ∈ els, (Tm.dec x).enc = x ∧ (Tm.dec x).rng := fun x hx => typ83 (k := k) (h2 x hx)
  refine ⟨dtms els, by rw [tms_dtms fun x hx => (h3 x hx).1], fun e he => ?_⟩
  obtain ⟨x, hx, rfl⟩ := List.mem_map.1 he
  exact (h3 x hx).2
def Ar.rng (e : Ar) : Prop := (∀ q ∈ e.l, q.rng)
theorem typ43 {k : Nat} {xs : List C} (h : Typ Tryz.prog (k + 5) 43 xs) : (Ar.dec xs).enc = xs ∧ (Ar.dec xs).rng := by
  simp only [Typ, Tryz.underlying43, TypFs] at h
  obtain ⟨_, _, rfl, hs0, rfl⟩ := h
  obtain ⟨s0, rfl, q0⟩ := typ41 (k := k + 0) hs0
  simp only [List.cons_append, List.nil_append, List.append_nil]
  refine ⟨by simp [Ar.dec, Ar.enc, dtms_tms], ?_⟩
  simp only [Ar.dec, Ar.rng, dtms_tms]
  exact q0
def Rk.rng (e : Rk) : Prop := e.id ≤ 18446744073709551615 ∧ e.key ≤ 18446744073709551615 ∧ True
theorem typ70 {k : Nat} {xs : List C} (h : Typ Tryz.prog (k + 2) 70 xs) : (Rk.dec xs).enc = xs ∧ (Rk.dec xs).rng := by
  simp only [Typ, Tryz.underlying70, TypFs, Tryz.underlying4, Tryz.underlying23] at h
  obtain ⟨_, _, rfl, ⟨s0, rfl, h0⟩, _, _, rfl, ⟨s1, rfl, h1⟩, _, _, rfl, ⟨s2, rfl⟩, rfl⟩ := h
  have q0 := wf_u64 h0
  have q1 := wf_u64 h1
  simp only [List.cons_append, List.nil_append, List.append_nil]
  refine ⟨by simp [Rk.dec, Rk.enc, Int.toNat_of_nonneg q0.1, Int.toNat_of_nonneg q1.1], ?_⟩
  simp only [Rk.dec, Rk.rng]
  exact ⟨by omega, by omega, trivial⟩
theorem rks_drks {els : List (List C)} (h : ∀ x ∈ els, (Rk.dec x).enc = x) : rks (drks els) = els := by
  simp only [rks, drks, List.map_map]
  refine (List.map_congr_left fun x hx => ?_).trans (List.map_id _)
  exact h x hx
theorem typ44 {k : Nat} {xs : List C} (h : Typ Tryz.prog (k + 3) 44 xs) : ∃ l, xs = [.sl (rks l)] ∧ ∀ e ∈ l, e.rng := by
  simp only [Typ, Tryz.underlying44] at h
  obtain ⟨els, rfl, _, h2⟩ := h
  have h3 : ∀ x ∈ els, (Rk.dec x).enc = x ∧ (Rk.dec x).rng := fun x hx => typ70 (k := k) (h2 x hx)
  refine ⟨drks els, by rw [rks_drks fun x hx => (h3 x hx).1], fun e he => ?_⟩
  obtain ⟨x, hx, rfl⟩ := List.mem_map.1 he
  exact (h3 x hx).2
def Ky.rng (e : Ky) : Prop := e.k ≤ 18446744073709551615 ∧ True ∧ True ∧ e.till ≤ 18446744073709551615
theorem typ158 {k : Nat} {xs : List C} (h : Typ Tryz.prog (k + 3) 158 xs) : (Ky.dec xs).enc = xs ∧ (Ky.dec xs).rng := by
  simp only [Typ, Tryz.underlying158, TypFs, Tryz.underlying23] at h
  obtain ⟨_, _, rfl, ⟨s0, rfl, h0⟩, _, _, rfl, hs1, _, _, rfl, hs2, _, _, rfl, ⟨s3, rfl, h3⟩, rfl⟩ := h
  have q0 := wf_u64 h0
  obtain ⟨s1, rfl, q1⟩ := typ81 (k := k + 0) hs1
  obtain ⟨s2, rfl, q2⟩ := typ81 (k := k + 0) hs2
  have q3 := wf_u64 h3
  simp only [List.cons_append, List.nil_append, List.append_nil]
  refine ⟨by simp [Ky.dec, Ky.enc, Int.toNat_of_nonneg q0.1, Int.toNat_of_nonneg q3.1, du8s_u8s, du8s_u8s], ?_⟩
  simp only [Ky.dec, Ky.rng, du8s_u8s, du8s_u8s]
  exact ⟨by omega, q1, q2, by omega⟩
theorem kys_dkys {els : List (List C)} (h : ∀ x ∈ els, (Ky.dec x).enc = x) : kys (dkys els) = els := by
  simp only [kys, dkys, List.map_map]
  refine (List.map_congr_left fun x hx => ?_).trans (List.map_id _)
  exact h x hx
theorem typ45 {k : Nat} {xs : List C} (h : Typ Tryz.prog (k + 4) 45 xs) : ∃ l, xs = [.sl (kys l)] ∧ ∀ e ∈ l, e.rng := by
  simp only [Typ, Tryz.underlying45] at h
  obtain ⟨els, rfl, _, h2⟩ := h
  have h3 : ∀ x ∈ els, (Ky.dec x).enc = x ∧ (Ky.dec x).rng := fun x hx => typ158 (k := k) (h2 x hx)
  refine ⟨dkys els, by rw [kys_dkys fun x hx => (h3 x hx).1], fun e he => ?_⟩
  obtain ⟨x, hx, rfl⟩ := List.mem_map.1 he
  exact (h3 x hx).2
def Ct.rng (e : Ct) : Prop := e.root ≤ 18446744073709551615 ∧ e.b ≤ 18446744073709551615 ∧ e.n ≤ 18446744073709551615
theorem typ160 {k : Nat} {xs : List C} (h : Typ Tryz.prog (k + 2) 160 xs) : (Ct.dec xs).enc = xs ∧ (Ct.dec xs).rng := by
  simp only [Typ, Tryz.underlying160, TypFs, Tryz.underlying23] at h
  obtain ⟨_, _, rfl, ⟨s0, rfl, h0⟩, _, _, rfl, ⟨s1, rfl, h1⟩, _, _, rfl, ⟨s2, rfl, h2⟩, rfl⟩ := h
  have q0 := wf_u64 h0
  have q1 := wf_u64 h1
  have q2 := wf_u64 h2
  simp only [List.cons_append, List.nil_append, List.append_nil]
  refine ⟨by simp [Ct.dec, Ct.enc, Int.toNat_of_nonneg q0.1, Int.toNat_of_nonneg q1.1, Int.toNat_of_nonneg q2.1], ?_⟩
  simp only [Ct.dec, Ct.rng]
  exact ⟨by omega, by omega, by omega⟩
theorem cts_dcts {els : List (List C)} (h : ∀ x ∈ els, (Ct.dec x).enc = x) : cts (dcts els) = els := by
  simp only [cts, dcts, List.map_map]
  refine (List.map_congr_left fun x hx => ?_).trans (List.map_id _)
  exact h x hx
theorem typ46 {k : Nat} {xs : List C} (h : Typ Tryz.prog (k + 3) 46 xs) : ∃ l, xs = [.sl (cts l)] ∧ ∀ e ∈ l, e.rng := by
  simp only [Typ, Tryz.underlying46] at h
  obtain ⟨els, rfl, _, h2⟩ := h
  have h3 : ∀ x ∈ els, (Ct.dec x).enc = x ∧ (Ct.dec x).rng := fun x hx => typ160 (k := k) (h2 x hx)
  refine ⟨dcts els, by rw [cts_dcts fun x hx => (h3 x hx).1], fun e he => ?_⟩
  obtain ⟨x, hx, rfl⟩ := List.mem_map.1 he
  exact (h3 x hx).2
def Cv.rng (e : Cv) : Prop := (-9223372036854775808 ≤ e.kind ∧ e.kind ≤ 9223372036854775807) ∧ e.a ≤ 18446744073709551615 ∧ e.b ≤ 18446744073709551615
theorem typ59 {k : Nat} {xs : List C} (h : Typ Tryz.prog (k + 2) 59 xs) : (Cv.dec xs).enc = xs ∧ (Cv.dec xs).rng := by
  simp only [Typ, Tryz.underlying59, TypFs, Tryz.underlying3, Tryz.underlying23] at h
  obtain ⟨_, _, rfl, ⟨s0, rfl, h0⟩, _, _, rfl, ⟨s1, rfl, h1⟩, _, _, rfl, ⟨s2, rfl, h2⟩, rfl⟩ := h
  have q0 := wf_i64 h0
  have q1 := wf_u64 h1
  have q2 := wf_u64 h2
  simp only [List.cons_append, List.nil_append, List.append_nil]
  refine ⟨by simp [Cv.dec, Cv.enc, Int.toNat_of_nonneg q1.1, Int.toNat_of_nonneg q2.1], ?_⟩
  simp only [Cv.dec, Cv.rng]
  exact ⟨⟨by omega, by omega⟩, by omega, by omega⟩
theorem cvs_dcvs {els : List (List C)} (h : ∀ x ∈ els, (Cv.dec x).enc = x) : cvs (dcvs els) = els := by
  simp only [cvs, dcvs, List.map_map]
  refine (List.map_congr_left fun x hx => ?_).trans (List.map_id _)
  exact h x hx
theorem typ24 {k : Nat} {xs : List C} (h : Typ Tryz.prog (k + 3) 24 xs) : ∃ l, xs = [.sl (cvs l)] ∧ ∀ e ∈ l, e.rng := by
  simp only [Typ, Tryz.underlying24] at h
  obtain ⟨els, rfl, _, h2⟩ := h
  have h3 : ∀ x ∈ els, (Cv.dec x).enc = x ∧ (Cv.dec x).rng := fun x hx => typ59 (k := k) (h2 x hx)
  refine ⟨dcvs els, by rw [cvs_dcvs fun x hx => (h3 x hx).1], fun e he => ?_⟩
  obtain ⟨x, hx, rfl⟩ := List.mem_map.1 he
  exact (h3 x hx).2
def Tk.rng (e : Tk) : Prop := e.root ≤ 18446744073709551615 ∧ (∀ q ∈ e.l, q.rng) ∧ (-9223372036854775808 ≤ e.tag ∧ e.tag ≤ 9223372036854775807)
theorem typ26 {k : Nat} {xs : List C} (h : Typ Tryz.prog (k + 4) 26 xs) : (Tk.dec xs).enc = xs ∧ (Tk.dec xs).rng := by
  simp only [Typ, Tryz.underlying26, TypFs, Tryz.underlying3, Tryz.underlying23] at h
  obtain ⟨_, _, rfl, ⟨s0, rfl, h0⟩, _, _, rfl, hs1, _, _, rfl, ⟨s2, rfl, h2⟩, rfl⟩ := h
  have q0 := wf_u64 h0
  obtain ⟨s1, rfl, q1⟩ := typ24 (k := k + 0) hs1
  have q2 := wf_i64 h2
  simp only [List.cons_append, List.nil_append, List.append_nil]
  refine ⟨by simp [Tk.dec, Tk.enc, Int.toNat_of_nonneg q0.1, dcvs_cvs], ?_⟩
  simp only [Tk.dec, Tk.rng, dcvs_cvs]
  exact ⟨by omega, q1, ⟨by omega, by omega⟩⟩
def It.rng (e : It) : Prop := e.hash ≤ 18446744073709551615 ∧ e.n ≤ 18446744073709551615
theorem typ250 {k : Nat} {xs : List C} (h : Typ Tryz.prog (k + 2) 250 xs) : (It.dec xs).enc = xs ∧ (It.dec xs).rng := by
  simp only [Typ, Tryz.underlying250, TypFs, Tryz.underlying23] at h
  obtain ⟨_, _, rfl, ⟨s0, rfl, h0⟩, _, _, rfl, ⟨s1, rfl, h1⟩, rfl⟩ := h
  have q0 := wf_u64 h0
  have q1 := wf_u64 h1
  simp only [List.cons_append, List.nil_append, List.append_nil]
  refine ⟨by simp [It.dec, It.enc, Int.toNat_of_nonneg q0.1, Int.toNat_of_nonneg q1.1], ?_⟩
  simp only [It.dec, It.rng]
  exact ⟨by omega, by omega⟩
theorem its_dits {els : List (List C)} (h : ∀ x ∈ els, (It.dec x).enc = x) : its (dits els) = els := by
  simp only [its, dits, List.map_map]
  refine (List.map_congr_left fun x hx => ?_).trans (List.map_id _)
  exact h x hx
theorem typ27 {k : Nat} {xs : List C} (h : Typ Tryz.prog (k + 3) 27 xs) : ∃ l, xs = [.sl (its l)] ∧ ∀ e ∈ l, e.rng := by
  simp only [Typ, Tryz.underlying27] at h
  obtain ⟨els, rfl, _, h2⟩ := h
  have h3 : ∀ x ∈ els, (It.dec x).enc = x ∧ (It.dec x).rng := fun x hx => typ250 (k := k) (h2 x hx)
  refine ⟨dits els, by rw [its_dits fun x hx => (h3 x hx).1], fun e he => ?_⟩
  obtain ⟨x, hx, rfl⟩ := List.mem_map.1 he
  exact (h3 x hx).2
def Wl.rng (w : Wl) : Prop := (∀ e ∈ w.c, e.rng) ∧ (∀ e ∈ w.w, e.rng) ∧ (∀ e ∈ w.i, e.rng) ∧ (∀ e ∈ w.p, e.rng) ∧ w.f.rng ∧ w.next ≤ 18446744073709551615 ∧ w.tick ≤ 18446744073709551615
theorem typ40x {k : Nat} {xs : List C} (h : Typ Tryz.prog (k + 6) 40 xs) : ∃ w : Wl, xs = w.enc ∧ w.rng := by
  rw [show k + 6 = (k + 5) + 1 from rfl, Typ, Tryz.underlying40] at h
  simp only [TypFs] at h
  obtain ⟨_, _, rfl, h0, _, _, rfl, h1, _, _, rfl, h2, _, _, rfl, h3, _, _, rfl, h4, _, _, rfl, h5, _, _, rfl, h6, rfl⟩ := h
  obtain ⟨c, rfl, q0⟩ := typ32 (k := k) h0
  obtain ⟨w, rfl, q1⟩ := typ33 (k := k + 2) h1
  obtain ⟨i, rfl, q2⟩ := typ34 (k := k + 2) h2
  obtain ⟨p, rfl, q3⟩ := typ35 (k := k + 2) h3
  obtain ⟨e4, q4⟩ := typ38 (k := k + 1) h4
  obtain ⟨n, rfl, q5⟩ := typ23 (k := k + 4) h5
  obtain ⟨t, rfl, q6⟩ := typ23 (k := k + 4) h6
  refine ⟨⟨c, w, i, p, Fd.dec _, n, t⟩, ?_, q0, q1, q2, q3, q4, q5, q6⟩
  rw [← e4]
  simp [Wl.enc, Fd.enc, Fd.dec, devs_evs]
def Bk.rng (b : Bk) : Prop := b.w.rng ∧ b.a.rng ∧ (∀ e ∈ b.r, e.rng) ∧ (∀ e ∈ b.k, e.rng) ∧ ∀ e ∈ b.s, e.rng
theorem typ48x {k : Nat} {xs : List C} (h : Typ Tryz.prog (k + 7) 48 xs) : ∃ b : Bk, xs = b.enc ∧ b.rng := by
  rw [show k + 7 = (k + 6) + 1 from rfl, Typ, Tryz.underlying48] at h
  simp only [TypFs] at h
  obtain ⟨_, _, rfl, h0, _, _, rfl, h1, _, _, rfl, h2, _, _, rfl, h3, _, _, rfl, h4, rfl⟩ := h
  obtain ⟨w, rfl, q0⟩ := typ40x (k := k) h0
  obtain ⟨e1, q1⟩ := typ43 (k := k + 1) h1
  obtain ⟨r, rfl, q2⟩ := typ44 (k := k + 3) h2
  obtain ⟨y, rfl, q3⟩ := typ45 (k := k + 2) h3
  obtain ⟨s, rfl, q4⟩ := typ46 (k := k + 3) h4
  refine ⟨⟨w, Ar.dec _, r, y, s⟩, ?_, q0, q1, q2, q3, q4⟩
  rw [← e1]
  simp [Bk.enc, Wl.enc, Ar.enc, Ar.dec, dtms_tms]
def Rq.rng (r : Rq) : Prop := r.id ≤ 18446744073709551615 ∧ (-9223372036854775808 ≤ r.method ∧ r.method ≤ 9223372036854775807) ∧ r.key ≤ 18446744073709551615 ∧ r.t.rng ∧ r.a ≤ 18446744073709551615 ∧ r.n ≤ 18446744073709551615 ∧ r.till ≤ 18446744073709551615 ∧ (∀ e ∈ r.items, e.rng) ∧ ∀ e ∈ r.l, e.rng
theorem typ29x {k : Nat} {xs : List C} (h : Typ Tryz.prog (k + 5) 29 xs) : ∃ r : Rq, xs = r.enc ∧ r.rng := by
  rw [show k + 5 = (k + 4) + 1 from rfl, Typ, Tryz.underlying29] at h
  simp only [TypFs] at h
  obtain ⟨_, _, rfl, h0, _, _, rfl, h1, _, _, rfl, h2, _, _, rfl, h3, _, _, rfl, h4, _, _, rfl, h5, _, _, rfl, h6, _, _, rfl, h7, _, _, rfl, h8, rfl⟩ := h
  obtain ⟨i, rfl, q0⟩ := typ23 (k := k + 3) h0
  obtain ⟨m, rfl, q1⟩ := typ3 (k := k + 3) h1
  obtain ⟨y, rfl, q2⟩ := typ23 (k := k + 3) h2
  obtain ⟨e3, q3⟩ := typ26 (k := k) h3
  obtain ⟨a, rfl, q4⟩ := typ23 (k := k + 3) h4
  obtain ⟨n, rfl, q5⟩ := typ23 (k := k + 3) h5
  obtain ⟨t, rfl, q6⟩ := typ23 (k := k + 3) h6
  obtain ⟨l, rfl, q7⟩ := typ27 (k := k + 1) h7
  obtain ⟨c, rfl, q8⟩ := typ24 (k := k + 1) h8
  refine ⟨⟨i, m, y, Tk.dec _, a, n, t, l, c⟩, ?_, q0, q1, q2, q3, q4, q5, q6, q7, q8⟩
  rw [← e3]
  simp [Rq.enc, Tk.enc, Tk.dec, dcvs_cvs]
end Dm
namespace Dm
open Go Go.Proofs Go.IntWalk
def useG (b : Bk) (r : Rq) (who : Nat) : Us × Int := if (amtS r).2 = 0 ∧ chkB b = 0 then (⟨b.w.tick, r.method, (amtS r).1, who⟩, 0) else (⟨0, 0, 0, 0⟩, 1)
@[go_sem] def guse_r (b : Bk) (r : Rq) (who : Nat) : D := .tup [.agg [.int .u64 ((useG b r who).1.tick : Nat), .int .i64 (useG b r who).1.method, .int .u64 ((useG b r who).1.amount : Nat), .int .u64 ((useG b r who).1.who : Nat)], .int .i64 (useG b r who).2]
@[go_sem] abbrev n_guse : FuncId := 17
@[go_sem] def guse_T : Tab := [(57, sp_amt), (31, sp_gcheck)]
theorem guse_T_ok : TabOk Tryz.prog guse_T := (TabOk.cons sp_amt_ok (TabOk.cons sp_gcheck_ok TabOk.nil))
set_option maxRecDepth 8000 in
set_option maxHeartbeats 1000000 in
theorem guse_ok (b : Bk) (r : Rq) (who : Nat) (h : b.w.f.next ≤ 18446744073709551615) : PureFn Tryz.prog 17 [.agg [.sl (chs b.w.c), .sl (wts b.w.w), .sl (ivs b.w.i), .sl (pys b.w.p), .c (.int .u64 (b.w.f.next : Int)), .sl (evs b.w.f.l), .c (.int .u64 (b.w.next : Int)), .c (.int .u64 (b.w.tick : Int)), .sl (tms b.a.l), .sl (rks b.r), .sl (kys b.k), .sl (cts b.s)], .agg [.c (.int .u64 (r.id : Int)), .c (.int .i64 r.method), .c (.int .u64 (r.key : Int)), .c (.int .u64 (r.t.root : Int)), .sl (cvs r.t.l), .c (.int .i64 r.t.tag), .c (.int .u64 (r.a : Int)), .c (.int .u64 (r.n : Int)), .c (.int .u64 (r.till : Int)), .sl (its r.items), .sl (cvs r.l)], .c (.int .u64 (who : Int))] (guse_r b r who) := by
  refine .of (ac17 guse_T_ok (Nat.le_of_ble_eq_true rfl) ?_)
  simp -implicitDefEqProofs only [cdA, go_sem, Go.Proofs.Tryz.f17, reduceIte, reduceCtorEq, Nat.reduceEqDiff, Nat.reduceAdd, Nat.reduceLeDiff, Nat.reduceSub, Nat.reduceMul, Nat.reduceLT, Nat.reduceShiftRight, Nat.reduceMod, Int.reduceLE, Int.reduceLT, Int.reduceToNat, List.cons.injEq, cdB]
  refine ⟨fun h1 => ⟨h, fun h2 => ?_, fun h2 => ?_⟩, fun h1 => ?_⟩
  · rw [useG, if_pos ⟨h1, h2⟩]; exact ⟨⟨rfl, rfl, rfl, rfl⟩, rfl⟩
  · rw [useG, if_neg fun h => h2 h.2]; exact ⟨⟨rfl, rfl, rfl, rfl⟩, rfl⟩
  · rw [useG, if_neg fun h => h1 h.1]; exact ⟨⟨rfl, rfl, rfl, rfl⟩, rfl⟩
@[go_sem] def guse_p (b : Bk) (r : Rq) (who : Nat) : Prop := (b.w.f.next ≤ 18446744073709551615)
def sp_guse : List D → Option (Prop × D × Fr)
  | [.agg [.c (.sl z3), .c (.sl z4), .c (.sl z5), .c (.sl z6), .c (.int .u64 z8), .c (.sl z9), .c (.int .u64 z10), .c (.int .u64 z11), .c (.sl z13), .c (.sl z14), .c (.sl z15), .c (.sl z16)], .agg [.c (.int .u64 z18), .c (.int .i64 z19), .c (.int .u64 z20), .c (.int .u64 z22), .c (.sl z23), .c (.int .i64 z24), .c (.int .u64 z25), .c (.int .u64 z26), .c (.int .u64 z27), .c (.sl z28), .c (.sl z29)], .c (.int .u64 z30)] => some (z3 = chs (dchs z3) ∧ z4 = wts (dwts z4) ∧ z5 = ivs (divs z5) ∧ z6 = pys (dpys z6) ∧ z8 = (z8.toNat : Int) ∧ z9 = evs (devs z9) ∧ z10 = (z10.toNat : Int) ∧ z11 = (z11.toNat : Int) ∧ z13 = tms (dtms z13) ∧ z14 = rks (drks z14) ∧ z15 = kys (dkys z15) ∧ z16 = cts (dcts z16) ∧ z18 = (z18.toNat : Int) ∧ z20 = (z20.toNat : Int) ∧ z22 = (z22.toNat : Int) ∧ z23 = cvs (dcvs z23) ∧ z25 = (z25.toNat : Int) ∧ z26 = (z26.toNat : Int) ∧ z27 = (z27.toNat : Int) ∧ z28 = its (dits z28) ∧ z29 = cvs (dcvs z29) ∧ z30 = (z30.toNat : Int) ∧ guse_p (⟨(⟨(dchs z3), (dwts z4), (divs z5), (dpys z6), (⟨z8.toNat, (devs z9)⟩ : Fd), z10.toNat, z11.toNat⟩ : Wl), (⟨(dtms z13)⟩ : Ar), (drks z14), (dkys z15), (dcts z16)⟩ : Bk) (⟨z18.toNat, z19, z20.toNat, (⟨z22.toNat, (dcvs z23), z24⟩ : Tk), z25.toNat, z26.toNat, z27.toNat, (dits z28), (dcvs z29)⟩ : Rq) z30.toNat, guse_r (⟨(⟨(dchs z3), (dwts z4), (divs z5), (dpys z6), (⟨z8.toNat, (devs z9)⟩ : Fd), z10.toNat, z11.toNat⟩ : Wl), (⟨(dtms z13)⟩ : Ar), (drks z14), (dkys z15), (dcts z16)⟩ : Bk) (⟨z18.toNat, z19, z20.toNat, (⟨z22.toNat, (dcvs z23), z24⟩ : Tk), z25.toNat, z26.toNat, z27.toNat, (dits z28), (dcvs z29)⟩ : Rq) z30.toNat, [])
  | _ => none
attribute [go_sem] sp_guse
theorem sp_guse_ok : ∀ rs p r fr, sp_guse rs = some (p, r, fr) → p → FnOk Tryz.prog 17 rs r fr := by
  intro rs p r fr h hp
  unfold sp_guse at h
  split at h <;> cases h
  obtain ⟨hc0, hc1, hc2, hc3, hc4, hc5, hc6, hc7, hc8, hc9, hc10, hc11, hc12, hc13, hc14, hc15, hc16, hc17, hc18, hc19, hc20, hc21, hp⟩ := hp
  rename_i z3 z4 z5 z6 z8 z9 z10 z11 z13 z14 z15 z16 z18 z19 z20 z22 z23 z24 z25 z26 z27 z28 z29 z30
  obtain ⟨z3, rfl⟩ : ∃ m, z3 = chs m := ⟨_, hc0⟩
  obtain ⟨z4, rfl⟩ : ∃ m, z4 = wts m := ⟨_, hc1⟩
  obtain ⟨z5, rfl⟩ : ∃ m, z5 = ivs m := ⟨_, hc2⟩
  obtain ⟨z6, rfl⟩ : ∃ m, z6 = pys m := ⟨_, hc3⟩
  obtain ⟨z8, rfl⟩ : ∃ m : Nat, z8 = m := ⟨_, hc4⟩
  obtain ⟨z9, rfl⟩ : ∃ m, z9 = evs m := ⟨_, hc5⟩
  obtain ⟨z10, rfl⟩ : ∃ m : Nat, z10 = m := ⟨_, hc6⟩
  obtain ⟨z11, rfl⟩ : ∃ m : Nat, z11 = m := ⟨_, hc7⟩
  obtain ⟨z13, rfl⟩ : ∃ m, z13 = tms m := ⟨_, hc8⟩
  obtain ⟨z14, rfl⟩ : ∃ m, z14 = rks m := ⟨_, hc9⟩
  obtain ⟨z15, rfl⟩ : ∃ m, z15 = kys m := ⟨_, hc10⟩
  obtain ⟨z16, rfl⟩ : ∃ m, z16 = cts m := ⟨_, hc11⟩
  obtain ⟨z18, rfl⟩ : ∃ m : Nat, z18 = m := ⟨_, hc12⟩
  obtain ⟨z20, rfl⟩ : ∃ m : Nat, z20 = m := ⟨_, hc13⟩
  obtain ⟨z22, rfl⟩ : ∃ m : Nat, z22 = m := ⟨_, hc14⟩
  obtain ⟨z23, rfl⟩ : ∃ m, z23 = cvs m := ⟨_, hc15⟩
  obtain ⟨z25, rfl⟩ : ∃ m : Nat, z25 = m := ⟨_, hc16⟩
  obtain ⟨z26, rfl⟩ : ∃ m : Nat, z26 = m := ⟨_, hc17⟩
  obtain ⟨z27, rfl⟩ : ∃ m : Nat, z27 = m := ⟨_, hc18⟩
  obtain ⟨z28, rfl⟩ : ∃ m, z28 = its m := ⟨_, hc19⟩
  obtain ⟨z29, rfl⟩ : ∃ m, z29 = cvs m := ⟨_, hc20⟩
  obtain ⟨z30, rfl⟩ : ∃ m : Nat, z30 = m := ⟨_, hc21⟩
  simp only [Int.toNat_natCast, dchs_chs, dcts_cts, dcvs_cvs, devs_evs, dits_its, divs_ivs, dkys_kys, dpys_pys, drks_rks, dtms_tms, dwts_wts]
  simp only [Int.toNat_natCast, dchs_chs, dcts_cts, dcvs_cvs, devs_evs, dits_its, divs_ivs, dkys_kys, dpys_pys, drks_rks, dtms_tms, dwts_wts, guse_p] at hp
  exact guse_ok ⟨⟨z3, z4, z5, z6, ⟨z8, z9⟩, z10, z11⟩, ⟨z13⟩, z14, z15, z16⟩ ⟨z18, z19, z20, ⟨z22, z23, z24⟩, z25, z26, z27, z28, z29⟩ z30 hp
def mayG (b : Bk) (r : Rq) (who : Nat) : Bool × Int :=
  if (useG b r who).2 ≠ 0 then (false, (useG b r who).2) else if (rkey b.r r.t.root).2 ≠ 0 then (false, 0) else
  if (verA b.a.l (rkey b.r r.t.root).1 r.t).2 ≠ 0 ∨ (verA b.a.l (rkey b.r r.t.root).1 r.t).1 = false then (false, (verA b.a.l (rkey b.r r.t.root).1 r.t).2) else
  if (allS r.t.l (useG b r who).1).2 ≠ 0 ∨ (allS r.t.l (useG b r who).1).1 = false then (false, (allS r.t.l (useG b r who).1).2) else
  if (mayS b.s r.t.root r.t.l (useG b r who).1.amount).2 ≠ 0 ∨ (mayS b.s r.t.root r.t.l (useG b r who).1.amount).1 = false then (false, (mayS b.s r.t.root r.t.l (useG b r who).1.amount).2) else (true, 0)
@[go_sem] def gmay_r (b : Bk) (r : Rq) (who : Nat) : D := .tup [.bool (mayG b r who).1, .int .i64 (mayG b r who).2]
@[go_sem] abbrev n_gmay : FuncId := 14
@[go_sem] def gmay_T : Tab := [(17, sp_guse), (42, sp_rokey), (44, sp_tverify), (46, sp_cvall), (48, sp_spMay)]
theorem gmay_T_ok : TabOk Tryz.prog gmay_T := (TabOk.cons sp_guse_ok (TabOk.cons sp_rokey_ok (TabOk.cons sp_tverify_ok (TabOk.cons sp_cvall_ok (TabOk.cons sp_spMay_ok TabOk.nil)))))
set_option maxRecDepth 8000 in
set_option maxHeartbeats 1000000 in
theorem gmay_ok (b : Bk) (r : Rq) (who : Nat) (h : b.w.f.next ≤ 18446744073709551615) : PureFn Tryz.prog 14 [.agg [.sl (chs b.w.c), .sl (wts b.w.w), .sl (ivs b.w.i), .sl (pys b.w.p), .c (.int .u64 (b.w.f.next : Int)), .sl (evs b.w.f.l), .c (.int .u64 (b.w.next : Int)), .c (.int .u64 (b.w.tick : Int)), .sl (tms b.a.l), .sl (rks b.r), .sl (kys b.k), .sl (cts b.s)], .agg [.c (.int .u64 (r.id : Int)), .c (.int .i64 r.method), .c (.int .u64 (r.key : Int)), .c (.int .u64 (r.t.root : Int)), .sl (cvs r.t.l), .c (.int .i64 r.t.tag), .c (.int .u64 (r.a : Int)), .c (.int .u64 (r.n : Int)), .c (.int .u64 (r.till : Int)), .sl (its r.items), .sl (cvs r.l)], .c (.int .u64 (who : Int))] (gmay_r b r who) := by
  refine .of (ac14 gmay_T_ok (Nat.le_of_ble_eq_true rfl) ?_)
  simp -implicitDefEqProofs only [cdA, go_sem, Go.Proofs.Tryz.f14, reduceIte, reduceCtorEq, Nat.reduceEqDiff, Nat.reduceAdd, Nat.reduceLeDiff, Nat.reduceSub, Nat.reduceMul, Nat.reduceLT, Nat.reduceShiftRight, Nat.reduceMod, Int.reduceLE, Int.reduceLT, Int.reduceToNat, List.cons.injEq, cdB]
  refine ⟨h, fun hu => ⟨fun hk => ?_, fun hk => ?_⟩, fun hu => ?_⟩
  rotate_left 1
  · rw [mayG, if_neg (fun h => h hu), if_pos hk]; exact ⟨rfl, rfl⟩
  · rw [mayG, if_pos hu]; exact ⟨rfl, rfl⟩
  refine SWp.loop (ι := { i : Nat // i ≤ 3 ∧ (0 < i → ¬ ((verA b.a.l (rkey b.r r.t.root).1 r.t).2 ≠ 0 ∨ (verA b.a.l (rkey b.r r.t.root).1 r.t).1 = false)) ∧ (1 < i → ¬ ((allS r.t.l (useG b r who).1).2 ≠ 0 ∨ (allS r.t.l (useG b r who).1).1 = false)) ∧ (2 < i → ¬ ((mayS b.s r.t.root r.t.l (useG b r who).1.amount).2 ≠ 0 ∨ (mayS b.s r.t.root r.t.l (useG b r who).1.amount).1 = false)) }) (fun i => ⟨[(42, .agg [.fn (.func 43) [] [.ref 0 0, .ref 3 0, .ref 1 0], .fn (.func 45) [] [.ref 1 0, .ref 2 0], .fn (.func 47) [] [.ref 0 0, .ref 1 0, .ref 2 0]]), (43, .int .i64 i.1)], [(3, .box [.int .u64 (rkey b.r r.t.root).1]), (2, .box [.int .u64 (useG b r who).1.tick, .int .i64 (useG b r who).1.method, .int .u64 (useG b r who).1.amount, .int .u64 (useG b r who).1.who]), (1, .box [.c (.int .u64 r.id), .c (.int .i64 r.method), .c (.int .u64 r.key), .c (.int .u64 r.t.root), .sl (cvs r.t.l), .c (.int .i64 r.t.tag), .c (.int .u64 r.a), .c (.int .u64 r.n), .c (.int .u64 r.till), .sl (its r.items), .sl (cvs r.l)]), (0, .box [.sl (chs b.w.c), .sl (wts b.w.w), .sl (ivs b.w.i), .sl (pys b.w.p), .c (.int .u64 b.w.f.next), .sl (evs b.w.f.l), .c (.int .u64 b.w.next), .c (.int .u64 b.w.tick), .sl (tms b.a.l), .sl (rks b.r), .sl (kys b.k), .sl (cts b.s)])], 4⟩) (fun i => 3 - i.1) ⟨0, by simp⟩ ?_ ?_
  · simp [go_sem]
  · rintro ⟨i, hi, h1, h2, h3⟩
    match i, hi, h1, h2, h3 with
    | 3, _, h1, h2, h3 =>
      refine awp_sound gmay_T_ok.toS lv14 _ _ _ rfl ?_
      simp -implicitDefEqProofs only [cdA, go_sem, reduceIte, reduceCtorEq, Nat.reduceEqDiff, Nat.reduceAdd, Nat.reduceLeDiff, Nat.reduceSub, Nat.reduceMul, Nat.reduceLT, Nat.reduceShiftRight, Nat.reduceMod, Int.reduceLE, Int.reduceLT, Int.reduceToNat, List.cons.injEq, cdB]
      refine ⟨fun h => h.elim, ?_⟩
      rw [mayG, if_neg (fun h => h hu), if_neg (fun h => h hk), if_neg (h1 (by decide)), if_neg (h2 (by decide)), if_neg (h3 (by decide))]; exact ⟨rfl, rfl⟩
    | 2, _, h1, h2, h3 =>
      refine awp_sound gmay_T_ok.toS lv14 _ _ _ rfl ?_
      simp -implicitDefEqProofs only [cdA, go_sem, reduceIte, reduceCtorEq, Nat.reduceEqDiff, Nat.reduceAdd, Nat.reduceLeDiff, Nat.reduceSub, Nat.reduceMul, Nat.reduceLT, Nat.reduceShiftRight, Nat.reduceMod, Int.reduceLE, Int.reduceLT, Int.reduceToNat, List.cons.injEq, cdB]
      refine ac47 gmay_T_ok (Nat.le_of_ble_eq_true rfl) ?_
      simp -implicitDefEqProofs only [cdA, go_sem, Go.Proofs.Tryz.f47, reduceIte, reduceCtorEq, Nat.reduceEqDiff, Nat.reduceAdd, Nat.reduceLeDiff, Nat.reduceSub, Nat.reduceMul, Nat.reduceLT, Nat.reduceShiftRight, Nat.reduceMod, Int.reduceLE, Int.reduceLT, Int.reduceToNat, List.cons.injEq, cdB]
      refine ⟨fun h6 => ⟨fun h7 => ⟨⟨3, by decide, fun _ => h1 (by decide), fun _ => h2 (by decide), fun _ h => h.elim (fun h => h h6) fun h => (Bool.noConfusion (h7.symm.trans h))⟩, by dsimp only; omega, by kernel_rfl⟩, fun h7 => ?_⟩, fun h6 => ?_⟩
      · rw [mayG, if_neg (fun h => h hu), if_neg (fun h => h hk), if_neg (h1 (by decide)), if_neg (h2 (by decide)), if_pos (.inr h7)]; exact ⟨rfl, rfl⟩
      · rw [mayG, if_neg (fun h => h hu), if_neg (fun h => h hk), if_neg (h1 (by decide)), if_neg (h2 (by decide)), if_pos (.inl h6)]; exact ⟨rfl, rfl⟩
    | 1, _, h1, h2, h3 =>
      refine awp_sound gmay_T_ok.toS lv14 _ _ _ rfl ?_
      simp -implicitDefEqProofs only [cdA, go_sem, reduceIte, reduceCtorEq, Nat.reduceEqDiff, Nat.reduceAdd, Nat.reduceLeDiff, Nat.reduceSub, Nat.reduceMul, Nat.reduceLT, Nat.reduceShiftRight, Nat.reduceMod, Int.reduceLE, Int.reduceLT, Int.reduceToNat, List.cons.injEq, cdB]
      refine ac45 gmay_T_ok (Nat.le_of_ble_eq_true rfl) ?_
      simp -implicitDefEqProofs only [cdA, go_sem, Go.Proofs.Tryz.f45, reduceIte, reduceCtorEq, Nat.reduceEqDiff, Nat.reduceAdd, Nat.reduceLeDiff, Nat.reduceSub, Nat.reduceMul, Nat.reduceLT, Nat.reduceShiftRight, Nat.reduceMod, Int.reduceLE, Int.reduceLT, Int.reduceToNat, List.cons.injEq, cdB]
      refine ⟨fun h6 => ⟨fun h7 => ⟨⟨2, by decide, fun _ => h1 (by decide), fun _ h => h.elim (fun h => h h6) fun h => (Bool.noConfusion (h7.symm.trans h)), fun h => absurd h (by decide)⟩, by dsimp only; omega, by kernel_rfl⟩, fun h7 => ?_⟩, fun h6 => ?_⟩
      · rw [mayG, if_neg (fun h => h hu), if_neg (fun h => h hk), if_neg (h1 (by decide)), if_pos (.inr h7)]; exact ⟨rfl, rfl⟩
      · rw [mayG, if_neg (fun h => h hu), if_neg (fun h => h hk), if_neg (h1 (by decide)), if_pos (.inl h6)]; exact ⟨rfl, rfl⟩
    | 0, _, h1, h2, h3 =>
      refine awp_sound gmay_T_ok.toS lv14 _ _ _ rfl ?_
      simp -implicitDefEqProofs only [cdA, go_sem, reduceIte, reduceCtorEq, Nat.reduceEqDiff, Nat.reduceAdd, Nat.reduceLeDiff, Nat.reduceSub, Nat.reduceMul, Nat.reduceLT, Nat.reduceShiftRight, Nat.reduceMod, Int.reduceLE, Int.reduceLT, Int.reduceToNat, List.cons.injEq, cdB]
      refine ac43 gmay_T_ok (Nat.le_of_ble_eq_true rfl) ?_
      simp -implicitDefEqProofs only [cdA, go_sem, Go.Proofs.Tryz.f43, reduceIte, reduceCtorEq, Nat.reduceEqDiff, Nat.reduceAdd, Nat.reduceLeDiff, Nat.reduceSub, Nat.reduceMul, Nat.reduceLT, Nat.reduceShiftRight, Nat.reduceMod, Int.reduceLE, Int.reduceLT, Int.reduceToNat, List.cons.injEq, cdB]
      refine ⟨fun h6 => ⟨fun h7 => ⟨⟨1, by decide, fun _ h => h.elim (fun h => h h6) fun h => (Bool.noConfusion (h7.symm.trans h)), fun h => absurd h (by decide), fun h => absurd h (by decide)⟩, by dsimp only; omega, by kernel_rfl⟩, fun h7 => ?_⟩, fun h6 => ?_⟩
      · rw [mayG, if_neg (fun h => h hu), if_neg (fun h => h hk), if_pos (.inr h7)]; exact ⟨rfl, rfl⟩
      · rw [mayG, if_neg (fun h => h hu), if_neg (fun h => h hk), if_pos (.inl h6)]; exact ⟨rfl, rfl⟩
@[go_sem] def gmay_p (b : Bk) (r : Rq) (who : Nat) : Prop := (b.w.f.next ≤ 18446744073709551615)
def sp_gmay : List D → Option (Prop × D × Fr)
  | [.agg [.c (.sl z33), .c (.sl z34), .c (.sl z35), .c (.sl z36), .c (.int .u64 z38), .c (.sl z39), .c (.int .u64 z40), .c (.int .u64 z41), .c (.sl z43), .c (.sl z44), .c (.sl z45), .c (.sl z46)], .agg [.c (.int .u64 z48), .c (.int .i64 z49), .c (.int .u64 z50), .c (.int .u64 z52), .c (.sl z53), .c (.int .i64 z54), .c (.int .u64 z55), .c (.int .u64 z56), .c (.int .u64 z57), .c (.sl z58), .c (.sl z59)], .c (.int .u64 z60)] => some (z33 = chs (dchs z33) ∧ z34 = wts (dwts z34) ∧ z35 = ivs (divs z35) ∧ z36 = pys (dpys z36) ∧ z38 = (z38.toNat : Int) ∧ z39 = evs (devs z39) ∧ z40 = (z40.toNat : Int) ∧ z41 = (z41.toNat : Int) ∧ z43 = tms (dtms z43) ∧ z44 = rks (drks z44) ∧ z45 = kys (dkys z45) ∧ z46 = cts (dcts z46) ∧ z48 = (z48.toNat : Int) ∧ z50 = (z50.toNat : Int) ∧ z52 = (z52.toNat : Int) ∧ z53 = cvs (dcvs z53) ∧ z55 = (z55.toNat : Int) ∧ z56 = (z56.toNat : Int) ∧ z57 = (z57.toNat : Int) ∧ z58 = its (dits z58) ∧ z59 = cvs (dcvs z59) ∧ z60 = (z60.toNat : Int) ∧ gmay_p (⟨(⟨(dchs z33), (dwts z34), (divs z35), (dpys z36), (⟨z38.toNat, (devs z39)⟩ : Fd), z40.toNat, z41.toNat⟩ : Wl), (⟨(dtms z43)⟩ : Ar), (drks z44), (dkys z45), (dcts z46)⟩ : Bk) (⟨z48.toNat, z49, z50.toNat, (⟨z52.toNat, (dcvs z53), z54⟩ : Tk), z55.toNat, z56.toNat, z57.toNat, (dits z58), (dcvs z59)⟩ : Rq) z60.toNat, gmay_r (⟨(⟨(dchs z33), (dwts z34), (divs z35), (dpys z36), (⟨z38.toNat, (devs z39)⟩ : Fd), z40.toNat, z41.toNat⟩ : Wl), (⟨(dtms z43)⟩ : Ar), (drks z44), (dkys z45), (dcts z46)⟩ : Bk) (⟨z48.toNat, z49, z50.toNat, (⟨z52.toNat, (dcvs z53), z54⟩ : Tk), z55.toNat, z56.toNat, z57.toNat, (dits z58), (dcvs z59)⟩ : Rq) z60.toNat, [])
  | _ => none
attribute [go_sem] sp_gmay
theorem sp_gmay_ok : ∀ rs p r fr, sp_gmay rs = some (p, r, fr) → p → FnOk Tryz.prog 14 rs r fr := by
  intro rs p r fr h hp
  unfold sp_gmay at h
  split at h <;> cases h
  obtain ⟨hc0, hc1, hc2, hc3, hc4, hc5, hc6, hc7, hc8, hc9, hc10, hc11, hc12, hc13, hc14, hc15, hc16, hc17, hc18, hc19, hc20, hc21, hp⟩ := hp
  rename_i z33 z34 z35 z36 z38 z39 z40 z41 z43 z44 z45 z46 z48 z49 z50 z52 z53 z54 z55 z56 z57 z58 z59 z60
  obtain ⟨z33, rfl⟩ : ∃ m, z33 = chs m := ⟨_, hc0⟩
  obtain ⟨z34, rfl⟩ : ∃ m, z34 = wts m := ⟨_, hc1⟩
  obtain ⟨z35, rfl⟩ : ∃ m, z35 = ivs m := ⟨_, hc2⟩
  obtain ⟨z36, rfl⟩ : ∃ m, z36 = pys m := ⟨_, hc3⟩
  obtain ⟨z38, rfl⟩ : ∃ m : Nat, z38 = m := ⟨_, hc4⟩
  obtain ⟨z39, rfl⟩ : ∃ m, z39 = evs m := ⟨_, hc5⟩
  obtain ⟨z40, rfl⟩ : ∃ m : Nat, z40 = m := ⟨_, hc6⟩
  obtain ⟨z41, rfl⟩ : ∃ m : Nat, z41 = m := ⟨_, hc7⟩
  obtain ⟨z43, rfl⟩ : ∃ m, z43 = tms m := ⟨_, hc8⟩
  obtain ⟨z44, rfl⟩ : ∃ m, z44 = rks m := ⟨_, hc9⟩
  obtain ⟨z45, rfl⟩ : ∃ m, z45 = kys m := ⟨_, hc10⟩
  obtain ⟨z46, rfl⟩ : ∃ m, z46 = cts m := ⟨_, hc11⟩
  obtain ⟨z48, rfl⟩ : ∃ m : Nat, z48 = m := ⟨_, hc12⟩
  obtain ⟨z50, rfl⟩ : ∃ m : Nat, z50 = m := ⟨_, hc13⟩
  obtain ⟨z52, rfl⟩ : ∃ m : Nat, z52 = m := ⟨_, hc14⟩
  obtain ⟨z53, rfl⟩ : ∃ m, z53 = cvs m := ⟨_, hc15⟩
  obtain ⟨z55, rfl⟩ : ∃ m : Nat, z55 = m := ⟨_, hc16⟩
  obtain ⟨z56, rfl⟩ : ∃ m : Nat, z56 = m := ⟨_, hc17⟩
  obtain ⟨z57, rfl⟩ : ∃ m : Nat, z57 = m := ⟨_, hc18⟩
  obtain ⟨z58, rfl⟩ : ∃ m, z58 = its m := ⟨_, hc19⟩
  obtain ⟨z59, rfl⟩ : ∃ m, z59 = cvs m := ⟨_, hc20⟩
  obtain ⟨z60, rfl⟩ : ∃ m : Nat, z60 = m := ⟨_, hc21⟩
  simp only [Int.toNat_natCast, dchs_chs, dcts_cts, dcvs_cvs, devs_evs, dits_its, divs_ivs, dkys_kys, dpys_pys, drks_rks, dtms_tms, dwts_wts]
  simp only [Int.toNat_natCast, dchs_chs, dcts_cts, dcvs_cvs, devs_evs, dits_its, divs_ivs, dkys_kys, dpys_pys, drks_rks, dtms_tms, dwts_wts, gmay_p] at hp
  exact gmay_ok ⟨⟨z33, z34, z35, z36, ⟨z38, z39⟩, z40, z41⟩, ⟨z43⟩, z44, z45, z46⟩ ⟨z48, z49, z50, ⟨z52, z53, z54⟩, z55, z56, z57, z58, z59⟩ z60 hp
end Dm
namespace Dm
open Go Go.Proofs Go.IntWalk
theorem bkO_get : ∀ {l : List Tm} {o : Nat} {k : NK} {v : Int}, (l.map nmT).Nodup → (alk k (bkO o l) = some v ↔ ∃ i, i < l.length ∧ nmT (l.getD i default) = k ∧ v = ((o + i : Nat) : Int))
  | [], o, k, v, _ => by simp [bkO, alk]
  | x :: l, o, k, v, h => by
    rw [List.map_cons, List.nodup_cons] at h
    rw [bkO, alk]
    by_cases hx : nmT x = k
    · rw [if_pos hx]
      constructor
      · intro e; cases e; exact ⟨0, by simp, hx, rfl⟩
      · rintro ⟨i, hi, hk, rfl⟩
        cases i with
        | zero => rfl
        | succ j =>
          refine absurd (List.mem_map.2 ⟨l.getD j default, mem_getD.2 ⟨j, by simpa using hi, rfl⟩, ?_⟩) h.1
          rw [List.getD_cons_succ] at hk
          rw [hk, hx]
    · rw [if_neg hx, bkO_get h.2]
      constructor
      · rintro ⟨i, hi, hk, rfl⟩; exact ⟨i + 1, by simpa using hi, by rw [List.getD_cons_succ]; exact hk, by omega⟩
      · rintro ⟨i, hi, hk, rfl⟩
        cases i with
        | zero => exact absurd hk hx
        | succ j => exact ⟨j, by simpa using hi, by rw [List.getD_cons_succ] at hk; exact hk, by omega⟩
theorem al_get {l : List Tm} {k : NK} {v : Int} (h : okAr l) : alk k (bkA l) = some v ↔ ∃ i, i < l.length ∧ nmT (l.getD i default) = k ∧ v = (i : Int) := by
  have : alk k (bkA l) = some v ↔ _ := bkO_get (l := l) (o := 0) (k := k) (v := v) h.2.1
  simpa only [Nat.zero_add] using this
theorem al_lt {l : List Tm} {k : NK} {v : Int} (h : okAr l) (hv : alk k (bkA l) = some v) : 0 ≤ v ∧ v < l.length := by
  obtain ⟨i, hi, _, rfl⟩ := (al_get h).1 hv; omega
theorem al_inj {l : List Tm} {k k' : NK} {v : Int} (h : okAr l) (h1 : alk k (bkA l) = some v) (h2 : alk k' (bkA l) = some v) : k = k' := by
  obtain ⟨i, hi, g1, rfl⟩ := (al_get h).1 h1
  obtain ⟨j, hj, g2, e⟩ := (al_get h).1 h2
  have : i = j := by omega
  subst this
  rw [← g1, ← g2]
theorem alk_app : ∀ {m : List (NK × Int)} {k k' : NK} {v : Int}, alk k (m ++ [(k', v)]) = match alk k m with | some b => some b | none => if k' = k then some v else none
  | [], k, k', v => rfl
  | (a, b) :: m, k, k', v => by
    rw [List.cons_append, alk, alk]
    by_cases h : a = k
    · rw [if_pos h, if_pos h]
    · rw [if_neg h, if_neg h, alk_app]
theorem al_app {l : List Tm} {t : Tm} {k : NK} : alk k (bkA (l ++ [t])) = match alk k (bkA l) with | some b => some b | none => if nmT t = k then some (l.length : Int) else none := by
  rw [bkA, bkA, bkO_app, alk_app, Nat.zero_add]
theorem al_old {l : List Tm} {t : Tm} {k : NK} {v : Int} (h : alk k (bkA l) = some v) : alk k (bkA (l ++ [t])) = some v := by rw [al_app, h]
def wayA (l : List Tm) (key : Nat) (text : List UInt8) (ts : List (List UInt8)) : Option Int := goA (bkA l) (alk (key, -1, text) (bkA l)) ts
theorem go_old {l : List Tm} {t : Tm} : ∀ {ts : List (List UInt8)} {o : Option Int} {v : Int}, goA (bkA l) o ts = some v → goA (bkA (l ++ [t])) o ts = some v
  | ts, none, v, h => by rw [goA_none] at h; cases h
  | [], some a, v, h => h
  | x :: ts, some a, v, h => by
    rw [goA] at h ⊢
    cases e : alk (0, a, x) (bkA l) with
    | none => rw [e, goA_none] at h; cases h
    | some b => rw [e] at h; rw [al_old e]; exact go_old h
theorem way_old {l : List Tm} {t : Tm} {key : Nat} {text : List UInt8} {ts : List (List UInt8)} {v : Int} (h : wayA l key text ts = some v) : wayA (l ++ [t]) key text ts = some v := by
  unfold wayA at *
  cases e : alk (key, -1, text) (bkA l) with
  | none => rw [e, goA_none] at h; cases h
  | some b => rw [al_old e]; rw [e] at h; exact go_old h
theorem go_root {l : List Tm} {t : Tm} (ht : t.up = -1) (hl : okAr l) : ∀ {ts : List (List UInt8)} {o : Option Int}, (∀ a, o = some a → 0 ≤ a) → goA (bkA (l ++ [t])) o ts = goA (bkA l) o ts
  | ts, none, _ => by rw [goA_none, goA_none]
  | [], some a, _ => rfl
  | x :: ts, some a, h => by
    have ha := h a rfl
    have e : alk (0, a, x) (bkA (l ++ [t])) = alk (0, a, x) (bkA l) := by
      rw [al_app]
      cases alk (0, a, x) (bkA l) with
      | some b => rfl
      | none =>
        refine if_neg fun h => ?_
        have : t.up = a := congrArg (fun k : NK => k.2.1) h
        omega
    rw [goA, goA, e]
    exact go_root ht hl fun b hb => (al_lt hl hb).1
theorem way_root {l : List Tm} {t : Tm} (ht : t.up = -1) (hl : okAr l) {key : Nat} (hk : key ≠ t.key) {text : List UInt8} {ts : List (List UInt8)} : wayA (l ++ [t]) key text ts = wayA l key text ts := by
  have e : alk (key, -1, text) (bkA (l ++ [t])) = alk (key, -1, text) (bkA l) := by
    rw [al_app]
    cases alk (key, -1, text) (bkA l) with
    | some b => rfl
    | none => exact if_neg fun h => hk (congrArg (fun k : NK => k.1) h).symm
  rw [wayA, wayA, e]
  exact go_root ht hl fun b hb => (al_lt hl hb).1
theorem go_inj {l : List Tm} (hl : okAr l) : ∀ {ts : List (List UInt8)} {a b v : Int}, goA (bkA l) (some a) ts = some v → goA (bkA l) (some b) ts = some v → a = b
  | [], a, b, v, h1, h2 => by cases h1; cases h2; rfl
  | x :: ts, a, b, v, h1, h2 => by
    rw [goA] at h1 h2
    cases e1 : alk (0, a, x) (bkA l) with
    | none => rw [e1, goA_none] at h1; cases h1
    | some c =>
      cases e2 : alk (0, b, x) (bkA l) with
      | none => rw [e2, goA_none] at h2; cases h2
      | some d =>
        rw [e1] at h1; rw [e2] at h2
        have := go_inj hl h1 h2
        subst this
        exact congrArg (fun k : NK => k.2.1) (al_inj hl e1 e2)
theorem way_inj {l : List Tm} (hl : okAr l) {key key' : Nat} {text text' : List UInt8} {ts : List (List UInt8)} {v : Int} (h1 : wayA l key text ts = some v) (h2 : wayA l key' text' ts = some v) : key = key' ∧ text = text' := by
  unfold wayA at *
  cases e1 : alk (key, -1, text) (bkA l) with
  | none => rw [e1, goA_none] at h1; cases h1
  | some c =>
    cases e2 : alk (key', -1, text') (bkA l) with
    | none => rw [e2, goA_none] at h2; cases h2
    | some d =>
      rw [e1] at h1; rw [e2] at h2
      have := go_inj hl h1 h2
      subst this
      have := al_inj hl e1 e2
      exact ⟨congrArg (fun k : NK => k.1) this, congrArg (fun k : NK => k.2.2) this⟩
theorem put_all {l : List Tm} {t : Tm} (h : (putA l t).2.2 = 0) : okAr l ∧ t.up < l.length ∧ t.text.length ≤ 4096 ∧
    (((putA l t).1 = l ∧ alk (nmT t) (bkA l) = some (putA l t).2.1) ∨ ((putA l t).1 = l ++ [t] ∧ alk (nmT t) (bkA l) = none ∧ (putA l t).2.1 = (l.length : Int) ∧ l.length < 1048576)) := by
  unfold putA at *
  split at h
  · cases h
  rename_i h1
  rw [if_neg h1]
  have hok : okAr l := Classical.not_not.1 fun h => h1 (.inl h)
  have hup : t.up < l.length := by have : ¬ (l.length : Int) ≤ t.up := fun h => h1 (.inr h); omega
  split at h
  · cases h
  rename_i h2
  rw [if_neg h2]
  refine ⟨hok, hup, by omega, ?_⟩
  split at h
  · rename_i v hv; exact .inl ⟨rfl, by rw [hv]⟩
  · rename_i hv
    split at h
    · cases h
    rename_i h4
    have := hok.1
    rw [if_neg h4]
    exact .inr ⟨rfl, hv, rfl, by omega⟩
theorem put_ok {l : List Tm} {t : Tm} (h : (putA l t).2.2 = 0) (ht : -1 ≤ t.up ∧ (-1 < t.up → t.key = 0)) : okAr (putA l t).1 := by
  obtain ⟨hok, hup, htx, ⟨e, _⟩ | ⟨e, hn, _, hl⟩⟩ := put_all h
  · rw [e]; exact hok
  · rw [e]
    refine ⟨by rw [List.length_append, List.length_singleton]; omega, ?_, fun i hi => ?_⟩
    · rw [List.map_append, List.nodup_append]
      refine ⟨hok.2.1, by simp, fun x hx y hy => ?_⟩
      simp at hy
      subst hy
      rintro rfl
      exact bkO_no.1 hn hx
    · rw [List.mem_range, List.length_append, List.length_singleton] at hi
      by_cases hil : i < l.length
      · rw [show (l ++ [t]).getD i default = l.getD i default by simp [List.getD_eq_getElem?_getD, List.getElem?_append_left hil]]
        exact hok.2.2 i (List.mem_range.2 hil)
      · have : i = l.length := by omega
        subst this
        rw [show (l ++ [t]).getD l.length default = t by simp]
        exact ⟨ht.1, hup, ht.2, htx⟩
theorem put_at {l : List Tm} {t : Tm} (h : (putA l t).2.2 = 0) : alk (nmT t) (bkA (putA l t).1) = some (putA l t).2.1 := by
  obtain ⟨hok, hup, htx, ⟨e, h1⟩ | ⟨e, hn, h1, hl⟩⟩ := put_all h
  · rw [e]; exact h1
  · rw [e, h1, al_app, hn]; exact if_pos rfl
end Dm
namespace Dm
open Go Go.Proofs Go.IntWalk
theorem putB_le (l : List Nat) : (putB l).length ≤ l.length * 9 := by
  have := putB_len (l := l) (i := l.length)
  rwa [List.take_length] at this
theorem cavB_le (c : Cv) : (cavB c).length ≤ 27 := by
  unfold cavB
  split
  · split
    · have := putB_le [c.kind.toNat, c.a, c.b]; simpa using this
    · have := putB_le [c.kind.toNat, c.a]; simp at this; omega
  · simp
theorem find_way {l : List Tm} {key root : Nat} {cs : List Cv} (h : okAr l) : findA l key (putB [root]) (cs.map cavB) = match wayA l key (putB [root]) (cs.map cavB) with | some i => (i, 0) | none => (0, 5) := by
  rw [findA, if_neg (fun h' => h' h), if_neg]
  · rfl
  · rintro (h | ⟨x, hx, h⟩)
    · have := putB_le [root]; simp at this; omega
    · obtain ⟨c, _, rfl⟩ := List.mem_map.1 hx
      have := cavB_le c; omega
theorem ver_way {l : List Tm} {key : Nat} {t : Tk} (h : okAr l) (ht : okTk t) : verA l key t = (decide (wayA l key (putB [t.root]) (t.l.map cavB) = some t.tag), 0) := by
  rw [verA, if_neg (by rintro (h' | h'); exact h' ht; exact h' h), find_way h]
  congr 1
  rw [decide_eq_decide]
  cases wayA l key (putB [t.root]) (t.l.map cavB) with
  | none => exact ⟨fun h => absurd h.1 (by decide), fun h => by cases h⟩
  | some i => exact ⟨fun h => congrArg some h.2, fun h => ⟨rfl, by cases h; rfl⟩⟩
theorem chkB_0 {b : Bk} : chkB b = 0 ↔ chkW b.w = 0 ∧ okAr b.a.l ∧ okRk b.r ∧ chkK b.k = 0 ∧ chkSp b.s = 0 := by
  have ha : chkAr b.a.l = 0 ↔ okAr b.a.l := by unfold chkAr readA; split <;> rename_i h <;> simp only [h] <;> decide
  have hr : chkR b.r = 0 ↔ okRk b.r := by unfold chkR; split <;> rename_i h <;> simp only [h] <;> decide
  unfold chkB
  split
  · rename_i h; exact ⟨fun h' => absurd h' h, fun h' => h'.1⟩
  rename_i h1
  split
  · rename_i h; exact ⟨fun h' => absurd h' h, fun h' => ha.2 h'.2.1⟩
  rename_i h2
  split
  · rename_i h; exact ⟨fun h' => absurd h' h, fun h' => hr.2 h'.2.2.1⟩
  rename_i h3
  split
  · rename_i h; exact ⟨fun h' => absurd h' h, fun h' => h'.2.2.2.1⟩
  rename_i h4
  have d : ∀ {x : Int}, ¬ x ≠ 0 → x = 0 := fun h => Classical.not_not.1 h
  exact ⟨fun h => ⟨d h1, ha.1 (d h2), hr.1 (d h3), d h4, h⟩, fun h => h.2.2.2.2⟩
theorem rq_0 {r : Rq} : rqS r = 0 ↔ okRq r := by unfold rqS; split <;> rename_i h <;> simp only [h] <;> decide
theorem amt_0 {r : Rq} (h : rqS r = 0) : (amtS r).2 = 0 ∧ (amtS r).1 ≤ 4611686018427387904 := by
  have ho := rq_0.1 h
  rw [amtS, if_pos h]
  obtain ⟨_, hr, _⟩ := ho
  rw [rqRows] at hr
  simp only [List.all_cons, Bool.and_eq_true] at hr
  obtain ⟨_, _, h4, _, h16, _⟩ := hr
  split
  · rename_i h1
    rw [h1] at h4
    refine ⟨rfl, ?_⟩
    rw [rowOk, if_neg (show ¬ iand .i64 (whatM 1) 4 = 0 by decide)] at h4
    have := of_decide_eq_true h4
    exact (this.elim (fun h => absurd h (show ¬ iand .i64 (whatM 1) 64 = 0 by decide)) id).2
  split
  · rename_i h1
    rw [h1] at h16
    rw [rowOk, if_neg (show ¬ iand .i64 (whatM 2) 16 = 0 by decide)] at h16
    have h2 := of_decide_eq_true h16
    refine ⟨h2, ?_⟩
    unfold sumB at h2 ⊢
    split at h2
    · rename_i h3
      rw [if_pos h3]
      split at h2
      · rename_i h4; rw [if_pos h4]; exact h4
      · cases h2
    · cases h2
  · exact ⟨rfl, by decide⟩
theorem use_0 {b : Bk} {r : Rq} {who : Nat} : (useG b r who).2 = 0 ↔ okRq r ∧ chkB b = 0 := by
  unfold useG
  split
  · rename_i h
    refine ⟨fun _ => ⟨?_, h.2⟩, fun _ => rfl⟩
    have h1 := h.1
    unfold amtS at h1
    split at h1
    · rename_i h3; exact rq_0.1 h3
    · exact rq_0.1 h1
  · rename_i h
    exact ⟨fun h => absurd h (show ¬ (1 : Int) = 0 by decide), fun h' => absurd ⟨(amt_0 (rq_0.2 h'.1)).1, h'.2⟩ h⟩
theorem use_e {b : Bk} {r : Rq} {who : Nat} (h : okRq r) (hb : chkB b = 0) : useG b r who = (⟨b.w.tick, r.method, (amtS r).1, who⟩, 0) := by
  rw [useG, if_pos ⟨(amt_0 (rq_0.2 h)).1, hb⟩]
theorem use_bad {b : Bk} {r : Rq} {who : Nat} (h : ¬ (okRq r ∧ chkB b = 0)) : useG b r who = (⟨0, 0, 0, 0⟩, 1) := by
  rw [useG, if_neg]
  intro h'
  refine h (use_0 (who := who).1 ?_)
  rw [useG, if_pos h']
theorem may_use {r : Rq} {tick who : Nat} (h : okRq r) : mayU ⟨tick, r.method, (amtS r).1, who⟩ = true :=
  decide_eq_true ⟨by have := h.1.1; show 0 ≤ r.method; omega, by have := h.1.2; show r.method < 16; omega, (amt_0 (rq_0.2 h)).2⟩
def fitS (l : List Ct) (root : Nat) (cav : List Cv) (n : Nat) : Bool := (cav.foldl capF []).all (fun x => decide ((wasSp l root x.1 : Int) + n ≤ 4611686018427387904 ∧ (wasSp l root x.1 : Int) + n ≤ x.2))
theorem may_fit {l : List Ct} {root : Nat} {cav : List Cv} {n : Nat} (h1 : cav.length ≤ 16) (h2 : ∀ c ∈ cav, cavS c = 0) (h3 : chkSp l = 0) (h4 : n ≤ 4611686018427387904) : mayS l root cav n = (fitS l root cav n, 0) := by
  have hc : capS cav = (cav.foldl capF [], 0) := by rw [capS, if_pos ⟨h1, List.all_eq_true.2 fun c hc => decide_eq_true (h2 c hc)⟩]
  have hs : sumsS l root cav n = if fitS l root cav n = true then ((cav.foldl capF []).map fun x => (x.1, (wasSp l root x.1 : Int) + n), 0) else ([], 8) := by
    rw [sumsS, hc, if_pos ⟨rfl, h3, h4⟩]; rfl
  rw [mayS, hs]
  cases fitS l root cav n <;> rfl
theorem all_in {l : List Cv} {u : Us} (h1 : l.length ≤ 16) (h2 : ∀ c ∈ l, cavS c = 0) (h3 : mayU u = true) : allS l u = (l.all fun c => withinC c u, 0) := by
  rw [allS, if_pos ⟨h1, h3, h2⟩]
def freeG (b : Bk) (r : Rq) (who : Nat) : Prop := (rkey b.r r.t.root).2 = 0 ∧ wayA b.a.l (rkey b.r r.t.root).1 (putB [r.t.root]) (r.t.l.map cavB) = some r.t.tag ∧
  (∀ c ∈ r.t.l, withinC c ⟨b.w.tick, r.method, (amtS r).1, who⟩ = true) ∧ fitS b.s r.t.root r.t.l (amtS r).1 = true
theorem may_ok {b : Bk} {r : Rq} {who : Nat} (h : okRq r) (hb : chkB b = 0) : (mayG b r who).2 = 0 ∧ ((mayG b r who).1 = true ↔ freeG b r who) := by
  have hu := use_e (who := who) h hb
  obtain ⟨_, ha, hr, _, hs⟩ := chkB_0.1 hb
  have ht := h.2.2
  have hv := ver_way (l := b.a.l) (key := (rkey b.r r.t.root).1) ha ht
  have hl := all_in (l := r.t.l) (u := ⟨b.w.tick, r.method, (amtS r).1, who⟩) ht.1 ht.2.2.2 (may_use h)
  have hf := may_fit (l := b.s) (root := r.t.root) (cav := r.t.l) (n := (amtS r).1) ht.1 ht.2.2.2 hs (amt_0 (rq_0.2 h)).2
  unfold mayG freeG
  rw [hu]
  dsimp only
  rw [hv, hl, hf]
  dsimp only
  rw [if_neg (fun h => h rfl)]
  by_cases g1 : (rkey b.r r.t.root).2 = 0
  rotate_left 1
  · rw [if_pos g1]; exact ⟨rfl, fun h => absurd h (by decide), fun h => absurd h.1 g1⟩
  rw [if_neg (fun h => h g1)]
  by_cases g2 : wayA b.a.l (rkey b.r r.t.root).1 (putB [r.t.root]) (r.t.l.map cavB) = some r.t.tag
  rotate_left 1
  · rw [if_pos (.inr (decide_eq_false g2))]; exact ⟨rfl, ⟨fun h => absurd (show false = true from h) (by decide), fun h => absurd h.2.1 g2⟩⟩
  rw [if_neg (by rintro (h | h); exact h rfl; rw [decide_eq_true g2] at h; cases h)]
  by_cases g3 : (r.t.l.all fun c => withinC c ⟨b.w.tick, r.method, (amtS r).1, who⟩) = true
  rotate_left 1
  · rw [if_pos (.inr (by simpa using g3))]; exact ⟨rfl, ⟨fun h => absurd (show false = true from h) (by decide), fun h => absurd (List.all_eq_true.2 h.2.2.1) g3⟩⟩
  rw [if_neg (by rintro (h | h); exact h rfl; rw [g3] at h; cases h)]
  by_cases g4 : fitS b.s r.t.root r.t.l (amtS r).1 = true
  rotate_left 1
  · rw [if_pos (.inr (by simpa using g4))]; exact ⟨rfl, ⟨fun h => absurd (show false = true from h) (by decide), fun h => absurd h.2.2.2 g4⟩⟩
  rw [if_neg (by rintro (h | h); exact h rfl; rw [g4] at h; cases h)]
  exact ⟨rfl, ⟨fun _ => ⟨g1, g2, List.all_eq_true.1 g3, g4⟩, fun _ => rfl⟩⟩
theorem may_bad {b : Bk} {r : Rq} {who : Nat} (h : ¬ (okRq r ∧ chkB b = 0)) : mayG b r who = (false, 1) := by
  rw [mayG, use_bad h]; exact if_pos (by decide)
theorem may_2 {b : Bk} {r : Rq} {who : Nat} : (mayG b r who).2 = 0 ↔ okRq r ∧ chkB b = 0 := by
  refine ⟨fun h => Classical.byContradiction fun hn => ?_, fun h => (may_ok h.1 h.2).1⟩
  rw [may_bad hn] at h; cases h
end Dm
namespace Dm
open Go Go.Proofs Go.IntWalk
theorem way_put {a : List Tm} {t : Tm} (h : (putA a t).2.2 = 0) {key : Nat} {text : List UInt8} {ts : List (List UInt8)} {v : Int} (hv : wayA a key text ts = some v) : wayA (putA a t).1 key text ts = some v := by
  obtain ⟨_, _, _, ⟨e, _⟩ | ⟨e, _⟩⟩ := put_all h
  · rw [e]; exact hv
  · rw [e]; exact way_old hv
theorem rq_t {r : Rq} {t : Tk} (h : okRq r) (ht : okTk t) : okRq { r with t := t } := ⟨h.1, h.2.1, ht⟩
theorem chk_put {b : Bk} {t : Tm} (hb : chkB b = 0) (h : (putA b.a.l t).2.2 = 0) (ht : -1 ≤ t.up ∧ (-1 < t.up → t.key = 0)) : chkB { b with a := ⟨(putA b.a.l t).1⟩ } = 0 := by
  obtain ⟨h1, _, h3⟩ := chkB_0.1 hb
  exact chkB_0.2 ⟨h1, put_ok h ht, h3⟩
end Dm
namespace Dm
open Go Go.Proofs Go.IntWalk
def nowI (x : Iv) (tick : Nat) : Int := if x.state = 1 ∧ x.till < tick then 4 else x.state
@[go_sem] def inow_r (x : Iv) (tick : Nat) : D := .int .i64 (nowI x tick)
@[go_sem] abbrev n_inow : FuncId := 187
@[go_sem] def inow_T : Tab := []
theorem inow_T_ok : TabOk Tryz.prog inow_T := TabOk.nil
set_option maxRecDepth 8000 in
set_option maxHeartbeats 1000000 in
theorem inow_ok (x : Iv) (tick : Nat)  : PureFn Tryz.prog 187 [.agg [.c (.int .u64 (x.hash : Int)), .c (.int .u64 (x.n : Int)), .c (.int .u64 (x.till : Int)), .c (.int .i64 x.state)], .c (.int .u64 (tick : Int))] (inow_r x tick) := by
  refine .of (ac187 inow_T_ok (Nat.le_of_ble_eq_true rfl) ?_)
  simp -implicitDefEqProofs only [cdA, go_sem, Go.Proofs.Tryz.f187, reduceIte, reduceCtorEq, Nat.reduceEqDiff, Nat.reduceAdd, Nat.reduceLeDiff, Nat.reduceSub, Nat.reduceMul, Nat.reduceLT, Nat.reduceShiftRight, Nat.reduceMod, Int.reduceLE, Int.reduceLT, Int.reduceToNat, List.cons.injEq, cdB]
  unfold nowI
  refine ⟨fun h1 => ⟨fun h2 => ?_, fun h2 => ?_⟩, fun h1 => ?_⟩
  · rw [if_pos ⟨h1, by omega⟩]
  · rw [if_neg (by rintro ⟨_, h⟩; omega)]
  · rw [if_neg (by rintro ⟨h, _⟩; exact h1 h)]
def sp_inow : List D → Option (Prop × D × Fr)
  | [.agg [.c (.int .u64 z201), .c (.int .u64 z202), .c (.int .u64 z203), .c (.int .i64 z204)], .c (.int .u64 z205)] => some (z201 = (z201.toNat : Int) ∧ z202 = (z202.toNat : Int) ∧ z203 = (z203.toNat : Int) ∧ z205 = (z205.toNat : Int), inow_r (⟨z201.toNat, z202.toNat, z203.toNat, z204⟩ : Iv) z205.toNat, [])
  | _ => none
attribute [go_sem] sp_inow
theorem sp_inow_ok : ∀ rs p r fr, sp_inow rs = some (p, r, fr) → p → FnOk Tryz.prog 187 rs r fr := by
  intro rs p r fr h hp
  unfold sp_inow at h
  split at h <;> cases h
  obtain ⟨hc0, hc1, hc2, hc3⟩ := hp
  rename_i z201 z202 z203 z204 z205
  obtain ⟨z201, rfl⟩ : ∃ m : Nat, z201 = m := ⟨_, hc0⟩
  obtain ⟨z202, rfl⟩ : ∃ m : Nat, z202 = m := ⟨_, hc1⟩
  obtain ⟨z203, rfl⟩ : ∃ m : Nat, z203 = m := ⟨_, hc2⟩
  obtain ⟨z205, rfl⟩ : ∃ m : Nat, z205 = m := ⟨_, hc3⟩
  simp only [Int.toNat_natCast]
  exact inow_ok ⟨z201, z202, z203, z204⟩ z205
@[go_sem] def ivclonef_r (l : List Iv) : D := .vec 0 l.length
@[go_sem] def ivclonef_fr (l : List Iv) : Fr := [(4, 189, true, ivs l)]
@[go_sem] abbrev n_ivclonef : FuncId := 129
@[go_sem] def ivclonef_T : Tab := []
theorem ivclonef_T_ok : TabOk Tryz.prog ivclonef_T := TabOk.nil
set_option maxRecDepth 8000 in
set_option maxHeartbeats 1000000 in
theorem ivclonef_ok (l : List Iv) (hl : l.length ≤ 1000000) : FreshFn Tryz.prog 129 [.sl (ivs l)] (ivclonef_r l) (ivclonef_fr l) := by
  refine .of (ac129 ivclonef_T_ok (Nat.le_of_ble_eq_true rfl) ?_)
  simp -implicitDefEqProofs only [cdA, go_sem, Go.Proofs.Tryz.f129, reduceIte, reduceCtorEq, Nat.reduceEqDiff, Nat.reduceAdd, Nat.reduceLeDiff, Nat.reduceSub, Nat.reduceMul, Nat.reduceLT, Nat.reduceShiftRight, Nat.reduceMod, Int.reduceLE, Int.reduceLT, Int.reduceToNat, List.cons.injEq, cdB]
  refine fun b hb => ⟨fun h => ?_, fun h => ?_⟩
  · exact ⟨[none], by simp [go_sem, hb h], by cases l <;> simp_all [go_sem, ivs]⟩
  · exact ⟨by omega, [some 0], by simp [go_sem]⟩
@[go_sem] def ivclonef_p (l : List Iv) : Prop := (l.length ≤ 1000000)
def sp_ivclonef : List D → Option (Prop × D × Fr)
  | [.c (.sl z206)] => some (z206 = ivs (divs z206) ∧ ivclonef_p (divs z206), ivclonef_r (divs z206), ivclonef_fr (divs z206))
  | _ => none
attribute [go_sem] sp_ivclonef
theorem sp_ivclonef_ok : ∀ rs p r fr, sp_ivclonef rs = some (p, r, fr) → p → FnOk Tryz.prog 129 rs r fr := by
  intro rs p r fr h hp
  unfold sp_ivclonef at h
  split at h <;> cases h
  obtain ⟨hc0, hp⟩ := hp
  rename_i z206
  obtain ⟨z206, rfl⟩ : ∃ m, z206 = ivs m := ⟨_, hc0⟩
  simp only [divs_ivs]
  simp only [divs_ivs, ivclonef_p] at hp
  exact (show FnOk _ _ _ _ _ from And.intro rfl (ivclonef_ok z206 hp))
def overI (tick : Nat) (x : Iv) : Bool := decide (nowI x tick = 4 ∨ x.state = 3)
def sweepI (l : List Iv) (tick : Nat) : List Iv × Int := if okIv l then (l.filter fun x => !overI tick x, 0) else ([], 1)
@[go_sem] def isweep_r (l : List Iv) (tick : Nat) : D := .tup [.sl (ivs (sweepI l tick).1), .int .i64 (sweepI l tick).2]
@[go_sem] abbrev n_isweep : FuncId := 100
@[go_sem] def isweep_T : Tab := [(160, sp_icheck), (187, sp_inow), (129, sp_ivclonef)]
theorem isweep_T_ok : TabOk Tryz.prog isweep_T := (TabOk.cons sp_icheck_ok (TabOk.cons sp_inow_ok (TabOk.cons sp_ivclonef_ok TabOk.nil)))
set_option maxRecDepth 8000 in
set_option maxHeartbeats 1000000 in
theorem isweep_ok (l : List Iv) (tick : Nat)  : PureFn Tryz.prog 100 [.sl (ivs l), .c (.int .u64 (tick : Int))] (isweep_r l tick) := by
  refine .of (ac100 isweep_T_ok (Nat.le_of_ble_eq_true rfl) ?_)
  simp -implicitDefEqProofs only [cdA, go_sem, Go.Proofs.Tryz.f100, reduceIte, reduceCtorEq, Nat.reduceEqDiff, Nat.reduceAdd, Nat.reduceLeDiff, Nat.reduceSub, Nat.reduceMul, Nat.reduceLT, Nat.reduceShiftRight, Nat.reduceMod, Int.reduceLE, Int.reduceLT, Int.reduceToNat, List.cons.injEq, cdB]
  have hcz : chkI l = 0 ↔ okIv l := by unfold chkI; split <;> rename_i h <;> simp only [h] <;> decide
  refine ⟨fun h0 => ?_, fun h0 => by
    have hno : ¬ okIv l := fun h => h0 (hcz.2 h)
    rw [sweepI, chkI, if_neg hno, if_neg hno]; exact ⟨rfl, rfl⟩⟩
  have hok := hcz.1 h0
  have h256 := hok.1
  refine ⟨by omega, ?_⟩
  refine ACall.sld ?_
  refine acall_introM (n := 42) (fn := Tryz.f188) (by kernel_rfl) rfl rfl rfl (Nat.le_of_ble_eq_true rfl) (rs := [.tmp 4]) rfl ?_
  refine SWm.seq (SWm.awp isweep_T_ok.toS lv188 rfl ?_)
  simp -implicitDefEqProofs only [cdA, go_sem, reduceIte, reduceCtorEq, Nat.reduceEqDiff, Nat.reduceAdd, Nat.reduceLeDiff, Nat.reduceSub, Nat.reduceMul, Nat.reduceLT, Nat.reduceShiftRight, Nat.reduceMod, Int.reduceLE, Int.reduceLT, Int.reduceToNat, List.cons.injEq, cdB]
  refine SWm.seq (SWm.awp isweep_T_ok.toS lv188 rfl ?_)
  simp -implicitDefEqProofs only [cdA, go_sem, reduceIte, reduceCtorEq, Nat.reduceEqDiff, Nat.reduceAdd, Nat.reduceLeDiff, Nat.reduceSub, Nat.reduceMul, Nat.reduceLT, Nat.reduceShiftRight, Nat.reduceMod, Int.reduceLE, Int.reduceLT, Int.reduceToNat, List.cons.injEq, cdB]
  refine ac240 isweep_T_ok (Nat.le_of_ble_eq_true rfl) ?_
  simp -implicitDefEqProofs only [cdA, go_sem, Go.Proofs.Tryz.f240, reduceIte, reduceCtorEq, Nat.reduceEqDiff, Nat.reduceAdd, Nat.reduceLeDiff, Nat.reduceSub, Nat.reduceMul, Nat.reduceLT, Nat.reduceShiftRight, Nat.reduceMod, Int.reduceLE, Int.reduceLT, Int.reduceToNat, List.cons.injEq, cdB]
  refine fun _ => SWp.loop (ι := { i : Nat // i ≤ l.length ∧ ∀ j, j < i → overI tick (l.getD j default) = false }) (fun i => ⟨[(0, .vec 1 l.length), (1, .fn (.func 186) [] [.ref 0 0]), (7, .int .i64 l.length), (8, .int .i64 i.1)],
    [(1, .vec true 4 189 (ivs l)), (0, .box [.c (.int .u64 tick)])], 2⟩) (fun i => l.length - i.1) ⟨0, by simp⟩ ?_ ?_
  · simp [go_sem]
  · rintro ⟨i, hi, hall⟩
    refine awp_sound isweep_T_ok.toS lv240 _ _ _ rfl ?_
    simp -implicitDefEqProofs only [cdA, go_sem, reduceIte, reduceCtorEq, Nat.reduceEqDiff, Nat.reduceAdd, Nat.reduceLeDiff, Nat.reduceSub, Nat.reduceMul, Nat.reduceLT, Nat.reduceShiftRight, Nat.reduceMod, Int.reduceLE, Int.reduceLT, Int.reduceToNat, List.cons.injEq, cdB]
    refine ⟨fun h4 => ⟨by omega, by omega, ?_⟩, fun h4 => ?_⟩
    · skip
      refine ac186 isweep_T_ok (Nat.le_of_ble_eq_true rfl) ?_
      simp -implicitDefEqProofs only [cdA, go_sem, Go.Proofs.Tryz.f186, reduceIte, reduceCtorEq, Nat.reduceEqDiff, Nat.reduceAdd, Nat.reduceLeDiff, Nat.reduceSub, Nat.reduceMul, Nat.reduceLT, Nat.reduceShiftRight, Nat.reduceMod, Int.reduceLE, Int.reduceLT, Int.reduceToNat, List.cons.injEq, cdB]
      have hi' : i < l.length := by omega
      have hov : ∀ x : Iv, overI tick x = true ↔ nowI x tick = 4 ∨ x.state = 3 := fun x => decide_eq_true_iff
      have hb0 : overI tick (l.getD i default) = true → l.take i = (l.take (i + 1)).filter (fun y => !overI tick y) := fun hv => by
        rw [take_succ hi', List.filter_append, List.filter_eq_self.2 (fun x hx => ?_), List.filter_cons_of_neg (by rw [hv]; decide), List.filter_nil, List.append_nil]
        obtain ⟨j, hj, rfl⟩ := mem_getD.1 hx
        rw [List.length_take] at hj
        rw [List.getD_eq_getElem?_getD, List.getElem?_take_of_lt (by omega), ← List.getD_eq_getElem?_getD, hall j (by omega)]; rfl
      refine ⟨fun h1 => ⟨fun h2 => ?_, fun h2 => ⟨⟨i + 1, by omega, fun j hj => ?_⟩, by dsimp only; omega, i64_in _ (by omega)⟩⟩, fun h1 => ?_⟩
      rotate_left 1
      · by_cases hji : j = i
        · subst hji
          have : ¬ overI tick (l.getD j default) = true := fun h => by
            rcases (hov _).1 h with h | h
            · exact h1 h
            · exact h2 h
          simpa using this
        · exact hall j (by omega)
      all_goals
        have hb1 := hb0 ((hov _).2 (by first | exact .inl h1 | exact .inr h2))
        refine SWm.seq (SWm.awp isweep_T_ok.toS lv188 rfl ?_)
        simp -implicitDefEqProofs only [cdA, go_sem, reduceIte, reduceCtorEq, Nat.reduceEqDiff, Nat.reduceAdd, Nat.reduceLeDiff, Nat.reduceSub, Nat.reduceMul, Nat.reduceLT, Nat.reduceShiftRight, Nat.reduceMod, Int.reduceLE, Int.reduceLT, Int.reduceToNat, List.cons.injEq, cdB]
        refine ⟨fun h => h.elim, ?_⟩
        refine SWm.seq (SWm.seq (SWm.awp isweep_T_ok.toS lv188 rfl ?_))
        simp -implicitDefEqProofs only [cdA, go_sem, reduceIte, reduceCtorEq, Nat.reduceEqDiff, Nat.reduceAdd, Nat.reduceLeDiff, Nat.reduceSub, Nat.reduceMul, Nat.reduceLT, Nat.reduceShiftRight, Nat.reduceMod, Int.reduceLE, Int.reduceLT, Int.reduceToNat, List.cons.injEq, cdB]
        rw [i64_in _ (by omega)]
        refine SWm.block (SWm.of (SWp.loop (ι := { x : Nat × Nat × List Iv // x.1 < x.2.1 ∧ x.2.1 ≤ l.length ∧ x.2.2.length = l.length ∧ x.2.2.take x.1 = (l.take x.2.1).filter (fun y => !overI tick y) ∧ x.2.2.drop x.2.1 = l.drop x.2.1 })
          (fun x => ⟨[(0, .vec 1 l.length), (1, .fn (.func 186) [] [.ref 0 0]), (5, .int .i64 x.1.1), (6, .int .i64 x.1.2.1)],
            [(2, .box [.c (.int .u64 (l.getD i default).hash), .c (.int .u64 (l.getD i default).n), .c (.int .u64 (l.getD i default).till), .c (.int .i64 (l.getD i default).state)]), (1, .vec true 4 189 (ivs x.1.2.2)), (0, .box [.c (.int .u64 tick)])], 3⟩) (fun x => l.length - x.1.2.1) ⟨(i, i + 1, l), by dsimp only; omega, by dsimp only; omega, rfl, hb1, rfl⟩ ?_ ?_))
      all_goals first | (simp [go_sem]; done) | skip
      all_goals
        rintro ⟨⟨k, j, m⟩, hkj, hj, hml, hmt, hmd⟩
        refine awp_sound isweep_T_ok.toS lv188 _ _ _ rfl ?_
        simp -implicitDefEqProofs only [cdA, go_sem, reduceIte, reduceCtorEq, Nat.reduceEqDiff, Nat.reduceAdd, Nat.reduceLeDiff, Nat.reduceSub, Nat.reduceMul, Nat.reduceLT, Nat.reduceShiftRight, Nat.reduceMod, Int.reduceLE, Int.reduceLT, Int.reduceToNat, List.cons.injEq, cdB]
        dsimp only at hkj hj hml hmt hmd
        refine fun _ => ⟨fun h5 => ⟨by omega, ⟨hml.symm, by omega⟩, ?_⟩, fun h5 => ?_⟩
        · skip
          refine ac186 isweep_T_ok (Nat.le_of_ble_eq_true rfl) ?_
          simp -implicitDefEqProofs only [cdA, go_sem, Go.Proofs.Tryz.f186, reduceIte, reduceCtorEq, Nat.reduceEqDiff, Nat.reduceAdd, Nat.reduceLeDiff, Nat.reduceSub, Nat.reduceMul, Nat.reduceLT, Nat.reduceShiftRight, Nat.reduceMod, Int.reduceLE, Int.reduceLT, Int.reduceToNat, List.cons.injEq, cdB]
          have hj' : j < l.length := by omega
          have hmj : m.getD j default = l.getD j default := by
            have h6 : (m.drop j)[0]? = (l.drop j)[0]? := by rw [hmd]
            rw [List.getElem?_drop, List.getElem?_drop, Nat.add_zero] at h6
            rw [List.getD_eq_getElem?_getD, h6, ← List.getD_eq_getElem?_getD]
          have hmd2 : m.drop (j + 1) = l.drop (j + 1) := by
            rw [← List.drop_drop, hmd, List.drop_drop]
          have hgo : overI tick (l.getD j default) = true → m.take k = (l.take (j + 1)).filter (fun y => !overI tick y) := fun hv => by
            rw [take_succ hj', List.filter_append, List.filter_cons_of_neg (by rw [hv]; decide), List.filter_nil, List.append_nil, hmt]
          have hkeep : ¬ overI tick (l.getD j default) = true → (m.set k (l.getD j default)).take (k + 1) = (l.take (j + 1)).filter (fun y => !overI tick y) := fun hv => by
            rw [take_succ hj', List.filter_append, List.filter_cons_of_pos (by simpa using hv), List.filter_nil, ← hmt, List.take_set, take_succ (by omega), List.set_append_right _ _ (by rw [List.length_take]; omega), List.length_take, show k - min k m.length = 0 by omega]
            rfl
          rw [hmj]
          refine ⟨fun h6 => ⟨fun h7 => ⟨⟨(k, j + 1, m), by dsimp only; omega, hj', hml, hgo ((hov _).2 (.inr h7)), hmd2⟩, by dsimp only; omega, ⟨rfl, i64_in _ (by omega)⟩, rfl⟩, fun h7 => ⟨by omega, ⟨hml.symm, by omega⟩, ⟨(k + 1, j + 1, m.set k (l.getD j default)), by dsimp only; omega, hj', by dsimp only; rw [List.length_set]; exact hml, hkeep (fun h => by rcases (hov _).1 h with h | h <;> first | exact h6 h | exact h7 h), ?_⟩, by dsimp only; omega, ⟨i64_in _ (by omega), i64_in _ (by omega)⟩, rfl⟩⟩,
            fun h6 => ⟨⟨(k, j + 1, m), by dsimp only; omega, hj', hml, hgo ((hov _).2 (.inl h6)), hmd2⟩, by dsimp only; omega, ⟨rfl, i64_in _ (by omega)⟩, rfl⟩⟩
          dsimp only
          rw [List.drop_set_of_lt (by omega)]; exact hmd2
        · have hj' : j = l.length := by omega
          subst hj'
          refine SWm.opn 1 rfl fun cp hc hcm => ?_
          rw [ivs_length] at hc
          refine SWm.awp isweep_T_ok.toS lv188 rfl ?_
          simp -implicitDefEqProofs only [cdA, go_sem, List.map_cons, List.map_nil, hml, eq_self, reduceIte, reduceCtorEq, Nat.reduceEqDiff, Nat.reduceAdd, Nat.reduceLeDiff, Nat.reduceSub, Nat.reduceMul, Nat.reduceLT, Nat.reduceShiftRight, Nat.reduceMod, Int.reduceLE, Int.reduceLT, Int.reduceToNat, List.cons.injEq, cdB]
          have hsw : sweepI l tick = (m.take k, 0) := by rw [sweepI, if_pos hok, hmt, List.take_length]
          have hkl : (m.take k).length = k := by rw [List.length_take]; omega
          have hfin : ∀ Z : List (List C), List.take k (fit cp 4 (List.take k (fit cp 4 (ivs m)) ++ Z)) = ivs (m.take k) := fun Z => by
            rw [fit_take (by rw [List.length_append, List.length_take, fit_length]; omega) (by omega), List.take_append_of_le_length (by rw [List.length_take, fit_length]; omega), List.take_take, Nat.min_self, fit_take (by rw [ivs_length]; omega) (by omega)]
            simp [ivs, List.map_take]
          rw [hfin, hsw]
          exact ⟨by omega, by omega, ⟨hkl.symm, _, _, _, rfl⟩, rfl⟩
    · have hi' : i = l.length := by omega
      subst hi'
      have hsw : sweepI l tick = (l, 0) := by
        rw [sweepI, if_pos hok, List.filter_eq_self.2 fun x hx => ?_]
        obtain ⟨j, hj, rfl⟩ := mem_getD.1 hx
        rw [hall j (by omega)]; rfl
      refine SWm.seq (SWm.awp isweep_T_ok.toS lv188 rfl ?_)
      simp -implicitDefEqProofs only [cdA, go_sem, reduceIte, reduceCtorEq, Nat.reduceEqDiff, Nat.reduceAdd, Nat.reduceLeDiff, Nat.reduceSub, Nat.reduceMul, Nat.reduceLT, Nat.reduceShiftRight, Nat.reduceMod, Int.reduceLE, Int.reduceLT, Int.reduceToNat, List.cons.injEq, cdB]
      rw [hsw]
      exact ⟨⟨rfl, _, _, _, rfl⟩, rfl⟩
def sp_isweep : List D → Option (Prop × D × Fr)
  | [.c (.sl z207), .c (.int .u64 z208)] => some (z207 = ivs (divs z207) ∧ z208 = (z208.toNat : Int), isweep_r (divs z207) z208.toNat, [])
  | _ => none
attribute [go_sem] sp_isweep
theorem sp_isweep_ok : ∀ rs p r fr, sp_isweep rs = some (p, r, fr) → p → FnOk Tryz.prog 100 rs r fr := by
  intro rs p r fr h hp
  unfold sp_isweep at h
  split at h <;> cases h
  obtain ⟨hc0, hc1⟩ := hp
  rename_i z207 z208
  obtain ⟨z207, rfl⟩ : ∃ m, z207 = ivs m := ⟨_, hc0⟩
  obtain ⟨z208, rfl⟩ : ∃ m : Nat, z208 = m := ⟨_, hc1⟩
  simp only [Int.toNat_natCast, divs_ivs]
  exact isweep_ok z207 z208
end Dm
namespace Dm
open Go Go.Proofs Go.IntWalk
theorem small_ok {w : Wl} (h : okW w) : smallW w := by
  obtain ⟨h1, h2, h3, h4, _⟩ := h
  have h7 := h3.2.2.1
  refine ⟨by have := h1.1; omega, fun c hc => by have := (h1.2.1 c hc).2.2.1; omega, by omega, by have := h2.1; omega, ?_, by omega⟩
  rename_i h8
  have h9 := h8.2.2.2
  have : okPy w.p := by
    unfold agrL at h9
    split at h9
    · rename_i h; exact h.1
    · cases h9
  have := this.1; omega
theorem sweep_ok {l : List Iv} {tick : Nat} (h : (sweepI l tick).2 = 0) : okIv l ∧ okIv (sweepI l tick).1 ∧ (sweepI l tick).1 = l.filter fun x => !overI tick x := by
  unfold sweepI at h ⊢
  split at h
  · rename_i h1
    rw [if_pos h1]
    have hs : (l.filter fun x => !overI tick x).Sublist l := List.filter_sublist
    refine ⟨h1, ⟨Nat.le_trans hs.length_le h1.1, fun x hx => h1.2.1 x (hs.subset hx), ?_⟩, rfl⟩
    exact (Srt.chn_up (lt := ltN) Srt.totNat).2 (List.Pairwise.sublist hs ((Srt.chn_up (lt := ltN) Srt.totNat).1 h1.2.2))
  · cases h
theorem i1_0 : ((1 : Int) = 0) = False := eq_false (by decide)
def zeroW : Wl := ⟨[], [], [], [], ⟨0, []⟩, 0, 0⟩
theorem i13_0 : ((13 : Int) = 0) = False := eq_false (by decide)
def wlaE (v : Wl) (t : Nat) : Int := if ¬ okW v then 1 else if t < v.tick then 13 else 0
def wlaW (v : Wl) (t : Nat) : Wl × Int := if wlaE v t = 0 then ({ v with i := (sweepI v.i t).1, tick := t }, 0) else (zeroW, wlaE v t)
@[go_sem] def wlater_r (v : Wl) (t : Nat) : D := .tup [.agg [.sl (chs (wlaW v t).1.c), .sl (wts (wlaW v t).1.w), .sl (ivs (wlaW v t).1.i), .sl (pys (wlaW v t).1.p), .int .u64 (wlaW v t).1.f.next, .sl (evs (wlaW v t).1.f.l), .int .u64 (wlaW v t).1.next, .int .u64 (wlaW v t).1.tick], .int .i64 (wlaW v t).2]
@[go_sem] abbrev n_wlater : FuncId := 34
@[go_sem] def wlater_T : Tab := [(82, sp_wcheck), (100, sp_isweep), (189, sp_wown)]
theorem wlater_T_ok : TabOk Tryz.prog wlater_T := (TabOk.cons sp_wcheck_ok (TabOk.cons sp_isweep_ok (TabOk.cons sp_wown_ok TabOk.nil)))
set_option maxRecDepth 8000 in
set_option maxHeartbeats 1000000 in
theorem wlater_ok (v : Wl) (t : Nat) (h : v.f.next ≤ 18446744073709551615) : PureFn Tryz.prog 34 [.agg [.sl (chs v.c), .sl (wts v.w), .sl (ivs v.i), .sl (pys v.p), .c (.int .u64 (v.f.next : Int)), .sl (evs v.f.l), .c (.int .u64 (v.next : Int)), .c (.int .u64 (v.tick : Int))], .c (.int .u64 (t : Int))] (wlater_r v t) := by
  refine .of (ac34 wlater_T_ok (Nat.le_of_ble_eq_true rfl) ?_)
  simp -implicitDefEqProofs only [cdA, go_sem, Go.Proofs.Tryz.f34, reduceIte, reduceCtorEq, Nat.reduceEqDiff, Nat.reduceAdd, Nat.reduceLeDiff, Nat.reduceSub, Nat.reduceMul, Nat.reduceLT, Nat.reduceShiftRight, Nat.reduceMod, Int.reduceLE, Int.reduceLT, Int.reduceToNat, List.cons.injEq, cdB]
  refine ac96 wlater_T_ok (Nat.le_of_ble_eq_true rfl) ?_
  simp -implicitDefEqProofs only [cdA, go_sem, Go.Proofs.Tryz.f96, reduceIte, reduceCtorEq, Nat.reduceEqDiff, Nat.reduceAdd, Nat.reduceLeDiff, Nat.reduceSub, Nat.reduceMul, Nat.reduceLT, Nat.reduceShiftRight, Nat.reduceMod, Int.reduceLE, Int.reduceLT, Int.reduceToNat, List.cons.injEq, cdB]
  refine ADraw.run us96_1 wlater_T_ok follows_mixed (by kernel_rfl) (by kernel_rfl) ?_
  simp -implicitDefEqProofs only [cdA, go_sem, reduceIte, reduceCtorEq, Nat.reduceEqDiff, Nat.reduceAdd, Nat.reduceLeDiff, Nat.reduceSub, Nat.reduceMul, Nat.reduceLT, Nat.reduceShiftRight, Nat.reduceMod, Int.reduceLE, Int.reduceLT, Int.reduceToNat, List.cons.injEq, cdB]
  refine ⟨h, ?_⟩
  have hbad : ∀ e : Int, wlaE v t = e → ¬ e = 0 → (chs (wlaW v t).1.c = [] ∧ wts (wlaW v t).1.w = [] ∧ ivs (wlaW v t).1.i = [] ∧ pys (wlaW v t).1.p = [] ∧ 0 = ((wlaW v t).1.f.next : Int) ∧ evs (wlaW v t).1.f.l = [] ∧ 0 = ((wlaW v t).1.next : Int) ∧ 0 = ((wlaW v t).1.tick : Int)) ∧ e = (wlaW v t).2 := fun e h1 h2 => by
    have : wlaW v t = (zeroW, e) := by rw [wlaW, if_neg (by rw [h1]; exact h2), h1]
    rw [this]; exact ⟨⟨rfl, rfl, rfl, rfl, rfl, rfl, rfl, rfl⟩, rfl⟩
  by_cases hok : okW v
  rotate_left 1
  · have hc1 : chkW v = 1 := by rw [chkW, if_neg hok]
    rw [hc1]
    refine ac97 wlater_T_ok (Nat.le_of_ble_eq_true rfl) ?_
    simp -implicitDefEqProofs only [cdA, go_sem, Go.Proofs.Tryz.f97, i1_0, cdN, reduceIte, reduceCtorEq, Nat.reduceEqDiff, Nat.reduceAdd, Nat.reduceLeDiff, Nat.reduceSub, Nat.reduceMul, Nat.reduceLT, Nat.reduceShiftRight, Nat.reduceMod, Int.reduceLE, Int.reduceLT, Int.reduceToNat, List.cons.injEq, cdB]
    refine ac98 wlater_T_ok (Nat.le_of_ble_eq_true rfl) ?_
    simp -implicitDefEqProofs only [cdA, go_sem, Go.Proofs.Tryz.f98, i1_0, cdN, reduceIte, reduceCtorEq, Nat.reduceEqDiff, Nat.reduceAdd, Nat.reduceLeDiff, Nat.reduceSub, Nat.reduceMul, Nat.reduceLT, Nat.reduceShiftRight, Nat.reduceMod, Int.reduceLE, Int.reduceLT, Int.reduceToNat, List.cons.injEq, cdB]
    refine ac101 wlater_T_ok (Nat.le_of_ble_eq_true rfl) ?_
    simp -implicitDefEqProofs only [cdA, go_sem, Go.Proofs.Tryz.f101, i1_0, cdN, reduceIte, reduceCtorEq, Nat.reduceEqDiff, Nat.reduceAdd, Nat.reduceLeDiff, Nat.reduceSub, Nat.reduceMul, Nat.reduceLT, Nat.reduceShiftRight, Nat.reduceMod, Int.reduceLE, Int.reduceLT, Int.reduceToNat, List.cons.injEq, cdB]
    refine ADraw.run us101_2 wlater_T_ok follows_mixed (by kernel_rfl) (by kernel_rfl) ?_
    simp -implicitDefEqProofs only [cdA, go_sem, i1_0, cdN, reduceIte, reduceCtorEq, Nat.reduceEqDiff, Nat.reduceAdd, Nat.reduceLeDiff, Nat.reduceSub, Nat.reduceMul, Nat.reduceLT, Nat.reduceShiftRight, Nat.reduceMod, Int.reduceLE, Int.reduceLT, Int.reduceToNat, List.cons.injEq, cdB]
    exact hbad 1 (by rw [wlaE, if_pos hok]) (by decide)
  have hck : chkW v = 0 := chkW_0.2 hok
  rw [hck]
  by_cases hl : v.tick ≤ t
  rotate_left 1
  · have hl' : ((v.tick : Int) ≤ t) = False := eq_false (by omega)
    refine ac97 wlater_T_ok (Nat.le_of_ble_eq_true rfl) ?_
    simp -implicitDefEqProofs only [cdA, go_sem, Go.Proofs.Tryz.f97, hl', decide_false, cdN, reduceIte, reduceCtorEq, Nat.reduceEqDiff, Nat.reduceAdd, Nat.reduceLeDiff, Nat.reduceSub, Nat.reduceMul, Nat.reduceLT, Nat.reduceShiftRight, Nat.reduceMod, Int.reduceLE, Int.reduceLT, Int.reduceToNat, List.cons.injEq, cdB]
    refine ac98 wlater_T_ok (Nat.le_of_ble_eq_true rfl) ?_
    simp -implicitDefEqProofs only [cdA, go_sem, Go.Proofs.Tryz.f98, i13_0, cdN, reduceIte, reduceCtorEq, Nat.reduceEqDiff, Nat.reduceAdd, Nat.reduceLeDiff, Nat.reduceSub, Nat.reduceMul, Nat.reduceLT, Nat.reduceShiftRight, Nat.reduceMod, Int.reduceLE, Int.reduceLT, Int.reduceToNat, List.cons.injEq, cdB]
    refine ac101 wlater_T_ok (Nat.le_of_ble_eq_true rfl) ?_
    simp -implicitDefEqProofs only [cdA, go_sem, Go.Proofs.Tryz.f101, i13_0, cdN, reduceIte, reduceCtorEq, Nat.reduceEqDiff, Nat.reduceAdd, Nat.reduceLeDiff, Nat.reduceSub, Nat.reduceMul, Nat.reduceLT, Nat.reduceShiftRight, Nat.reduceMod, Int.reduceLE, Int.reduceLT, Int.reduceToNat, List.cons.injEq, cdB]
    refine ADraw.run us101_2 wlater_T_ok follows_mixed (by kernel_rfl) (by kernel_rfl) ?_
    simp -implicitDefEqProofs only [cdA, go_sem, i13_0, cdN, reduceIte, reduceCtorEq, Nat.reduceEqDiff, Nat.reduceAdd, Nat.reduceLeDiff, Nat.reduceSub, Nat.reduceMul, Nat.reduceLT, Nat.reduceShiftRight, Nat.reduceMod, Int.reduceLE, Int.reduceLT, Int.reduceToNat, List.cons.injEq, cdB]
    exact hbad 13 (by rw [wlaE, if_neg (fun h => h hok), if_pos (by omega)]) (by decide)
  have hl' : ((v.tick : Int) ≤ t) = True := eq_true (by omega)
  have hsw : (sweepI v.i t).2 = 0 := by rw [sweepI, if_pos hok.2.1]
  refine ac97 wlater_T_ok (Nat.le_of_ble_eq_true rfl) ?_
  simp -implicitDefEqProofs only [cdA, go_sem, Go.Proofs.Tryz.f97, hl', decide_true, cdN, reduceIte, reduceCtorEq, Nat.reduceEqDiff, Nat.reduceAdd, Nat.reduceLeDiff, Nat.reduceSub, Nat.reduceMul, Nat.reduceLT, Nat.reduceShiftRight, Nat.reduceMod, Int.reduceLE, Int.reduceLT, Int.reduceToNat, List.cons.injEq, cdB]
  refine ac98 wlater_T_ok (Nat.le_of_ble_eq_true rfl) ?_
  simp -implicitDefEqProofs only [cdA, go_sem, Go.Proofs.Tryz.f98, hsw, cdN, reduceIte, reduceCtorEq, Nat.reduceEqDiff, Nat.reduceAdd, Nat.reduceLeDiff, Nat.reduceSub, Nat.reduceMul, Nat.reduceLT, Nat.reduceShiftRight, Nat.reduceMod, Int.reduceLE, Int.reduceLT, Int.reduceToNat, List.cons.injEq, cdB]
  refine ac99 wlater_T_ok (Nat.le_of_ble_eq_true rfl) ?_
  simp -implicitDefEqProofs only [cdA, go_sem, Go.Proofs.Tryz.f99, hsw, cdN, reduceIte, reduceCtorEq, Nat.reduceEqDiff, Nat.reduceAdd, Nat.reduceLeDiff, Nat.reduceSub, Nat.reduceMul, Nat.reduceLT, Nat.reduceShiftRight, Nat.reduceMod, Int.reduceLE, Int.reduceLT, Int.reduceToNat, List.cons.injEq, cdB]
  have hsm : smallW ⟨v.c, v.w, (sweepI v.i t).1, v.p, v.f, v.next, t⟩ := by
    have h2 := small_ok hok
    have h3 := (sweep_ok hsw).2.1.1
    exact ⟨h2.1, h2.2.1, h2.2.2.1, by show (sweepI v.i t).1.length ≤ _; omega, h2.2.2.2.2.1, h2.2.2.2.2.2⟩
  have hfin : wlaW v t = (⟨v.c, v.w, (sweepI v.i t).1, v.p, v.f, v.next, t⟩, 0) := by
    have : wlaE v t = 0 := by rw [wlaE, if_neg (fun h => h hok), if_neg (by omega)]
    rw [wlaW, if_pos this]
  refine ac101 wlater_T_ok (Nat.le_of_ble_eq_true rfl) ?_
  simp -implicitDefEqProofs only [cdA, go_sem, Go.Proofs.Tryz.f101, eq_true hsm, cdN, reduceIte, reduceCtorEq, Nat.reduceEqDiff, Nat.reduceAdd, Nat.reduceLeDiff, Nat.reduceSub, Nat.reduceMul, Nat.reduceLT, Nat.reduceShiftRight, Nat.reduceMod, Int.reduceLE, Int.reduceLT, Int.reduceToNat, List.cons.injEq, cdB]
  rw [hfin]
  exact ⟨⟨rfl, rfl, rfl, rfl, rfl, rfl, rfl, rfl⟩, rfl⟩
@[go_sem] def wlater_p (v : Wl) (t : Nat) : Prop := (v.f.next ≤ 18446744073709551615)
def sp_wlater : List D → Option (Prop × D × Fr)
  | [.agg [.c (.sl z604), .c (.sl z605), .c (.sl z606), .c (.sl z607), .c (.int .u64 z609), .c (.sl z610), .c (.int .u64 z611), .c (.int .u64 z612)], .c (.int .u64 z613)] => some (z604 = chs (dchs z604) ∧ z605 = wts (dwts z605) ∧ z606 = ivs (divs z606) ∧ z607 = pys (dpys z607) ∧ z609 = (z609.toNat : Int) ∧ z610 = evs (devs z610) ∧ z611 = (z611.toNat : Int) ∧ z612 = (z612.toNat : Int) ∧ z613 = (z613.toNat : Int) ∧ wlater_p (⟨(dchs z604), (dwts z605), (divs z606), (dpys z607), (⟨z609.toNat, (devs z610)⟩ : Fd), z611.toNat, z612.toNat⟩ : Wl) z613.toNat, wlater_r (⟨(dchs z604), (dwts z605), (divs z606), (dpys z607), (⟨z609.toNat, (devs z610)⟩ : Fd), z611.toNat, z612.toNat⟩ : Wl) z613.toNat, [])
  | _ => none
attribute [go_sem] sp_wlater
theorem sp_wlater_ok : ∀ rs p r fr, sp_wlater rs = some (p, r, fr) → p → FnOk Tryz.prog 34 rs r fr := by
  intro rs p r fr h hp
  unfold sp_wlater at h
  split at h <;> cases h
  obtain ⟨hc0, hc1, hc2, hc3, hc4, hc5, hc6, hc7, hc8, hp⟩ := hp
  rename_i z604 z605 z606 z607 z609 z610 z611 z612 z613
  obtain ⟨z604, rfl⟩ : ∃ m, z604 = chs m := ⟨_, hc0⟩
  obtain ⟨z605, rfl⟩ : ∃ m, z605 = wts m := ⟨_, hc1⟩
  obtain ⟨z606, rfl⟩ : ∃ m, z606 = ivs m := ⟨_, hc2⟩
  obtain ⟨z607, rfl⟩ : ∃ m, z607 = pys m := ⟨_, hc3⟩
  obtain ⟨z609, rfl⟩ : ∃ m : Nat, z609 = m := ⟨_, hc4⟩
  obtain ⟨z610, rfl⟩ : ∃ m, z610 = evs m := ⟨_, hc5⟩
  obtain ⟨z611, rfl⟩ : ∃ m : Nat, z611 = m := ⟨_, hc6⟩
  obtain ⟨z612, rfl⟩ : ∃ m : Nat, z612 = m := ⟨_, hc7⟩
  obtain ⟨z613, rfl⟩ : ∃ m : Nat, z613 = m := ⟨_, hc8⟩
  simp only [Int.toNat_natCast, dchs_chs, devs_evs, divs_ivs, dpys_pys, dwts_wts]
  simp only [Int.toNat_natCast, dchs_chs, devs_evs, divs_ivs, dpys_pys, dwts_wts, wlater_p] at hp
  exact wlater_ok ⟨z604, z605, z606, z607, ⟨z609, z610⟩, z611, z612⟩ z613 hp
end Dm
namespace Dm
open Go Go.Proofs Go.IntWalk
def addE (l : List Rk) (id key : Nat) : Int := if ¬ okRk l then 1 else if Srt.thr Rk.id ltN l id = true ∨ takenR l key = true then 6 else if l.length = 64 then 7 else 0
def addR (l : List Rk) (id key : Nat) : List Rk × Int := if addE l id key = 0 then (Srt.ins l (Srt.pos Rk.id ltN l id) ⟨id, key, false⟩, 0) else ([], addE l id key)
def zeroB : Bk := ⟨zeroW, ⟨[]⟩, [], [], []⟩
def chgB (b : Bk) (id key : Nat) (l : List Rk × Int) : Bk × Tk × Int :=
  if chkB b ≠ 0 then (zeroB, ⟨0, [], 0⟩, chkB b) else if l.2 ≠ 0 then (zeroB, ⟨0, [], 0⟩, l.2) else
  if (putA b.a.l ⟨key, -1, putB [id]⟩).2.2 ≠ 0 then (zeroB, ⟨0, [], 0⟩, (putA b.a.l ⟨key, -1, putB [id]⟩).2.2) else
  (⟨b.w, ⟨(putA b.a.l ⟨key, -1, putB [id]⟩).1⟩, l.1, b.k, b.s⟩, ⟨id, [], (putA b.a.l ⟨key, -1, putB [id]⟩).2.1⟩, 0)
def revB (b : Bk) (id : Nat) : Bk × Int :=
  if chkB b ≠ 0 then (zeroB, chkB b) else if (revR b.r id).2 ≠ 0 then (zeroB, (revR b.r id).2) else (⟨b.w, b.a, (revR b.r id).1, b.k, b.s⟩, 0)
end Dm
namespace Dm
open Go Go.Proofs Go.IntWalk
theorem rk_up {l : List Rk} (h : okRk l) : Srt.Up Rk.id ltN l := (Srt.chn_up (lt := ltN) Srt.totNat).1 h.2.1
theorem rk_thr {l : List Rk} {id : Nat} (h : Srt.thr Rk.id ltN l id = true) : Srt.pos Rk.id ltN l id < l.length ∧ (l.getD (Srt.pos Rk.id ltN l id) default).id = id := by
  unfold Srt.thr at h
  exact of_decide_eq_true h
theorem key_iff {l : List Rk} (h : okRk l) {root k : Nat} : (rkey l root).2 = 0 ∧ (rkey l root).1 = k ↔ (⟨root, k, false⟩ : Rk) ∈ l := by
  constructor
  · rintro ⟨h1, h2⟩
    unfold rkey at h1 h2
    split at h1
    · rename_i h3
      rw [if_pos h3] at h2
      obtain ⟨_, _, g3, g4, g5⟩ := rgood_lt h3
      have e : l.getD (rgood l root).1 default = ⟨root, k, false⟩ := by
        generalize l.getD (rgood l root).1 default = x at *
        cases x; dsimp only at *; rw [g4, h2, g5]
      rw [← e]; exact mem_getD.2 ⟨_, g3, rfl⟩
    · rename_i h3; exact absurd h1 h3
  · intro hm
    have hu := rk_up h
    have ht : Srt.thr Rk.id ltN l root = true := (Srt.thr_iff (lt := ltN) Srt.totNat hu).2 ⟨_, hm, rfl⟩
    obtain ⟨g1, g2⟩ := rk_thr ht
    have e : l.getD (Srt.pos Rk.id ltN l root) default = ⟨root, k, false⟩ := Srt.up_inj (lt := ltN) Srt.totNat hu (mem_getD.2 ⟨_, g1, rfl⟩) hm g2
    have hg : rgood l root = (Srt.pos Rk.id ltN l root, 0) := by
      rw [rgood, if_neg (fun h' => h' h), if_neg (by rw [ht]; decide), e]; exact if_neg fun h => Bool.noConfusion h
    rw [rkey, hg, if_pos rfl, e]; exact ⟨rfl, rfl⟩
theorem free_key {b : Bk} {r : Rq} {who : Nat} (h : okRk b.r) : freeG b r who ↔ ∃ k, (⟨r.t.root, k, false⟩ : Rk) ∈ b.r ∧ wayA b.a.l k (putB [r.t.root]) (r.t.l.map cavB) = some r.t.tag ∧
    (∀ c ∈ r.t.l, withinC c ⟨b.w.tick, r.method, (amtS r).1, who⟩ = true) ∧ fitS b.s r.t.root r.t.l (amtS r).1 = true := by
  constructor
  · rintro ⟨h1, h2⟩
    exact ⟨_, (key_iff h).1 ⟨h1, rfl⟩, h2⟩
  · rintro ⟨k, h1, h2⟩
    obtain ⟨g1, g2⟩ := (key_iff h).2 h1
    exact ⟨g1, by rw [g2]; exact h2⟩
theorem good_put {l : List Rk} {id : Nat} (h : (rgood l id).2 = 0) {x : Rk} (hx : x.id = id) : okRk l ∧ l.set (Srt.pos Rk.id ltN l id) x = Srt.put Rk.id ltN l x ∧ (∀ y, y ∈ Srt.put Rk.id ltN l x ↔ y = x ∨ (y ∈ l ∧ y.id ≠ id)) ∧
    Srt.pos Rk.id ltN l id < l.length ∧ (l.getD (Srt.pos Rk.id ltN l id) default).id = id := by
  obtain ⟨hok, e1, g3, g4, g5⟩ := rgood_lt h
  have hu := rk_up hok
  rw [e1] at g3 g4
  have ht : Srt.thr Rk.id ltN l id = true := (Srt.thr_iff (lt := ltN) Srt.totNat hu).2 ⟨_, mem_getD.2 ⟨_, g3, rfl⟩, g4⟩
  refine ⟨hok, ?_, fun y => ?_, g3, g4⟩
  · rw [Srt.put, hx, if_pos ht]
  · rw [Srt.mem_put (lt := ltN) Srt.totNat hu, hx]
theorem set_nodup {l : List Nat} (h : l.Nodup) {a : Nat} {p : Nat} (ha : a ∉ l) : (l.set p a).Nodup := by
  induction l generalizing p with
  | nil => simp
  | cons x l ih =>
    rw [List.nodup_cons] at h
    rw [List.mem_cons, not_or] at ha
    cases p with
    | zero => rw [List.set_cons_zero, List.nodup_cons]; exact ⟨ha.2, h.2⟩
    | succ p =>
      rw [List.set_cons_succ, List.nodup_cons]
      refine ⟨fun hm => ?_, ih h.2 ha.2⟩
      rcases List.mem_or_eq_of_mem_set hm with hm | hm
      · exact h.1 hm
      · exact ha.1 hm.symm
theorem put_rk {l : List Rk} {id : Nat} (h : (rgood l id).2 = 0) {x : Rk} (hx : x.id = id) (hk : x.key = (l.getD (Srt.pos Rk.id ltN l id) default).key ∨ x.key ∉ l.map Rk.key) : okRk (l.set (Srt.pos Rk.id ltN l id) x) := by
  obtain ⟨hok, e, _, h3, h4⟩ := good_put h hx
  refine ⟨by rw [List.length_set]; exact hok.1, ?_, ?_⟩
  · exact (Srt.chn_up (lt := ltN) Srt.totNat).2 (Srt.set_up (rk_up hok) h3 (by rw [hx, h4]))
  · rw [List.map_set]
    rcases hk with hk | hk
    · rw [hk, getD_lt h3]
      have := List.set_getElem_self (show Srt.pos Rk.id ltN l id < (l.map Rk.key).length by rw [List.length_map]; exact h3)
      rw [List.getElem_map] at this
      rw [this]; exact hok.2.2
    · exact set_nodup hok.2.2 hk
theorem rev_all {b : Bk} {id : Nat} (h : (revB b id).2 = 0) : chkB b = 0 ∧ chkB (revB b id).1 = 0 ∧ (revB b id).1.a = b.a ∧ (revB b id).1.w = b.w ∧ (revB b id).1.s = b.s ∧ ∀ y : Rk, y.gone = false → (y ∈ (revB b id).1.r ↔ y ∈ b.r ∧ y.id ≠ id) := by
  unfold revB at h ⊢
  split at h
  · rename_i h1; exact absurd h h1
  rename_i h1
  split at h
  · rename_i h2; exact absurd h h2
  rename_i h2
  rw [if_neg h1, if_neg h2]
  have h1 : chkB b = 0 := Classical.not_not.1 h1
  have hg : (rgood b.r id).2 = 0 := Classical.byContradiction fun hn => h2 (by rw [revR, if_pos hn]; exact hn)
  have e : (revR b.r id).1 = b.r.set (Srt.pos Rk.id ltN b.r id) ⟨id, (b.r.getD (Srt.pos Rk.id ltN b.r id) default).key, true⟩ := by rw [revR, if_neg (fun h => h hg)]
  obtain ⟨hok, e2, hm, h3, h4⟩ := good_put hg (x := ⟨id, (b.r.getD (Srt.pos Rk.id ltN b.r id) default).key, true⟩) rfl
  obtain ⟨c1, c2, _, c4⟩ := chkB_0.1 h1
  refine ⟨h1, chkB_0.2 ⟨c1, c2, ?_, c4⟩, rfl, rfl, rfl, fun y hy => ?_⟩
  · dsimp only; rw [e]; exact put_rk hg rfl (.inl rfl)
  · dsimp only
    rw [e, e2, hm]
    exact ⟨fun h => h.elim (fun h => by rw [h] at hy; cases hy) fun h => h, .inr⟩
theorem taken_0 {l : List Rk} {key : Nat} : takenR l key = false ↔ key ∉ l.map Rk.key := by
  rw [takenR, decide_eq_false_iff_not, List.mem_map]
theorem turn_all {b : Bk} {id key : Nat} (h : (chgB b id key (turnR b.r id key)).2.2 = 0) : chkB b = 0 ∧ chkB (chgB b id key (turnR b.r id key)).1 = 0 ∧ (putA b.a.l ⟨key, -1, putB [id]⟩).2.2 = 0 ∧
    (chgB b id key (turnR b.r id key)).1.a.l = (putA b.a.l ⟨key, -1, putB [id]⟩).1 ∧ (chgB b id key (turnR b.r id key)).1.w = b.w ∧ (chgB b id key (turnR b.r id key)).1.s = b.s ∧
    (∀ y : Rk, y ∈ (chgB b id key (turnR b.r id key)).1.r ↔ y = ⟨id, key, false⟩ ∨ (y ∈ b.r ∧ y.id ≠ id)) ∧ (∀ y ∈ b.r, y.key ≠ key) ∧
    (chgB b id key (turnR b.r id key)).2.1 = ⟨id, [], (putA b.a.l ⟨key, -1, putB [id]⟩).2.1⟩ := by
  unfold chgB at h ⊢
  split at h
  · rename_i h1; exact absurd h h1
  rename_i h1
  split at h
  · rename_i h2; exact absurd h h2
  rename_i h2
  split at h
  · rename_i h3; exact absurd h h3
  rename_i h3
  rw [if_neg h1, if_neg h2, if_neg h3]
  have h1 : chkB b = 0 := Classical.not_not.1 h1
  have h3 : (putA b.a.l ⟨key, -1, putB [id]⟩).2.2 = 0 := Classical.not_not.1 h3
  have hg : (rgood b.r id).2 = 0 := Classical.byContradiction fun hn => h2 (by rw [turnR, if_pos hn]; exact hn)
  have ht : ¬ takenR b.r key = true := fun hn => h2 (by rw [turnR, if_neg (fun h => h hg), if_pos hn]; decide)
  have e : (turnR b.r id key).1 = b.r.set (Srt.pos Rk.id ltN b.r id) ⟨id, key, false⟩ := by rw [turnR, if_neg (fun h => h hg), if_neg ht]
  obtain ⟨hok, e2, hm, g3, g4⟩ := good_put hg (x := ⟨id, key, false⟩) rfl
  have hk : key ∉ b.r.map Rk.key := taken_0.1 (by simpa using ht)
  obtain ⟨c1, _, _, c4⟩ := chkB_0.1 h1
  refine ⟨h1, chkB_0.2 ⟨c1, put_ok h3 ⟨Int.le_refl _, fun h => absurd h (Int.lt_irrefl _)⟩, ?_, c4⟩, h3, rfl, rfl, rfl, fun y => ?_, fun y hy he => hk (List.mem_map.2 ⟨y, hy, he⟩), rfl⟩
  · dsimp only; rw [e]; exact put_rk hg rfl (.inr hk)
  · dsimp only; rw [e, e2]; exact hm y
theorem gone_rev {b : Bk} {r : Rq} {id who : Nat} (h0 : (mayG b r who).2 = 0) (h : (revB b id).2 = 0) : (mayG (revB b id).1 r who).2 = 0 ∧ (r.t.root = id → (mayG (revB b id).1 r who).1 = false) ∧ (r.t.root ≠ id → (mayG (revB b id).1 r who).1 = (mayG b r who).1) := by
  obtain ⟨hr, hb⟩ := may_2.1 h0
  obtain ⟨_, hb', ea, ew, es, hm⟩ := rev_all h
  have m1 := may_ok (who := who) hr hb
  have m2 := may_ok (who := who) hr hb'
  have k1 := free_key (r := r) (who := who) (chkB_0.1 hb).2.2.1
  have k2 := free_key (r := r) (who := who) (chkB_0.1 hb').2.2.1
  rw [ea, ew, es] at k2
  refine ⟨m2.1, fun hid => ?_, fun hid => ?_⟩
  · rw [← Bool.not_eq_true, m2.2, k2]
    rintro ⟨k, h1, _⟩
    exact ((hm _ rfl).1 h1).2 hid
  · rw [Bool.eq_iff_iff, m2.2, m1.2, k1, k2]
    exact ⟨fun ⟨k, h1, h2⟩ => ⟨k, ((hm _ rfl).1 h1).1, h2⟩, fun ⟨k, h1, h2⟩ => ⟨k, (hm _ rfl).2 ⟨h1, hid⟩, h2⟩⟩
theorem gone_turn {b : Bk} {r : Rq} {id key who : Nat} (h0 : (mayG b r who).2 = 0) (h : (chgB b id key (turnR b.r id key)).2.2 = 0) :
    (mayG (chgB b id key (turnR b.r id key)).1 r who).2 = 0 ∧ (r.t.root ≠ id → (mayG (chgB b id key (turnR b.r id key)).1 r who).1 = (mayG b r who).1) ∧
    (r.t.root = id → (mayG b r who).1 = true → (mayG (chgB b id key (turnR b.r id key)).1 r who).1 = false) ∧
    mayG (chgB b id key (turnR b.r id key)).1 { r with t := (chgB b id key (turnR b.r id key)).2.1 } who = (true, 0) := by
  obtain ⟨hr, hb⟩ := may_2.1 h0
  obtain ⟨_, hb', hp, ea, ew, es, hm, hk, et⟩ := turn_all h
  have m1 := may_ok (who := who) hr hb
  have m2 := may_ok (who := who) hr hb'
  have k1 := free_key (r := r) (who := who) (chkB_0.1 hb).2.2.1
  have k2 := free_key (r := r) (who := who) (chkB_0.1 hb').2.2.1
  rw [ea, ew, es] at k2
  have hok := put_ok hp ⟨Int.le_refl _, fun h => absurd h (Int.lt_irrefl _)⟩
  have hat := put_at hp
  have ha := (chkB_0.1 hb).2.1
  refine ⟨m2.1, fun hid => ?_, fun hid hw => ?_, ?_⟩
  · rw [Bool.eq_iff_iff, m2.2, m1.2, k1, k2]
    have hway : ∀ k, (⟨r.t.root, k, false⟩ : Rk) ∈ b.r → wayA (putA b.a.l ⟨key, -1, putB [id]⟩).1 k (putB [r.t.root]) (r.t.l.map cavB) = wayA b.a.l k (putB [r.t.root]) (r.t.l.map cavB) := fun k h1 => by
      obtain ⟨_, _, _, ⟨e, _⟩ | ⟨e, _⟩⟩ := put_all hp
      · rw [e]
      · rw [e]; exact way_root rfl ha (hk _ h1)
    constructor
    · rintro ⟨k, h1, h2, h3⟩
      have h4 : (⟨r.t.root, k, false⟩ : Rk) ∈ b.r := ((hm _).1 h1).elim (fun e => absurd (congrArg Rk.id e) hid) (·.1)
      exact ⟨k, h4, by rw [← hway k h4]; exact h2, h3⟩
    · rintro ⟨k, h1, h2, h3⟩
      exact ⟨k, (hm _).2 (.inr ⟨h1, hid⟩), by rw [hway k h1]; exact h2, h3⟩
  · rw [m1.2, k1] at hw
    obtain ⟨k, h1, h2, _⟩ := hw
    rw [← Bool.not_eq_true, m2.2, k2]
    rintro ⟨k', h3, h4, _⟩
    have e : k' = key := by
      rcases (hm _).1 h3 with e | e
      · exact congrArg Rk.key e
      · exact absurd hid e.2
    subst e
    exact hk _ h1 (way_inj hok (way_put hp h2) h4).1
  · have ht : okTk (chgB b id key (turnR b.r id key)).2.1 := by
      rw [et]
      have := al_lt hok hat
      have := hok.1
      exact ⟨Nat.zero_le _, by dsimp only; omega, by dsimp only; omega, fun c hc => by cases hc⟩
    have hs := rq_t hr ht
    have m3 := may_ok (who := who) hs hb'
    have k3 := free_key (r := { r with t := (chgB b id key (turnR b.r id key)).2.1 }) (who := who) (chkB_0.1 hb').2.2.1
    refine Prod.ext (m3.2.2 (k3.2 ⟨key, ?_, ?_, ?_, ?_⟩)) m3.1
    · rw [et]; exact (hm _).2 (.inl rfl)
    · rw [et, ea]; show goA _ (alk _ _) [] = _; rw [show alk (key, -1, putB [id]) _ = _ from hat]; rfl
    · rw [et]; exact fun c hc => by cases hc
    · rw [et]; rfl
end Dm
namespace Dm
open Go Go.Proofs Go.IntWalk
@[go_sem] def rins_T2 : Tab := [ovk 216]
theorem rins_T2_ok : TabOk Tryz.prog rins_T2 := .cons (ov_ok 216) .nil
@[go_sem] def rins_T3 : Tab := [fg 12]
theorem rins_T3_ok : TabOk Tryz.prog rins_T3 := .cons (fg_ok 12) .nil
theorem rins_wide (l : List Rk) : Wide 3 (rks l) := of_eq_true (rks_wide l)
set_option maxRecDepth 8000 in
set_option maxHeartbeats 1000000 in
theorem rins_ok (l : List Rk) (x : Rk) (i : Nat) (hi : i ≤ l.length) (hl : l.length ≤ 1000000) :
    ACall Tryz.prog 155 [.vec 0 l.length, .int .i64 i, .vec 1 1] [(1, .vec true 3 70 (rks [x])), (0, .vec true 3 70 (rks l))] 2 fun d os _ => Grown 3 70 (rks (Srt.ins l i x)) d os := by
  have hil : (Srt.ins l i x).length = l.length + 1 := Srt.ins_len
  have hq : ∀ j os, lk j os = some (.vec true 3 70 (rks (Srt.ins l i x))) → Grown 3 70 (rks (Srt.ins l i x)) (.vec j (l.length + 1)) os := fun j os h => ⟨j, by rw [rks_length, hil], h⟩
  by_cases hin : i = l.length
  · refine ac155 rins_T3_ok (Nat.le_of_ble_eq_true rfl) ?_
    have e4 : ((1 : Int) = 0) = False := eq_false (by decide)
    subst hin
    simp -implicitDefEqProofs only [cdA, go_sem, Go.Proofs.Tryz.f155, e4, decide_true, reduceIte, reduceCtorEq, Nat.reduceEqDiff, Nat.reduceAdd, Nat.reduceLeDiff, Nat.reduceSub, Nat.reduceMul, Nat.reduceLT, Nat.reduceShiftRight, Nat.reduceMod, Int.reduceLE, Int.reduceLT, Int.reduceToNat, List.cons.injEq, cdB]
    refine ⟨Int.le_refl _, fun h => h.elim, fun _ => ⟨by omega, hq _ _ ?_⟩⟩
    rw [lk_cons, if_neg (by decide), lk_hd]
    simp [Srt.ins]
  · have hlt : i < l.length := by omega
    refine ACall.opn 0 rfl (by rw [rks_length]; omega) fun c hc hcm => ?_
    refine ACall.sld ?_
    rw [rks_length] at hc
    refine ac155 rins_T2_ok (Nat.le_of_ble_eq_true rfl) ?_
    have e1 : IntKind.i64.wrap ((l.length : Int) + 1) = ((l.length + 1 : Nat) : Int) := by rw [i64_in _ (by omega)]; omega
    have e2 : IntKind.i64.wrap ((i : Int) + 1) = ((i + 1 : Nat) : Int) := by rw [i64_in _ (by omega)]; omega
    have e3 : ((i : Int) = (l.length : Int)) = False := eq_false (by omega)
    have e4 : ((1 : Int) = 0) = False := eq_false (by decide)
    have e5 : IntKind.i64.wrap ((l.length : Int) + 1 - (i : Int)) = ((l.length + 1 - i : Nat) : Int) := by rw [i64_in _ (by omega)]; omega
    have e6 : ((l.length : Int) + 1).toNat = l.length + 1 := by omega
    have e7 : ((i : Int) + 1).toNat = i + 1 := by omega
    have e8 : i + (l.length + 1 - i) = l.length + 1 := by omega
    simp -implicitDefEqProofs only [cdA, go_sem, Go.Proofs.Tryz.f155, e3, e4, e1, e2, e5, e6, e7, e8, decide_false, reduceIte, reduceCtorEq, Nat.reduceEqDiff, Nat.reduceAdd, Nat.reduceLeDiff, Nat.reduceSub, Nat.reduceMul, Nat.reduceLT, Nat.reduceShiftRight, Nat.reduceMod, Int.reduceLE, Int.reduceLT, Int.reduceToNat, List.cons.injEq, cdB]
    refine ⟨by omega, fun _ => ⟨fun h1 => ⟨by omega, by omega, fun c1 h2 h3 => ⟨by omega, ?_⟩⟩, fun h1 => ⟨by omega, by omega, ?_, ?_⟩⟩⟩
    · refine ADraw.run us155_11 rins_T2_ok follows_mixed (by kernel_rfl) (by kernel_rfl) ?_
      simp -implicitDefEqProofs only [cdA, go_sem, e1, e2, e5, e6, e7, e8, reduceIte, reduceCtorEq, Nat.reduceEqDiff, Nat.reduceAdd, Nat.reduceLeDiff, Nat.reduceSub, Nat.reduceMul, Nat.reduceLT, Nat.reduceShiftRight, Nat.reduceMod, Int.reduceLE, Int.reduceLT, Int.reduceToNat, List.cons.injEq, cdB]
      refine ⟨by omega, by omega, fun y hy => fit_wide (rins_wide l) y (List.mem_of_mem_take (List.mem_of_mem_drop hy)), ?_⟩
      have := ins_new (sz := 3) (c := c) (c1 := c1) (i := i) (E := rks l) (x := x.enc) (z := [C.int .u64 0, C.int .u64 0, C.bool false]) (by rw [rks_length]; exact hlt) (by rw [rks_length]; exact hc) (by rw [rks_length]; exact h2)
      rw [rks_length] at this
      refine hq _ _ ?_
      rw [lk_hd]
      congr 2
      rw [show rks (List.take (l.length + 1 - i) [x]) = List.take (l.length + 1 - i) [x.enc] by simp [rks], this]
      simp [rks, Srt.ins]
    · exact ⟨_, 44, 4, _, rfl, rfl, rfl, rfl, by kernel_rfl, elOf_44⟩
    · refine ADraw.run us155_15 rins_T2_ok follows_mixed (by kernel_rfl) (by kernel_rfl) ?_
      simp -implicitDefEqProofs only [cdA, go_sem, e1, e2, e5, e6, e7, e8, reduceIte, reduceCtorEq, Nat.reduceEqDiff, Nat.reduceAdd, Nat.reduceLeDiff, Nat.reduceSub, Nat.reduceMul, Nat.reduceLT, Nat.reduceShiftRight, Nat.reduceMod, Int.reduceLE, Int.reduceLT, Int.reduceToNat, List.cons.injEq, cdB]
      refine ⟨by omega, by omega, fun y hy => fit_wide (rins_wide l) y (List.mem_of_mem_take (List.mem_of_mem_drop hy)), by omega, ?_⟩
      have := ins_old (sz := 3) (c := c) (i := i) (E := rks l) (x := x.enc) (by rw [rks_length]; exact hlt) (by rw [rks_length]; omega)
      rw [rks_length] at this
      refine hq _ _ ?_
      rw [lk_hd]
      congr 2
      rw [show rks (List.take (l.length + 1 - i) [x]) = List.take (l.length + 1 - i) [x.enc] by simp [rks], this]
      simp [rks, Srt.ins]

@[go_sem] def radd_r (l : List Rk) (id : Nat) (key : Nat) : D := .tup [.sl (rks (addR l id key).1), .int .i64 (addR l id key).2]
@[go_sem] abbrev n_radd : FuncId := 76
@[go_sem] def radd_T : Tab := [(154, sp_rofind), (139, sp_rotaken), (134, sp_rkclone)]
theorem radd_T_ok : TabOk Tryz.prog radd_T := (TabOk.cons sp_rofind_ok (TabOk.cons sp_rotaken_ok (TabOk.cons sp_rkclone_ok TabOk.nil)))
set_option maxRecDepth 8000 in
set_option maxHeartbeats 1000000 in
theorem radd_ok (l : List Rk) (id : Nat) (key : Nat)  : PureFn Tryz.prog 76 [.sl (rks l), .c (.int .u64 (id : Int)), .c (.int .u64 (key : Int))] (radd_r l id key) := by
  refine .of (ac76 radd_T_ok (Nat.le_of_ble_eq_true rfl) ?_)
  simp -implicitDefEqProofs only [cdA, go_sem, Go.Proofs.Tryz.f76, reduceIte, reduceCtorEq, Nat.reduceEqDiff, Nat.reduceAdd, Nat.reduceLeDiff, Nat.reduceSub, Nat.reduceMul, Nat.reduceLT, Nat.reduceShiftRight, Nat.reduceMod, Int.reduceLE, Int.reduceLT, Int.reduceToNat, List.cons.injEq, cdB]
  have hbad : ∀ e, addE l id key = e → ¬ e = 0 → rks (addR l id key).1 = [] ∧ e = (addR l id key).2 := fun e h1 h2 => by
    rw [addR, if_neg (by rw [h1]; exact h2), h1]; exact ⟨rfl, rfl⟩
  by_cases hok : okRk l
  rotate_left 1
  · have ef : rfind l id = (0, false, 1) := by rw [rfind, if_neg hok]
    rw [ef]
    exact ⟨fun h => absurd (show (1 : Int) = 0 from h) (by decide), fun _ => hbad 1 (by rw [addE, if_pos hok]) (by decide)⟩
  have ef : rfind l id = (Srt.pos Rk.id ltN l id, Srt.thr Rk.id ltN l id, 0) := by rw [rfind, if_pos hok]
  have h256 := hok.1
  rw [ef]
  refine ⟨fun _ => ⟨fun h1 => ⟨fun h2 => hbad 6 (by rw [addE, if_neg (fun h => h hok), if_pos (.inr h2)]) (by decide), fun h2 _ => ⟨fun h3 => hbad 7 ?_ (by decide), fun h3 => ⟨by omega, ?_⟩⟩⟩, fun h1 => hbad 6 (by rw [addE, if_neg (fun h => h hok), if_pos (.inl h1)]) (by decide)⟩, fun h => absurd rfl h⟩
  · dsimp only at h1
    rw [addE, if_neg (fun h => h hok), if_neg (by rintro (h | h); rw [h1] at h; cases h; rw [h2] at h; cases h), if_pos (by omega)]
  dsimp only at h1 ⊢
  have hpos : Srt.pos Rk.id ltN l id ≤ l.length := Srt.pos_le
  refine ACall.grow (mid := [.int .i64 _]) (rins_ok l ⟨id, key, false⟩ (Srt.pos Rk.id ltN l id) hpos (by omega)) rfl rfl (by decide) (by simp [Srt.ins_len]) (fun d hd g g' w v hv => ?_) ?_
  · simp at hd; subst hd
    cases hv with
    | c _ _ h => cases h; exact .c _ _ (.int _ _)
  · simp -implicitDefEqProofs only [cdA, go_sem, reduceIte, reduceCtorEq, Nat.reduceEqDiff, Nat.reduceAdd, Nat.reduceLeDiff, Nat.reduceSub, Nat.reduceMul, Nat.reduceLT, Nat.reduceShiftRight, Nat.reduceMod, Int.reduceLE, Int.reduceLT, Int.reduceToNat, List.cons.injEq, cdB]
    have he : addE l id key = 0 := by rw [addE, if_neg (fun h => h hok), if_neg (by rintro (h | h); rw [h1] at h; cases h; rw [h2] at h; cases h), if_neg (by omega)]
    rw [addR, if_pos he]
    exact ⟨⟨rfl, _, _, _, rfl⟩, rfl⟩
def sp_radd : List D → Option (Prop × D × Fr)
  | [.c (.sl z1), .c (.int .u64 z2), .c (.int .u64 z3)] => some (z1 = rks (drks z1) ∧ z2 = (z2.toNat : Int) ∧ z3 = (z3.toNat : Int), radd_r (drks z1) z2.toNat z3.toNat, [])
  | _ => none
attribute [go_sem] sp_radd
theorem sp_radd_ok : ∀ rs p r fr, sp_radd rs = some (p, r, fr) → p → FnOk Tryz.prog 76 rs r fr := by
  intro rs p r fr h hp
  unfold sp_radd at h
  split at h <;> cases h
  obtain ⟨hc0, hc1, hc2⟩ := hp
  rename_i z1 z2 z3
  obtain ⟨z1, rfl⟩ : ∃ m, z1 = rks m := ⟨_, hc0⟩
  obtain ⟨z2, rfl⟩ : ∃ m : Nat, z2 = m := ⟨_, hc1⟩
  obtain ⟨z3, rfl⟩ : ∃ m : Nat, z3 = m := ⟨_, hc2⟩
  simp only [Int.toNat_natCast, drks_rks]
  exact radd_ok z1 z2 z3
theorem small_of {b : Bk} (hb : chkB b = 0) : smallB b := by
  obtain ⟨h1, h2, h3, h4, h5⟩ := chkB_0.1 hb
  have hk : okKy b.k := by unfold chkK at h4; split at h4; assumption; cases h4
  have hs := chkSp_0 h5
  have hal := h2.1
  have hrl := h3.1
  have hkl := hk.1
  have hsl := hs.1
  refine ⟨small_ok (chkW_0.1 h1), ⟨by omega, fun t ht => ?_⟩, by omega, ⟨by omega, fun k hm => ?_⟩, by omega⟩
  · obtain ⟨j, hj, rfl⟩ := mem_getD.1 ht
    have := (h2.2.2 j (List.mem_range.2 hj)).2.2.2; omega
  · have := hk.2.1 k hm; omega
theorem small_chg {b : Bk} {l : List Rk} {t : Tm} (hb : chkB b = 0) (hl : l.length ≤ 64) (hp : (putA b.a.l t).2.2 = 0) (ht : -1 ≤ t.up ∧ (-1 < t.up → t.key = 0)) : smallB ⟨b.w, ⟨(putA b.a.l t).1⟩, l, b.k, b.s⟩ := by
  have h1 := small_of (chk_put hb hp ht)
  exact ⟨h1.1, h1.2.1, by show l.length ≤ _; omega, h1.2.2.2⟩
theorem chg_bad {b : Bk} {id key : Nat} {l : List Rk × Int} {e : Int} (h : chgB b id key l = (zeroB, ⟨0, [], 0⟩, e)) : (chs (chgB b id key l).1.w.c = [] ∧ wts (chgB b id key l).1.w.w = [] ∧ ivs (chgB b id key l).1.w.i = [] ∧ pys (chgB b id key l).1.w.p = [] ∧ 0 = ((chgB b id key l).1.w.f.next : Int) ∧ evs (chgB b id key l).1.w.f.l = [] ∧ 0 = ((chgB b id key l).1.w.next : Int) ∧ 0 = ((chgB b id key l).1.w.tick : Int) ∧ tms (chgB b id key l).1.a.l = [] ∧ rks (chgB b id key l).1.r = [] ∧ kys (chgB b id key l).1.k = [] ∧ cts (chgB b id key l).1.s = []) ∧ (0 = ((chgB b id key l).2.1.root : Int) ∧ cvs (chgB b id key l).2.1.l = [] ∧ 0 = (chgB b id key l).2.1.tag) ∧ e = (chgB b id key l).2.2 := by
  rw [h]; exact ⟨⟨rfl, rfl, rfl, rfl, rfl, rfl, rfl, rfl, rfl, rfl, rfl, rfl⟩, ⟨rfl, rfl, rfl⟩, rfl⟩
theorem add_len {l : List Rk} {id key : Nat} (h : (addR l id key).2 = 0) : (addR l id key).1.length ≤ 64 := by
  unfold addR at h ⊢
  split at h
  · rename_i h1
    rw [if_pos h1]
    unfold addE at h1
    split at h1
    · cases h1
    rename_i h2
    have := (Classical.not_not.1 h2).1
    split at h1
    · cases h1
    split at h1
    · cases h1
    rename_i h4
    dsimp only
    rw [Srt.ins_len]; omega
  · rename_i h1; exact absurd h h1
theorem turn_len {l : List Rk} {id key : Nat} (h : (turnR l id key).2 = 0) : (turnR l id key).1.length ≤ 64 := by
  unfold turnR at h ⊢
  split at h
  · rename_i h1; exact absurd h h1
  rename_i h1
  have := (rgood_lt (Classical.not_not.1 h1)).1.1
  split at h
  · cases h
  rename_i h2
  rw [if_neg h1, if_neg h2]
  dsimp only
  rw [List.length_set]; exact this
theorem rev_len {l : List Rk} {id : Nat} (h : (revR l id).2 = 0) : (revR l id).1.length ≤ 64 := by
  unfold revR at h ⊢
  split at h
  · rename_i h1; exact absurd h h1
  rename_i h1
  have := (rgood_lt (Classical.not_not.1 h1)).1.1
  rw [if_neg h1]
  dsimp only
  rw [List.length_set]; exact this
@[go_sem] def groot_r (b : Bk) (id : Nat) (key : Nat) : D := .tup [.agg [.sl (chs (chgB b id key (addR b.r id key)).1.w.c), .sl (wts (chgB b id key (addR b.r id key)).1.w.w), .sl (ivs (chgB b id key (addR b.r id key)).1.w.i), .sl (pys (chgB b id key (addR b.r id key)).1.w.p), .int .u64 (chgB b id key (addR b.r id key)).1.w.f.next, .sl (evs (chgB b id key (addR b.r id key)).1.w.f.l), .int .u64 (chgB b id key (addR b.r id key)).1.w.next, .int .u64 (chgB b id key (addR b.r id key)).1.w.tick, .sl (tms (chgB b id key (addR b.r id key)).1.a.l), .sl (rks (chgB b id key (addR b.r id key)).1.r), .sl (kys (chgB b id key (addR b.r id key)).1.k), .sl (cts (chgB b id key (addR b.r id key)).1.s)], .agg [.int .u64 (chgB b id key (addR b.r id key)).2.1.root, .sl (cvs (chgB b id key (addR b.r id key)).2.1.l), .int .i64 (chgB b id key (addR b.r id key)).2.1.tag], .int .i64 (chgB b id key (addR b.r id key)).2.2]
@[go_sem] abbrev n_groot : FuncId := 26
@[go_sem] def groot_T : Tab := [(31, sp_gcheck), (76, sp_radd), (19, sp_tmint), (64, sp_gown)]
theorem groot_T_ok : TabOk Tryz.prog groot_T := (TabOk.cons sp_gcheck_ok (TabOk.cons sp_radd_ok (TabOk.cons sp_tmint_ok (TabOk.cons sp_gown_ok TabOk.nil))))
set_option maxRecDepth 8000 in
set_option maxHeartbeats 1000000 in
theorem groot_ok (b : Bk) (id : Nat) (key : Nat) (h : b.w.f.next ≤ 18446744073709551615) : PureFn Tryz.prog 26 [.agg [.sl (chs b.w.c), .sl (wts b.w.w), .sl (ivs b.w.i), .sl (pys b.w.p), .c (.int .u64 (b.w.f.next : Int)), .sl (evs b.w.f.l), .c (.int .u64 (b.w.next : Int)), .c (.int .u64 (b.w.tick : Int)), .sl (tms b.a.l), .sl (rks b.r), .sl (kys b.k), .sl (cts b.s)], .c (.int .u64 (id : Int)), .c (.int .u64 (key : Int))] (groot_r b id key) := by
  refine .of (ac26 groot_T_ok (Nat.le_of_ble_eq_true rfl) ?_)
  simp -implicitDefEqProofs only [cdA, go_sem, Go.Proofs.Tryz.f26, reduceIte, reduceCtorEq, Nat.reduceEqDiff, Nat.reduceAdd, Nat.reduceLeDiff, Nat.reduceSub, Nat.reduceMul, Nat.reduceLT, Nat.reduceShiftRight, Nat.reduceMod, Int.reduceLE, Int.reduceLT, Int.reduceToNat, List.cons.injEq, cdB]
  refine ac65 groot_T_ok (Nat.le_of_ble_eq_true rfl) ?_
  simp -implicitDefEqProofs only [cdA, go_sem, Go.Proofs.Tryz.f65, reduceIte, reduceCtorEq, Nat.reduceEqDiff, Nat.reduceAdd, Nat.reduceLeDiff, Nat.reduceSub, Nat.reduceMul, Nat.reduceLT, Nat.reduceShiftRight, Nat.reduceMod, Int.reduceLE, Int.reduceLT, Int.reduceToNat, List.cons.injEq, cdB]
  refine ⟨h, fun h1 => ⟨fun h2 => ⟨fun h3 => ?_, fun h3 => ?_⟩, fun h2 => ?_⟩, fun h1 => ?_⟩
  · refine ADraw.run us65_10 groot_T_ok follows_mixed (by kernel_rfl) (by kernel_rfl) ?_
    simp -implicitDefEqProofs only [cdA, go_sem, reduceIte, reduceCtorEq, Nat.reduceEqDiff, Nat.reduceAdd, Nat.reduceLeDiff, Nat.reduceSub, Nat.reduceMul, Nat.reduceLT, Nat.reduceShiftRight, Nat.reduceMod, Int.reduceLE, Int.reduceLT, Int.reduceToNat, List.cons.injEq, cdB]
    refine ADraw.run us65_11 groot_T_ok follows_mixed (by kernel_rfl) (by kernel_rfl) ?_
    simp -implicitDefEqProofs only [cdA, go_sem, reduceIte, reduceCtorEq, Nat.reduceEqDiff, Nat.reduceAdd, Nat.reduceLeDiff, Nat.reduceSub, Nat.reduceMul, Nat.reduceLT, Nat.reduceShiftRight, Nat.reduceMod, Int.reduceLE, Int.reduceLT, Int.reduceToNat, List.cons.injEq, cdB]
    refine ⟨small_chg h1 (add_len h2) h3 ⟨Int.le_refl _, fun h => absurd h (Int.lt_irrefl _)⟩, ?_⟩
    have e : chgB b id key (addR b.r id key) = (⟨b.w, ⟨(putA b.a.l ⟨key, -1, putB [id]⟩).1⟩, (addR b.r id key).1, b.k, b.s⟩, ⟨id, [], (putA b.a.l ⟨key, -1, putB [id]⟩).2.1⟩, 0) := by
      rw [chgB, if_neg (fun h => h h1), if_neg (fun h => h h2), if_neg (fun h => h h3)]
    rw [e, if_pos h3]
    exact ⟨⟨rfl, rfl, rfl, rfl, rfl, rfl, rfl, rfl, rfl, rfl, rfl, rfl⟩, ⟨rfl, rfl, rfl⟩, rfl⟩
  · exact chg_bad (by rw [chgB, if_neg (fun h => h h1), if_neg (fun h => h h2), if_pos h3])
  · exact chg_bad (by rw [chgB, if_neg (fun h => h h1), if_pos h2])
  · exact chg_bad (by rw [chgB, if_pos h1])
@[go_sem] def groot_p (b : Bk) (id : Nat) (key : Nat) : Prop := (b.w.f.next ≤ 18446744073709551615)
def sp_groot : List D → Option (Prop × D × Fr)
  | [.agg [.c (.sl z6), .c (.sl z7), .c (.sl z8), .c (.sl z9), .c (.int .u64 z11), .c (.sl z12), .c (.int .u64 z13), .c (.int .u64 z14), .c (.sl z16), .c (.sl z17), .c (.sl z18), .c (.sl z19)], .c (.int .u64 z20), .c (.int .u64 z21)] => some (z6 = chs (dchs z6) ∧ z7 = wts (dwts z7) ∧ z8 = ivs (divs z8) ∧ z9 = pys (dpys z9) ∧ z11 = (z11.toNat : Int) ∧ z12 = evs (devs z12) ∧ z13 = (z13.toNat : Int) ∧ z14 = (z14.toNat : Int) ∧ z16 = tms (dtms z16) ∧ z17 = rks (drks z17) ∧ z18 = kys (dkys z18) ∧ z19 = cts (dcts z19) ∧ z20 = (z20.toNat : Int) ∧ z21 = (z21.toNat : Int) ∧ groot_p (⟨(⟨(dchs z6), (dwts z7), (divs z8), (dpys z9), (⟨z11.toNat, (devs z12)⟩ : Fd), z13.toNat, z14.toNat⟩ : Wl), (⟨(dtms z16)⟩ : Ar), (drks z17), (dkys z18), (dcts z19)⟩ : Bk) z20.toNat z21.toNat, groot_r (⟨(⟨(dchs z6), (dwts z7), (divs z8), (dpys z9), (⟨z11.toNat, (devs z12)⟩ : Fd), z13.toNat, z14.toNat⟩ : Wl), (⟨(dtms z16)⟩ : Ar), (drks z17), (dkys z18), (dcts z19)⟩ : Bk) z20.toNat z21.toNat, [])
  | _ => none
attribute [go_sem] sp_groot
theorem sp_groot_ok : ∀ rs p r fr, sp_groot rs = some (p, r, fr) → p → FnOk Tryz.prog 26 rs r fr := by
  intro rs p r fr h hp
  unfold sp_groot at h
  split at h <;> cases h
  obtain ⟨hc0, hc1, hc2, hc3, hc4, hc5, hc6, hc7, hc8, hc9, hc10, hc11, hc12, hc13, hp⟩ := hp
  rename_i z6 z7 z8 z9 z11 z12 z13 z14 z16 z17 z18 z19 z20 z21
  obtain ⟨z6, rfl⟩ : ∃ m, z6 = chs m := ⟨_, hc0⟩
  obtain ⟨z7, rfl⟩ : ∃ m, z7 = wts m := ⟨_, hc1⟩
  obtain ⟨z8, rfl⟩ : ∃ m, z8 = ivs m := ⟨_, hc2⟩
  obtain ⟨z9, rfl⟩ : ∃ m, z9 = pys m := ⟨_, hc3⟩
  obtain ⟨z11, rfl⟩ : ∃ m : Nat, z11 = m := ⟨_, hc4⟩
  obtain ⟨z12, rfl⟩ : ∃ m, z12 = evs m := ⟨_, hc5⟩
  obtain ⟨z13, rfl⟩ : ∃ m : Nat, z13 = m := ⟨_, hc6⟩
  obtain ⟨z14, rfl⟩ : ∃ m : Nat, z14 = m := ⟨_, hc7⟩
  obtain ⟨z16, rfl⟩ : ∃ m, z16 = tms m := ⟨_, hc8⟩
  obtain ⟨z17, rfl⟩ : ∃ m, z17 = rks m := ⟨_, hc9⟩
  obtain ⟨z18, rfl⟩ : ∃ m, z18 = kys m := ⟨_, hc10⟩
  obtain ⟨z19, rfl⟩ : ∃ m, z19 = cts m := ⟨_, hc11⟩
  obtain ⟨z20, rfl⟩ : ∃ m : Nat, z20 = m := ⟨_, hc12⟩
  obtain ⟨z21, rfl⟩ : ∃ m : Nat, z21 = m := ⟨_, hc13⟩
  simp only [Int.toNat_natCast, dchs_chs, dcts_cts, devs_evs, divs_ivs, dkys_kys, dpys_pys, drks_rks, dtms_tms, dwts_wts]
  simp only [Int.toNat_natCast, dchs_chs, dcts_cts, devs_evs, divs_ivs, dkys_kys, dpys_pys, drks_rks, dtms_tms, dwts_wts, groot_p] at hp
  exact groot_ok ⟨⟨z6, z7, z8, z9, ⟨z11, z12⟩, z13, z14⟩, ⟨z16⟩, z17, z18, z19⟩ z20 z21 hp
@[go_sem] def gturn_r (b : Bk) (id : Nat) (key : Nat) : D := .tup [.agg [.sl (chs (chgB b id key (turnR b.r id key)).1.w.c), .sl (wts (chgB b id key (turnR b.r id key)).1.w.w), .sl (ivs (chgB b id key (turnR b.r id key)).1.w.i), .sl (pys (chgB b id key (turnR b.r id key)).1.w.p), .int .u64 (chgB b id key (turnR b.r id key)).1.w.f.next, .sl (evs (chgB b id key (turnR b.r id key)).1.w.f.l), .int .u64 (chgB b id key (turnR b.r id key)).1.w.next, .int .u64 (chgB b id key (turnR b.r id key)).1.w.tick, .sl (tms (chgB b id key (turnR b.r id key)).1.a.l), .sl (rks (chgB b id key (turnR b.r id key)).1.r), .sl (kys (chgB b id key (turnR b.r id key)).1.k), .sl (cts (chgB b id key (turnR b.r id key)).1.s)], .agg [.int .u64 (chgB b id key (turnR b.r id key)).2.1.root, .sl (cvs (chgB b id key (turnR b.r id key)).2.1.l), .int .i64 (chgB b id key (turnR b.r id key)).2.1.tag], .int .i64 (chgB b id key (turnR b.r id key)).2.2]
@[go_sem] abbrev n_gturn : FuncId := 22
@[go_sem] def gturn_T : Tab := [(31, sp_gcheck), (66, sp_rturn), (19, sp_tmint), (64, sp_gown)]
theorem gturn_T_ok : TabOk Tryz.prog gturn_T := (TabOk.cons sp_gcheck_ok (TabOk.cons sp_rturn_ok (TabOk.cons sp_tmint_ok (TabOk.cons sp_gown_ok TabOk.nil))))
set_option maxRecDepth 8000 in
set_option maxHeartbeats 1000000 in
theorem gturn_ok (b : Bk) (id : Nat) (key : Nat) (h : b.w.f.next ≤ 18446744073709551615) : PureFn Tryz.prog 22 [.agg [.sl (chs b.w.c), .sl (wts b.w.w), .sl (ivs b.w.i), .sl (pys b.w.p), .c (.int .u64 (b.w.f.next : Int)), .sl (evs b.w.f.l), .c (.int .u64 (b.w.next : Int)), .c (.int .u64 (b.w.tick : Int)), .sl (tms b.a.l), .sl (rks b.r), .sl (kys b.k), .sl (cts b.s)], .c (.int .u64 (id : Int)), .c (.int .u64 (key : Int))] (gturn_r b id key) := by
  refine .of (ac22 gturn_T_ok (Nat.le_of_ble_eq_true rfl) ?_)
  simp -implicitDefEqProofs only [cdA, go_sem, Go.Proofs.Tryz.f22, reduceIte, reduceCtorEq, Nat.reduceEqDiff, Nat.reduceAdd, Nat.reduceLeDiff, Nat.reduceSub, Nat.reduceMul, Nat.reduceLT, Nat.reduceShiftRight, Nat.reduceMod, Int.reduceLE, Int.reduceLT, Int.reduceToNat, List.cons.injEq, cdB]
  refine ac65 gturn_T_ok (Nat.le_of_ble_eq_true rfl) ?_
  simp -implicitDefEqProofs only [cdA, go_sem, Go.Proofs.Tryz.f65, reduceIte, reduceCtorEq, Nat.reduceEqDiff, Nat.reduceAdd, Nat.reduceLeDiff, Nat.reduceSub, Nat.reduceMul, Nat.reduceLT, Nat.reduceShiftRight, Nat.reduceMod, Int.reduceLE, Int.reduceLT, Int.reduceToNat, List.cons.injEq, cdB]
  refine ⟨h, fun h1 => ⟨fun h2 => ⟨fun h3 => ?_, fun h3 => ?_⟩, fun h2 => ?_⟩, fun h1 => ?_⟩
  · refine ADraw.run us65_10 gturn_T_ok follows_mixed (by kernel_rfl) (by kernel_rfl) ?_
    simp -implicitDefEqProofs only [cdA, go_sem, reduceIte, reduceCtorEq, Nat.reduceEqDiff, Nat.reduceAdd, Nat.reduceLeDiff, Nat.reduceSub, Nat.reduceMul, Nat.reduceLT, Nat.reduceShiftRight, Nat.reduceMod, Int.reduceLE, Int.reduceLT, Int.reduceToNat, List.cons.injEq, cdB]
    refine ADraw.run us65_11 gturn_T_ok follows_mixed (by kernel_rfl) (by kernel_rfl) ?_
    simp -implicitDefEqProofs only [cdA, go_sem, reduceIte, reduceCtorEq, Nat.reduceEqDiff, Nat.reduceAdd, Nat.reduceLeDiff, Nat.reduceSub, Nat.reduceMul, Nat.reduceLT, Nat.reduceShiftRight, Nat.reduceMod, Int.reduceLE, Int.reduceLT, Int.reduceToNat, List.cons.injEq, cdB]
    refine ⟨small_chg h1 (turn_len h2) h3 ⟨Int.le_refl _, fun h => absurd h (Int.lt_irrefl _)⟩, ?_⟩
    have e : chgB b id key (turnR b.r id key) = (⟨b.w, ⟨(putA b.a.l ⟨key, -1, putB [id]⟩).1⟩, (turnR b.r id key).1, b.k, b.s⟩, ⟨id, [], (putA b.a.l ⟨key, -1, putB [id]⟩).2.1⟩, 0) := by
      rw [chgB, if_neg (fun h => h h1), if_neg (fun h => h h2), if_neg (fun h => h h3)]
    rw [e, if_pos h3]
    exact ⟨⟨rfl, rfl, rfl, rfl, rfl, rfl, rfl, rfl, rfl, rfl, rfl, rfl⟩, ⟨rfl, rfl, rfl⟩, rfl⟩
  · exact chg_bad (by rw [chgB, if_neg (fun h => h h1), if_neg (fun h => h h2), if_pos h3])
  · exact chg_bad (by rw [chgB, if_neg (fun h => h h1), if_pos h2])
  · exact chg_bad (by rw [chgB, if_pos h1])
@[go_sem] def gturn_p (b : Bk) (id : Nat) (key : Nat) : Prop := (b.w.f.next ≤ 18446744073709551615)
def sp_gturn : List D → Option (Prop × D × Fr)
  | [.agg [.c (.sl z24), .c (.sl z25), .c (.sl z26), .c (.sl z27), .c (.int .u64 z29), .c (.sl z30), .c (.int .u64 z31), .c (.int .u64 z32), .c (.sl z34), .c (.sl z35), .c (.sl z36), .c (.sl z37)], .c (.int .u64 z38), .c (.int .u64 z39)] => some (z24 = chs (dchs z24) ∧ z25 = wts (dwts z25) ∧ z26 = ivs (divs z26) ∧ z27 = pys (dpys z27) ∧ z29 = (z29.toNat : Int) ∧ z30 = evs (devs z30) ∧ z31 = (z31.toNat : Int) ∧ z32 = (z32.toNat : Int) ∧ z34 = tms (dtms z34) ∧ z35 = rks (drks z35) ∧ z36 = kys (dkys z36) ∧ z37 = cts (dcts z37) ∧ z38 = (z38.toNat : Int) ∧ z39 = (z39.toNat : Int) ∧ gturn_p (⟨(⟨(dchs z24), (dwts z25), (divs z26), (dpys z27), (⟨z29.toNat, (devs z30)⟩ : Fd), z31.toNat, z32.toNat⟩ : Wl), (⟨(dtms z34)⟩ : Ar), (drks z35), (dkys z36), (dcts z37)⟩ : Bk) z38.toNat z39.toNat, gturn_r (⟨(⟨(dchs z24), (dwts z25), (divs z26), (dpys z27), (⟨z29.toNat, (devs z30)⟩ : Fd), z31.toNat, z32.toNat⟩ : Wl), (⟨(dtms z34)⟩ : Ar), (drks z35), (dkys z36), (dcts z37)⟩ : Bk) z38.toNat z39.toNat, [])
  | _ => none
attribute [go_sem] sp_gturn
theorem sp_gturn_ok : ∀ rs p r fr, sp_gturn rs = some (p, r, fr) → p → FnOk Tryz.prog 22 rs r fr := by
  intro rs p r fr h hp
  unfold sp_gturn at h
  split at h <;> cases h
  obtain ⟨hc0, hc1, hc2, hc3, hc4, hc5, hc6, hc7, hc8, hc9, hc10, hc11, hc12, hc13, hp⟩ := hp
  rename_i z24 z25 z26 z27 z29 z30 z31 z32 z34 z35 z36 z37 z38 z39
  obtain ⟨z24, rfl⟩ : ∃ m, z24 = chs m := ⟨_, hc0⟩
  obtain ⟨z25, rfl⟩ : ∃ m, z25 = wts m := ⟨_, hc1⟩
  obtain ⟨z26, rfl⟩ : ∃ m, z26 = ivs m := ⟨_, hc2⟩
  obtain ⟨z27, rfl⟩ : ∃ m, z27 = pys m := ⟨_, hc3⟩
  obtain ⟨z29, rfl⟩ : ∃ m : Nat, z29 = m := ⟨_, hc4⟩
  obtain ⟨z30, rfl⟩ : ∃ m, z30 = evs m := ⟨_, hc5⟩
  obtain ⟨z31, rfl⟩ : ∃ m : Nat, z31 = m := ⟨_, hc6⟩
  obtain ⟨z32, rfl⟩ : ∃ m : Nat, z32 = m := ⟨_, hc7⟩
  obtain ⟨z34, rfl⟩ : ∃ m, z34 = tms m := ⟨_, hc8⟩
  obtain ⟨z35, rfl⟩ : ∃ m, z35 = rks m := ⟨_, hc9⟩
  obtain ⟨z36, rfl⟩ : ∃ m, z36 = kys m := ⟨_, hc10⟩
  obtain ⟨z37, rfl⟩ : ∃ m, z37 = cts m := ⟨_, hc11⟩
  obtain ⟨z38, rfl⟩ : ∃ m : Nat, z38 = m := ⟨_, hc12⟩
  obtain ⟨z39, rfl⟩ : ∃ m : Nat, z39 = m := ⟨_, hc13⟩
  simp only [Int.toNat_natCast, dchs_chs, dcts_cts, devs_evs, divs_ivs, dkys_kys, dpys_pys, drks_rks, dtms_tms, dwts_wts]
  simp only [Int.toNat_natCast, dchs_chs, dcts_cts, devs_evs, divs_ivs, dkys_kys, dpys_pys, drks_rks, dtms_tms, dwts_wts, gturn_p] at hp
  exact gturn_ok ⟨⟨z24, z25, z26, z27, ⟨z29, z30⟩, z31, z32⟩, ⟨z34⟩, z35, z36, z37⟩ z38 z39 hp
@[go_sem] def grev_r (b : Bk) (id : Nat) : D := .tup [.agg [.sl (chs (revB b id).1.w.c), .sl (wts (revB b id).1.w.w), .sl (ivs (revB b id).1.w.i), .sl (pys (revB b id).1.w.p), .int .u64 (revB b id).1.w.f.next, .sl (evs (revB b id).1.w.f.l), .int .u64 (revB b id).1.w.next, .int .u64 (revB b id).1.w.tick, .sl (tms (revB b id).1.a.l), .sl (rks (revB b id).1.r), .sl (kys (revB b id).1.k), .sl (cts (revB b id).1.s)], .int .i64 (revB b id).2]
@[go_sem] abbrev n_grev : FuncId := 21
@[go_sem] def grev_T : Tab := [(31, sp_gcheck), (63, sp_rrev), (64, sp_gown)]
theorem grev_T_ok : TabOk Tryz.prog grev_T := (TabOk.cons sp_gcheck_ok (TabOk.cons sp_rrev_ok (TabOk.cons sp_gown_ok TabOk.nil)))
set_option maxRecDepth 8000 in
set_option maxHeartbeats 1000000 in
theorem grev_ok (b : Bk) (id : Nat) (h : b.w.f.next ≤ 18446744073709551615) : PureFn Tryz.prog 21 [.agg [.sl (chs b.w.c), .sl (wts b.w.w), .sl (ivs b.w.i), .sl (pys b.w.p), .c (.int .u64 (b.w.f.next : Int)), .sl (evs b.w.f.l), .c (.int .u64 (b.w.next : Int)), .c (.int .u64 (b.w.tick : Int)), .sl (tms b.a.l), .sl (rks b.r), .sl (kys b.k), .sl (cts b.s)], .c (.int .u64 (id : Int))] (grev_r b id) := by
  refine .of (ac21 grev_T_ok (Nat.le_of_ble_eq_true rfl) ?_)
  simp -implicitDefEqProofs only [cdA, go_sem, Go.Proofs.Tryz.f21, reduceIte, reduceCtorEq, Nat.reduceEqDiff, Nat.reduceAdd, Nat.reduceLeDiff, Nat.reduceSub, Nat.reduceMul, Nat.reduceLT, Nat.reduceShiftRight, Nat.reduceMod, Int.reduceLE, Int.reduceLT, Int.reduceToNat, List.cons.injEq, cdB]
  have hbad : ∀ e : Int, revB b id = (zeroB, e) → (chs (revB b id).1.w.c = [] ∧ wts (revB b id).1.w.w = [] ∧ ivs (revB b id).1.w.i = [] ∧ pys (revB b id).1.w.p = [] ∧ 0 = ((revB b id).1.w.f.next : Int) ∧ evs (revB b id).1.w.f.l = [] ∧ 0 = ((revB b id).1.w.next : Int) ∧ 0 = ((revB b id).1.w.tick : Int) ∧ tms (revB b id).1.a.l = [] ∧ rks (revB b id).1.r = [] ∧ kys (revB b id).1.k = [] ∧ cts (revB b id).1.s = []) ∧ e = (revB b id).2 := fun e h => by
    rw [h]; exact ⟨⟨rfl, rfl, rfl, rfl, rfl, rfl, rfl, rfl, rfl, rfl, rfl, rfl⟩, rfl⟩
  refine ⟨h, fun h1 => ⟨fun h2 => ?_, fun h2 => hbad _ (by rw [revB, if_neg (fun h => h h1), if_pos h2])⟩, fun h1 => hbad _ (by rw [revB, if_pos h1])⟩
  have h3 := small_of h1
  refine ⟨⟨h3.1, h3.2.1, by show (revR b.r id).1.length ≤ _; have := rev_len h2; omega, h3.2.2.2⟩, ?_⟩
  have e : revB b id = (⟨b.w, b.a, (revR b.r id).1, b.k, b.s⟩, 0) := by rw [revB, if_neg (fun h => h h1), if_neg (fun h => h h2)]
  rw [e]
  exact ⟨⟨rfl, rfl, rfl, rfl, rfl, rfl, rfl, rfl, rfl, rfl, rfl, rfl⟩, rfl⟩
@[go_sem] def grev_p (b : Bk) (id : Nat) : Prop := (b.w.f.next ≤ 18446744073709551615)
def sp_grev : List D → Option (Prop × D × Fr)
  | [.agg [.c (.sl z42), .c (.sl z43), .c (.sl z44), .c (.sl z45), .c (.int .u64 z47), .c (.sl z48), .c (.int .u64 z49), .c (.int .u64 z50), .c (.sl z52), .c (.sl z53), .c (.sl z54), .c (.sl z55)], .c (.int .u64 z56)] => some (z42 = chs (dchs z42) ∧ z43 = wts (dwts z43) ∧ z44 = ivs (divs z44) ∧ z45 = pys (dpys z45) ∧ z47 = (z47.toNat : Int) ∧ z48 = evs (devs z48) ∧ z49 = (z49.toNat : Int) ∧ z50 = (z50.toNat : Int) ∧ z52 = tms (dtms z52) ∧ z53 = rks (drks z53) ∧ z54 = kys (dkys z54) ∧ z55 = cts (dcts z55) ∧ z56 = (z56.toNat : Int) ∧ grev_p (⟨(⟨(dchs z42), (dwts z43), (divs z44), (dpys z45), (⟨z47.toNat, (devs z48)⟩ : Fd), z49.toNat, z50.toNat⟩ : Wl), (⟨(dtms z52)⟩ : Ar), (drks z53), (dkys z54), (dcts z55)⟩ : Bk) z56.toNat, grev_r (⟨(⟨(dchs z42), (dwts z43), (divs z44), (dpys z45), (⟨z47.toNat, (devs z48)⟩ : Fd), z49.toNat, z50.toNat⟩ : Wl), (⟨(dtms z52)⟩ : Ar), (drks z53), (dkys z54), (dcts z55)⟩ : Bk) z56.toNat, [])
  | _ => none
attribute [go_sem] sp_grev
theorem sp_grev_ok : ∀ rs p r fr, sp_grev rs = some (p, r, fr) → p → FnOk Tryz.prog 21 rs r fr := by
  intro rs p r fr h hp
  unfold sp_grev at h
  split at h <;> cases h
  obtain ⟨hc0, hc1, hc2, hc3, hc4, hc5, hc6, hc7, hc8, hc9, hc10, hc11, hc12, hp⟩ := hp
  rename_i z42 z43 z44 z45 z47 z48 z49 z50 z52 z53 z54 z55 z56
  obtain ⟨z42, rfl⟩ : ∃ m, z42 = chs m := ⟨_, hc0⟩
  obtain ⟨z43, rfl⟩ : ∃ m, z43 = wts m := ⟨_, hc1⟩
  obtain ⟨z44, rfl⟩ : ∃ m, z44 = ivs m := ⟨_, hc2⟩
  obtain ⟨z45, rfl⟩ : ∃ m, z45 = pys m := ⟨_, hc3⟩
  obtain ⟨z47, rfl⟩ : ∃ m : Nat, z47 = m := ⟨_, hc4⟩
  obtain ⟨z48, rfl⟩ : ∃ m, z48 = evs m := ⟨_, hc5⟩
  obtain ⟨z49, rfl⟩ : ∃ m : Nat, z49 = m := ⟨_, hc6⟩
  obtain ⟨z50, rfl⟩ : ∃ m : Nat, z50 = m := ⟨_, hc7⟩
  obtain ⟨z52, rfl⟩ : ∃ m, z52 = tms m := ⟨_, hc8⟩
  obtain ⟨z53, rfl⟩ : ∃ m, z53 = rks m := ⟨_, hc9⟩
  obtain ⟨z54, rfl⟩ : ∃ m, z54 = kys m := ⟨_, hc10⟩
  obtain ⟨z55, rfl⟩ : ∃ m, z55 = cts m := ⟨_, hc11⟩
  obtain ⟨z56, rfl⟩ : ∃ m : Nat, z56 = m := ⟨_, hc12⟩
  simp only [Int.toNat_natCast, dchs_chs, dcts_cts, devs_evs, divs_ivs, dkys_kys, dpys_pys, drks_rks, dtms_tms, dwts_wts]
  simp only [Int.toNat_natCast, dchs_chs, dcts_cts, devs_evs, divs_ivs, dkys_kys, dpys_pys, drks_rks, dtms_tms, dwts_wts, grev_p] at hp
  exact grev_ok ⟨⟨z42, z43, z44, z45, ⟨z47, z48⟩, z49, z50⟩, ⟨z52⟩, z53, z54, z55⟩ z56 hp
end Dm
namespace Dm
open Go Go.Proofs Go.IntWalk
def bank0 : Bk := ⟨⟨[], [], [], [], ⟨1, []⟩, 1, 0⟩, ⟨[]⟩, [], [], []⟩
def newP (keys : List Nat) : Nat → Bk × List Tk × Int
  | 0 => (bank0, [], 0)
  | n + 1 => if (newP keys n).2.2 ≠ 0 then newP keys n else
    if (chgB (newP keys n).1 (n + 1) (keys.getD n default) (addR (newP keys n).1.r (n + 1) (keys.getD n default))).2.2 = 0 then
      ((chgB (newP keys n).1 (n + 1) (keys.getD n default) (addR (newP keys n).1.r (n + 1) (keys.getD n default))).1, (newP keys n).2.1 ++ [(chgB (newP keys n).1 (n + 1) (keys.getD n default) (addR (newP keys n).1.r (n + 1) (keys.getD n default))).2.1], 0)
    else (zeroB, [], (chgB (newP keys n).1 (n + 1) (keys.getD n default) (addR (newP keys n).1.r (n + 1) (keys.getD n default))).2.2)
theorem newP_len {keys : List Nat} : ∀ {n : Nat}, (newP keys n).2.2 = 0 → (newP keys n).2.1.length = n
  | 0, _ => rfl
  | n + 1, h => by
    rw [newP] at h ⊢
    split at h
    · rename_i h1; exact absurd h h1
    rename_i h1
    rw [if_neg h1]
    split at h
    · rename_i h2
      rw [if_pos h2]
      dsimp only
      rw [List.length_append, newP_len (Classical.not_not.1 h1)]; rfl
    · rename_i h2; exact absurd h h2
theorem newP_stay {keys : List Nat} {n : Nat} (h : ¬ (newP keys n).2.2 = 0) : ∀ {m : Nat}, n ≤ m → newP keys m = newP keys n
  | 0, hm => by rw [show n = 0 by omega]
  | m + 1, hm => by
    by_cases e : n = m + 1
    · rw [e]
    · have ih := newP_stay h (m := m) (by omega)
      rw [newP, if_pos (by rw [ih]; exact h), ih]
theorem chg_w {b : Bk} {id key : Nat} {l : List Rk × Int} (h : (chgB b id key l).2.2 = 0) : (chgB b id key l).1.w = b.w := by
  unfold chgB at h ⊢
  split at h
  · rename_i h1; exact absurd h h1
  split at h
  · rename_i h1; exact absurd h h1
  split at h
  · rename_i h1; exact absurd h h1
  rename_i h1 h2 h3
  rw [if_neg h1, if_neg h2, if_neg h3]
def newG (keys : List Nat) : Bk × List Tk × Int := newP keys keys.length
@[go_sem] def gnew_r (keys : List Nat) : D := .tup [.agg [.sl (chs (newG keys).1.w.c), .sl (wts (newG keys).1.w.w), .sl (ivs (newG keys).1.w.i), .sl (pys (newG keys).1.w.p), .int .u64 (newG keys).1.w.f.next, .sl (evs (newG keys).1.w.f.l), .int .u64 (newG keys).1.w.next, .int .u64 (newG keys).1.w.tick, .sl (tms (newG keys).1.a.l), .sl (rks (newG keys).1.r), .sl (kys (newG keys).1.k), .sl (cts (newG keys).1.s)], .sl (tks (newG keys).2.1), .int .i64 (newG keys).2.2]
@[go_sem] abbrev n_gnew : FuncId := 10
@[go_sem] def gnew_T : Tab := [(35, sp_wnew), (26, sp_groot)]
theorem gnew_T_ok : TabOk Tryz.prog gnew_T := (TabOk.cons sp_wnew_ok (TabOk.cons sp_groot_ok TabOk.nil))
set_option maxRecDepth 8000 in
set_option maxHeartbeats 1000000 in
theorem gnew_ok (keys : List Nat) (hl : keys.length ≤ 1000000) : PureFn Tryz.prog 10 [.sl (u64s keys)] (gnew_r keys) := by
  refine .of (ac10 gnew_T_ok (Nat.le_of_ble_eq_true rfl) ?_)
  simp -implicitDefEqProofs only [cdA, go_sem, Go.Proofs.Tryz.f10, reduceIte, reduceCtorEq, Nat.reduceEqDiff, Nat.reduceAdd, Nat.reduceLeDiff, Nat.reduceSub, Nat.reduceMul, Nat.reduceLT, Nat.reduceShiftRight, Nat.reduceMod, Int.reduceLE, Int.reduceLT, Int.reduceToNat, List.cons.injEq, cdB]
  refine ADraw.run us10_1 gnew_T_ok follows_mixed (by kernel_rfl) (by kernel_rfl) ?_
  simp -implicitDefEqProofs only [cdA, go_sem, reduceIte, reduceCtorEq, Nat.reduceEqDiff, Nat.reduceAdd, Nat.reduceLeDiff, Nat.reduceSub, Nat.reduceMul, Nat.reduceLT, Nat.reduceShiftRight, Nat.reduceMod, Int.reduceLE, Int.reduceLT, Int.reduceToNat, List.cons.injEq, cdB]
  refine ⟨⟨Int.le_refl _, by omega⟩, fun _ => ?_⟩
  refine SWp.nilbox 2 rfl ?_
  refine SWp.loop (ι := { i : Nat // i ≤ keys.length ∧ (newP keys i).2.2 = 0 ∧ (newP keys i).1.w.f.next ≤ 18446744073709551615 }) (fun i => ⟨[(2, .ref 0 0), (5, .ref 2 0), (6, .vec 1 keys.length), (17, .sl (u64s keys)), (18, .int .i64 keys.length), (19, .int .i64 i.1)], [(1, .vec true 3 26 (tks ((newP keys i.1).2.1 ++ List.replicate (keys.length - i.1) ⟨0, [], 0⟩))), (2, .box [.sl (chs (newP keys i.1).1.w.c), .sl (wts (newP keys i.1).1.w.w), .sl (ivs (newP keys i.1).1.w.i), .sl (pys (newP keys i.1).1.w.p), .c (.int .u64 (newP keys i.1).1.w.f.next), .sl (evs (newP keys i.1).1.w.f.l), .c (.int .u64 (newP keys i.1).1.w.next), .c (.int .u64 (newP keys i.1).1.w.tick), .sl (tms (newP keys i.1).1.a.l), .sl (rks (newP keys i.1).1.r), .sl (kys (newP keys i.1).1.k), .sl (cts (newP keys i.1).1.s)]), (0, .box [.nil, .nil, .nil, .nil, .c (.int .u64 0), .nil, .c (.int .u64 0), .c (.int .u64 0), .nil, .nil, .nil, .nil])], 3⟩) (fun i => keys.length - i.1) ⟨0, Nat.zero_le _, rfl, by show (1 : Nat) ≤ _; decide⟩ ?_ ?_
  · simp [go_sem, slD, newP, bank0, tks]
    exact ⟨.inr rfl, rfl, rfl, rfl, rfl⟩
  · rintro ⟨i, hi, he, hf⟩
    have e1 : i < keys.length → IntKind.u64.wrap (IntKind.u64.wrap (i : Int) + 1) = ((i + 1 : Nat) : Int) := fun h => by rw [u64_in (i : Int) (by omega), u64_in _ (by omega)]; omega
    by_cases hlt : i < keys.length
    rotate_left 1
    · have hie : i = keys.length := by omega
      subst hie
      have hb : ((keys.length : Int) < (keys.length : Int)) = False := eq_false (by omega)
      refine awp_sound gnew_T_ok.toS lv10 _ _ _ rfl ?_
      simp -implicitDefEqProofs only [cdA, go_sem, hb, cdN, reduceIte, reduceCtorEq, Nat.reduceEqDiff, Nat.reduceAdd, Nat.reduceLeDiff, Nat.reduceSub, Nat.reduceMul, Nat.reduceLT, Nat.reduceShiftRight, Nat.reduceMod, Int.reduceLE, Int.reduceLT, Int.reduceToNat, List.cons.injEq, cdB]
      exact ⟨⟨rfl, rfl, rfl, rfl, rfl, rfl, rfl, rfl, rfl, rfl, rfl, rfl⟩, ⟨(newP_len he).symm, _, _, _, by rw [Nat.sub_self, List.replicate_zero, List.append_nil]; rfl⟩, he.symm⟩
    have e2 := e1 hlt
    have hb : ((i : Int) < (keys.length : Int)) = True := eq_true (by omega)
    have e3 : ((i : Int) + 1).toNat = i + 1 := by omega
    have e4 : ((i : Int) + 1 = ((i + 1 : Nat) : Int)) = True := eq_true (by omega)
    refine awp_sound gnew_T_ok.toS lv10 _ _ _ rfl ?_
    simp -implicitDefEqProofs only [cdA, go_sem, e2, e3, e4, hb, Int.toNat_natCast, cdN, reduceIte, reduceCtorEq, Nat.reduceEqDiff, Nat.reduceAdd, Nat.reduceLeDiff, Nat.reduceSub, Nat.reduceMul, Nat.reduceLT, Nat.reduceShiftRight, Nat.reduceMod, Int.reduceLE, Int.reduceLT, Int.reduceToNat, List.cons.injEq, cdB]
    generalize hc : chgB (newP keys i).1 (i + 1) (keys.getD i default) (addR (newP keys i).1.r (i + 1) (keys.getD i default)) = c at *
    refine ⟨hf, fun hc0 => ?_, fun hc0 => ?_⟩
    · have e5 : newP keys (i + 1) = (c.1, (newP keys i).2.1 ++ [c.2.1], 0) := by rw [newP, if_neg (fun h => h he), hc, if_pos hc0]
      have hw : c.1.w = (newP keys i).1.w := by rw [← hc] at hc0 ⊢; exact chg_w hc0
      have hlen := newP_len he
      refine ADraw.run us10_8 gnew_T_ok follows_mixed (by kernel_rfl) (by kernel_rfl) ?_
      simp -implicitDefEqProofs only [cdA, go_sem, reduceIte, reduceCtorEq, Nat.reduceEqDiff, Nat.reduceAdd, Nat.reduceLeDiff, Nat.reduceSub, Nat.reduceMul, Nat.reduceLT, Nat.reduceShiftRight, Nat.reduceMod, Int.reduceLE, Int.reduceLT, Int.reduceToNat, List.cons.injEq, cdB]
      refine ⟨by omega, ⟨by rw [hlen, List.length_replicate]; omega, hlt⟩, ⟨i + 1, hlt, by rw [e5], by rw [e5, hw]; exact hf⟩, by dsimp only; omega, i64_in _ (by omega), ?_⟩
      dsimp only
      rw [e5]
      refine ⟨?_, rfl, rfl, rfl, rfl, rfl, rfl, rfl, rfl, rfl, rfl, rfl, rfl⟩
      congr 2
      obtain ⟨k, hk⟩ : ∃ k, keys.length - i = k + 1 := ⟨keys.length - i - 1, by omega⟩
      rw [hk, show keys.length - (i + 1) = k by omega, List.set_append_right _ _ (by omega), hlen, Nat.sub_self, List.replicate_succ, List.set_cons_zero, List.append_assoc]; rfl
    · have e5 : newP keys (i + 1) = (zeroB, [], c.2.2) := by rw [newP, if_neg (fun h => h he), hc, if_neg hc0]
      have e6 : newG keys = (zeroB, [], c.2.2) := by
        rw [newG, newP_stay (n := i + 1) (by rw [e5]; exact hc0) hlt, e5]
      rw [e6]
      exact ⟨⟨rfl, rfl, rfl, rfl, rfl, rfl, rfl, rfl, rfl, rfl, rfl, rfl⟩, rfl, rfl⟩
@[go_sem] def gnew_p (keys : List Nat) : Prop := (keys.length ≤ 1000000)
def sp_gnew : List D → Option (Prop × D × Fr)
  | [.c (.sl z1)] => some (z1 = u64s (du64s z1) ∧ gnew_p (du64s z1), gnew_r (du64s z1), [])
  | _ => none
attribute [go_sem] sp_gnew
theorem sp_gnew_ok : ∀ rs p r fr, sp_gnew rs = some (p, r, fr) → p → FnOk Tryz.prog 10 rs r fr := by
  intro rs p r fr h hp
  unfold sp_gnew at h
  split at h <;> cases h
  obtain ⟨hc0, hp⟩ := hp
  rename_i z1
  obtain ⟨z1, rfl⟩ : ∃ m, z1 = u64s m := ⟨_, hc0⟩
  simp only [du64s_u64s]
  simp only [du64s_u64s, gnew_p] at hp
  exact gnew_ok z1 hp
end Dm
namespace Dm
open Go Go.Proofs Go.IntWalk
theorem liv1 : newG [9] = (⟨⟨[], [], [], [], ⟨1, []⟩, 1, 0⟩, ⟨[⟨9, -1, [1]⟩]⟩, [⟨1, 9, false⟩], [], []⟩, [⟨1, [], 0⟩], 0) := by kernel_rfl
theorem liv2 : bindA [⟨9, -1, [1]⟩] ⟨1, [], 0⟩ ⟨1, 0, 0⟩ = ([⟨9, -1, [1]⟩, ⟨0, 0, [1, 0]⟩], ⟨1, [⟨1, 0, 0⟩], 1⟩, 0) := by kernel_rfl
theorem liv3 : wlaW ⟨[], [], [], [], ⟨1, []⟩, 1, 0⟩ 1 = (⟨[], [], [], [], ⟨1, []⟩, 1, 1⟩, 0) := by kernel_rfl
theorem liv4 : mayG ⟨⟨[], [], [], [], ⟨1, []⟩, 1, 0⟩, ⟨[⟨9, -1, [1]⟩, ⟨0, 0, [1, 0]⟩]⟩, [⟨1, 9, false⟩], [], []⟩ ⟨0, 7, 0, ⟨1, [⟨1, 0, 0⟩], 1⟩, 0, 0, 0, [], []⟩ 0 = (true, 0) := by kernel_rfl
theorem liv5 : mayG ⟨⟨[], [], [], [], ⟨1, []⟩, 1, 1⟩, ⟨[⟨9, -1, [1]⟩, ⟨0, 0, [1, 0]⟩]⟩, [⟨1, 9, false⟩], [], []⟩ ⟨0, 7, 0, ⟨1, [⟨1, 0, 0⟩], 1⟩, 0, 0, 0, [], []⟩ 0 = (false, 0) := by kernel_rfl
@[go_sem] def glive_r  : D := .bool true
@[go_sem] abbrev n_glive : FuncId := 8
@[go_sem] def glive_T : Tab := [(10, sp_gnew), (16, sp_tbind), (14, sp_gmay), (34, sp_wlater)]
theorem glive_T_ok : TabOk Tryz.prog glive_T := (TabOk.cons sp_gnew_ok (TabOk.cons sp_tbind_ok (TabOk.cons sp_gmay_ok (TabOk.cons sp_wlater_ok TabOk.nil))))
set_option maxRecDepth 8000 in
set_option maxHeartbeats 1000000 in
theorem glive_ok   : PureFn Tryz.prog 8 [] (glive_r ) := by
  refine .of (ac8 glive_T_ok (Nat.le_of_ble_eq_true rfl) ?_)
  simp -implicitDefEqProofs only [cdA, go_sem, Go.Proofs.Tryz.f8, reduceIte, reduceCtorEq, Nat.reduceEqDiff, Nat.reduceAdd, Nat.reduceLeDiff, Nat.reduceSub, Nat.reduceMul, Nat.reduceLT, Nat.reduceShiftRight, Nat.reduceMod, Int.reduceLE, Int.reduceLT, Int.reduceToNat, List.cons.injEq, cdB]
  rw [liv1]
  refine ⟨fun _ _ => ⟨fun _ => ?_, fun h => h rfl⟩, fun h => h rfl⟩
  refine ADraw.run us8_4 glive_T_ok follows_mixed (by kernel_rfl) (by kernel_rfl) ?_
  simp -implicitDefEqProofs only [cdA, go_sem, liv2, reduceIte, reduceCtorEq, Nat.reduceEqDiff, Nat.reduceAdd, Nat.reduceLeDiff, Nat.reduceSub, Nat.reduceMul, Nat.reduceLT, Nat.reduceShiftRight, Nat.reduceMod, Int.reduceLE, Int.reduceLT, Int.reduceToNat, List.cons.injEq, cdB]
  simp only [show ([⟨1, [], 0⟩] : List Tk).getD 0 default = ⟨1, [], 0⟩ from rfl, show dits [] = [] from rfl, show dcvs [] = [] from rfl, liv2, liv3, liv4, liv5]
  exact ⟨⟨rfl, rfl⟩, ⟨rfl, rfl, by decide⟩, fun _ => ⟨fun _ => ⟨fun _ => ⟨fun _ => ⟨fun _ => rfl, fun h => Bool.noConfusion h⟩, fun h => h trivial⟩, fun h => h trivial⟩, fun h => h trivial⟩, fun h => h trivial⟩
def sp_glive : List D → Option (Prop × D × Fr)
  | [] => some (True, glive_r , [])
  | _ => none
attribute [go_sem] sp_glive
theorem sp_glive_ok : ∀ rs p r fr, sp_glive rs = some (p, r, fr) → p → FnOk Tryz.prog 8 rs r fr := by
  intro rs p r fr h hp
  unfold sp_glive at h
  split at h <;> cases h
  exact glive_ok 
end Dm
namespace Dm
open Go Go.Proofs Go.IntWalk
@[go_sem] def few17_r (w : Wl) : D := .bool (decide (((∀ c ∈ w.c, c.holds.length ≤ 20) ∧ w.c.length ≤ 34) ∧ w.w.length ≤ 40 ∧ w.i.length ≤ 40 ∧ (w.p.length ≤ 40 ∨ 256 ≤ w.p.length ∧ w.p.length ≤ 258) ∧ w.f.l.length ≤ 70))
@[go_sem] abbrev n_few17 : FuncId := 49
@[go_sem] def few17_T : Tab := [(115, sp_few)]
theorem few17_T_ok : TabOk Tryz.prog few17_T := (TabOk.cons sp_few_ok TabOk.nil)
set_option maxRecDepth 8000 in
set_option maxHeartbeats 1000000 in
theorem few17_ok (w : Wl)  : PureFn Tryz.prog 49 [.agg [.sl (chs w.c), .sl (wts w.w), .sl (ivs w.i), .sl (pys w.p), .c (.int .u64 (w.f.next : Int)), .sl (evs w.f.l), .c (.int .u64 (w.next : Int)), .c (.int .u64 (w.tick : Int))]] (few17_r w) := by
  refine .of (ac49 few17_T_ok (Nat.le_of_ble_eq_true rfl) ?_)
  simp -implicitDefEqProofs only [cdA, go_sem, Go.Proofs.Tryz.f49, reduceIte, reduceCtorEq, Nat.reduceEqDiff, Nat.reduceAdd, Nat.reduceLeDiff, Nat.reduceSub, Nat.reduceMul, Nat.reduceLT, Nat.reduceShiftRight, Nat.reduceMod, Int.reduceLE, Int.reduceLT, Int.reduceToNat, List.cons.injEq, cdB]
  refine ⟨fun hq _ => ⟨fun h1 _ => ⟨fun h2 _ => ⟨fun h3 _ => ⟨fun h4 _ => ⟨fun h5 _ => ?_, fun h5 => (decide_eq_false fun h => by have := h.2; omega).symm⟩, fun h4 => (decide_eq_false fun h => by have := h.2; omega).symm⟩, fun h3 _ => ?_⟩, fun h2 => (decide_eq_false fun h => by have := h.2; omega).symm⟩, fun h1 => (decide_eq_false fun h => by have := h.2; omega).symm⟩, fun hq => (decide_eq_false fun h => hq h.1).symm⟩
  · rw [decide_eq_decide]; exact ⟨fun h => ⟨hq, by omega, by omega, by omega, by omega⟩, fun h => by have := h.2; omega⟩
  · rw [decide_eq_decide]; exact ⟨fun h => ⟨hq, by omega, by omega, by omega, by omega⟩, fun h => by have := h.2; omega⟩
def sp_few17 : List D → Option (Prop × D × Fr)
  | [.agg [.c (.sl z2), .c (.sl z3), .c (.sl z4), .c (.sl z5), .c (.int .u64 z7), .c (.sl z8), .c (.int .u64 z9), .c (.int .u64 z10)]] => some (z2 = chs (dchs z2) ∧ z3 = wts (dwts z3) ∧ z4 = ivs (divs z4) ∧ z5 = pys (dpys z5) ∧ z7 = (z7.toNat : Int) ∧ z8 = evs (devs z8) ∧ z9 = (z9.toNat : Int) ∧ z10 = (z10.toNat : Int), few17_r (⟨(dchs z2), (dwts z3), (divs z4), (dpys z5), (⟨z7.toNat, (devs z8)⟩ : Fd), z9.toNat, z10.toNat⟩ : Wl), [])
  | _ => none
attribute [go_sem] sp_few17
theorem sp_few17_ok : ∀ rs p r fr, sp_few17 rs = some (p, r, fr) → p → FnOk Tryz.prog 49 rs r fr := by
  intro rs p r fr h hp
  unfold sp_few17 at h
  split at h <;> cases h
  obtain ⟨hc0, hc1, hc2, hc3, hc4, hc5, hc6, hc7⟩ := hp
  rename_i z2 z3 z4 z5 z7 z8 z9 z10
  obtain ⟨z2, rfl⟩ : ∃ m, z2 = chs m := ⟨_, hc0⟩
  obtain ⟨z3, rfl⟩ : ∃ m, z3 = wts m := ⟨_, hc1⟩
  obtain ⟨z4, rfl⟩ : ∃ m, z4 = ivs m := ⟨_, hc2⟩
  obtain ⟨z5, rfl⟩ : ∃ m, z5 = pys m := ⟨_, hc3⟩
  obtain ⟨z7, rfl⟩ : ∃ m : Nat, z7 = m := ⟨_, hc4⟩
  obtain ⟨z8, rfl⟩ : ∃ m, z8 = evs m := ⟨_, hc5⟩
  obtain ⟨z9, rfl⟩ : ∃ m : Nat, z9 = m := ⟨_, hc6⟩
  obtain ⟨z10, rfl⟩ : ∃ m : Nat, z10 = m := ⟨_, hc7⟩
  simp only [Int.toNat_natCast, dchs_chs, devs_evs, divs_ivs, dpys_pys, dwts_wts]
  exact few17_ok ⟨z2, z3, z4, z5, ⟨z7, z8⟩, z9, z10⟩
@[go_sem] def few5_r (a : Ar) : D := .bool (decide ((∀ t ∈ a.l, t.text.length ≤ 200) ∧ a.l.length ≤ 80))
@[go_sem] abbrev n_few5 : FuncId := 50
@[go_sem] def few5_T : Tab := []
theorem few5_T_ok : TabOk Tryz.prog few5_T := TabOk.nil
set_option maxRecDepth 8000 in
set_option maxHeartbeats 1000000 in
theorem few5_ok (a : Ar)  : PureFn Tryz.prog 50 [.agg [.sl (tms a.l)]] (few5_r a) := by
  refine .of (ac50 few5_T_ok (Nat.le_of_ble_eq_true rfl) ?_)
  simp -implicitDefEqProofs only [cdA, go_sem, Go.Proofs.Tryz.f50, reduceIte, reduceCtorEq, Nat.reduceEqDiff, Nat.reduceAdd, Nat.reduceLeDiff, Nat.reduceSub, Nat.reduceMul, Nat.reduceLT, Nat.reduceShiftRight, Nat.reduceMod, Int.reduceLE, Int.reduceLT, Int.reduceToNat, List.cons.injEq, cdB]
  generalize a.l = l at *
  refine fun hl => SWp.loop (ι := { i : Nat // i ≤ l.length ∧ ∀ j, j < i → (l.getD j default).text.length ≤ 200 }) (fun i => ⟨[(1, .ref 0 0), (6, .sl (tms l)), (7, .int .i64 l.length), (8, .int .i64 i.1)], [(0, .box [.sl (tms l)])], 1⟩) (fun i => l.length - i.1) ⟨0, by simp⟩ ?_ ?_
  · simp [go_sem]
  · rintro ⟨i, hi, hall⟩
    refine awp_sound few5_T_ok.toS lv50 _ _ _ rfl ?_
    simp -implicitDefEqProofs only [cdA, go_sem, reduceIte, reduceCtorEq, Nat.reduceEqDiff, Nat.reduceAdd, Nat.reduceLeDiff, Nat.reduceSub, Nat.reduceMul, Nat.reduceLT, Nat.reduceShiftRight, Nat.reduceMod, Int.reduceLE, Int.reduceLT, Int.reduceToNat, List.cons.injEq, cdB]
    refine ⟨fun h => ⟨by omega, fun _ => ⟨fun h1 => ?_, fun h1 => ⟨⟨i + 1, by omega, fun j hj => ?_⟩, by dsimp only; omega, i64_in _ (by omega)⟩⟩⟩, fun h => ?_⟩
    · rw [eq_comm, decide_eq_false_iff_not]
      intro h2
      have := h2.1 _ (mem_getD.2 ⟨i, by omega, rfl⟩)
      omega
    · by_cases hji : j = i
      · subst hji; omega
      · exact hall j (by omega)
    · intro _
      have : (∀ t ∈ l, t.text.length ≤ 200) := fun c hc => by obtain ⟨j, hj, rfl⟩ := mem_getD.1 hc; exact hall j (by omega)
      rw [decide_eq_decide]
      exact ⟨fun h => ⟨this, by omega⟩, fun h => by omega⟩
def sp_few5 : List D → Option (Prop × D × Fr)
  | [.agg [.c (.sl z12)]] => some (z12 = tms (dtms z12), few5_r (⟨(dtms z12)⟩ : Ar), [])
  | _ => none
attribute [go_sem] sp_few5
theorem sp_few5_ok : ∀ rs p r fr, sp_few5 rs = some (p, r, fr) → p → FnOk Tryz.prog 50 rs r fr := by
  intro rs p r fr h hp
  unfold sp_few5 at h
  split at h <;> cases h
  have hc0 := hp
  rename_i z12
  obtain ⟨z12, rfl⟩ : ∃ m, z12 = tms m := ⟨_, hc0⟩
  simp only [dtms_tms]
  exact few5_ok ⟨z12⟩
def fewK (k : Ky) : Prop := ¬ (60 < k.print.length ∧ k.print.length < 4096) ∧ ¬ 4100 < k.print.length ∧ ¬ (60 < k.reply.length ∧ k.reply.length < 4096) ∧ ¬ 4100 < k.reply.length
instance (k : Ky) : Decidable (fewK k) := by unfold fewK; infer_instance
@[go_sem] def few14_r (l : List Ky) : D := .bool (decide ((∀ k ∈ l, fewK k) ∧ (l.length ≤ 20 ∨ 128 ≤ l.length ∧ l.length ≤ 130)))
@[go_sem] abbrev n_few14 : FuncId := 51
@[go_sem] def few14_T : Tab := []
theorem few14_T_ok : TabOk Tryz.prog few14_T := TabOk.nil
set_option maxRecDepth 8000 in
set_option maxHeartbeats 1000000 in
theorem few14_ok (l : List Ky)  : PureFn Tryz.prog 51 [.sl (kys l)] (few14_r l) := by
  refine .of (ac51 few14_T_ok (Nat.le_of_ble_eq_true rfl) ?_)
  simp -implicitDefEqProofs only [cdA, go_sem, Go.Proofs.Tryz.f51, reduceIte, reduceCtorEq, Nat.reduceEqDiff, Nat.reduceAdd, Nat.reduceLeDiff, Nat.reduceSub, Nat.reduceMul, Nat.reduceLT, Nat.reduceShiftRight, Nat.reduceMod, Int.reduceLE, Int.reduceLT, Int.reduceToNat, List.cons.injEq, cdB]
  refine fun hl => SWp.loop (ι := { i : Nat // i ≤ l.length ∧ ∀ j, j < i → fewK (l.getD j default) }) (fun i => ⟨[(0, .sl (kys l)), (5, .sl (kys l)), (6, .int .i64 l.length), (7, .int .i64 i.1)], [], 0⟩) (fun i => l.length - i.1) ⟨0, by simp⟩ ?_ ?_
  · simp [go_sem]
  · rintro ⟨i, hi, hall⟩
    refine awp_sound few14_T_ok.toS lv51 _ _ _ rfl ?_
    simp -implicitDefEqProofs only [cdA, go_sem, reduceIte, reduceCtorEq, Nat.reduceEqDiff, Nat.reduceAdd, Nat.reduceLeDiff, Nat.reduceSub, Nat.reduceMul, Nat.reduceLT, Nat.reduceShiftRight, Nat.reduceMod, Int.reduceLE, Int.reduceLT, Int.reduceToNat, List.cons.injEq, cdB]
    refine ⟨fun h => ?_, fun h _ => ?_⟩
    · have hi' : i < l.length := by omega
      have hb : ¬ ((¬ (60 < (l.getD i default).print.length ∧ (l.getD i default).print.length < 4096) ∧ ¬ 4100 < (l.getD i default).print.length) ∧ ¬ (60 < (l.getD i default).reply.length ∧ (l.getD i default).reply.length < 4096) ∧ ¬ 4100 < (l.getD i default).reply.length) → false = decide ((∀ k ∈ l, fewK k) ∧ (l.length ≤ 20 ∨ 128 ≤ l.length ∧ l.length ≤ 130)) := fun hx => (decide_eq_false fun h => hx (by
        have := h.1 _ (mem_getD.2 ⟨i, hi', rfl⟩)
        exact ⟨⟨this.1, this.2.1⟩, this.2.2⟩)).symm
      have hn : ((¬ (60 < (l.getD i default).print.length ∧ (l.getD i default).print.length < 4096) ∧ ¬ 4100 < (l.getD i default).print.length) ∧ ¬ (60 < (l.getD i default).reply.length ∧ (l.getD i default).reply.length < 4096) ∧ ¬ 4100 < (l.getD i default).reply.length) → ∃ i_1 : { i : Nat // i ≤ l.length ∧ ∀ j, j < i → fewK (l.getD j default) }, l.length - i_1.val < l.length - i ∧ IntKind.i64.wrap ((i : Int) + 1) = i_1.val := fun hx => ⟨⟨i + 1, hi', fun j hj => by
        by_cases hji : j = i
        · subst hji; exact ⟨hx.1.1, hx.1.2, hx.2⟩
        · exact hall j (by omega)⟩, by dsimp only; omega, i64_in _ (by omega)⟩
      refine ⟨h, fun _ => ?_⟩
      generalize (l.getD i default).print.length = p at *
      generalize (l.getD i default).reply.length = q at *
      exact ⟨fun a _ => ⟨fun b _ => ⟨fun c _ => ⟨fun d _ => ⟨fun e _ => ⟨fun f => hb (by omega), fun f => hn (by omega)⟩, fun e => hb (by omega)⟩, fun d _ => ⟨fun f => hb (by omega), fun f => hn (by omega)⟩⟩, fun c => hb (by omega)⟩, fun b => hb (by omega)⟩, fun a _ => ⟨fun c _ => ⟨fun d _ => ⟨fun e _ => ⟨fun f => hb (by omega), fun f => hn (by omega)⟩, fun e => hb (by omega)⟩, fun d _ => ⟨fun f => hb (by omega), fun f => hn (by omega)⟩⟩, fun c => hb (by omega)⟩⟩
    · have hi' : i = l.length := by omega
      subst hi'
      have hk : ∀ k ∈ l, fewK k := fun c hc => by obtain ⟨j, hj, rfl⟩ := mem_getD.1 hc; exact hall j (by omega)
      refine ⟨fun h1 _ => ⟨fun h2 _ => decide_eq_decide.2 ⟨fun h3 => ⟨hk, by omega⟩, fun h3 => by have := h3.2; omega⟩, fun h2 => (decide_eq_false fun h3 => by have := h3.2; omega).symm⟩, fun h1 => (decide_eq_true ⟨hk, by omega⟩).symm⟩
def sp_few14 : List D → Option (Prop × D × Fr)
  | [.c (.sl z13)] => some (z13 = kys (dkys z13), few14_r (dkys z13), [])
  | _ => none
attribute [go_sem] sp_few14
theorem sp_few14_ok : ∀ rs p r fr, sp_few14 rs = some (p, r, fr) → p → FnOk Tryz.prog 51 rs r fr := by
  intro rs p r fr h hp
  unfold sp_few14 at h
  split at h <;> cases h
  have hc0 := hp
  rename_i z13
  obtain ⟨z13, rfl⟩ : ∃ m, z13 = kys m := ⟨_, hc0⟩
  simp only [dkys_kys]
  exact few14_ok z13
@[go_sem] def few21_r (b : Bk) : D := .bool (decide ((((∀ c ∈ b.w.c, c.holds.length ≤ 20) ∧ b.w.c.length ≤ 34) ∧ b.w.w.length ≤ 40 ∧ b.w.i.length ≤ 40 ∧ (b.w.p.length ≤ 40 ∨ 256 ≤ b.w.p.length ∧ b.w.p.length ≤ 258) ∧ b.w.f.l.length ≤ 70) ∧ ((∀ t ∈ b.a.l, t.text.length ≤ 200) ∧ b.a.l.length ≤ 80) ∧ b.r.length ≤ 70 ∧ ((∀ k ∈ b.k, fewK k) ∧ (b.k.length ≤ 20 ∨ 128 ≤ b.k.length ∧ b.k.length ≤ 130)) ∧ b.s.length ≤ 130))
@[go_sem] abbrev n_few21 : FuncId := 15
@[go_sem] def few21_T : Tab := [(49, sp_few17), (50, sp_few5), (51, sp_few14)]
theorem few21_T_ok : TabOk Tryz.prog few21_T := (TabOk.cons sp_few17_ok (TabOk.cons sp_few5_ok (TabOk.cons sp_few14_ok TabOk.nil)))
set_option maxRecDepth 8000 in
set_option maxHeartbeats 1000000 in
theorem few21_ok (b : Bk)  : PureFn Tryz.prog 15 [.agg [.sl (chs b.w.c), .sl (wts b.w.w), .sl (ivs b.w.i), .sl (pys b.w.p), .c (.int .u64 (b.w.f.next : Int)), .sl (evs b.w.f.l), .c (.int .u64 (b.w.next : Int)), .c (.int .u64 (b.w.tick : Int)), .sl (tms b.a.l), .sl (rks b.r), .sl (kys b.k), .sl (cts b.s)]] (few21_r b) := by
  refine .of (ac15 few21_T_ok (Nat.le_of_ble_eq_true rfl) ?_)
  simp -implicitDefEqProofs only [cdA, go_sem, Go.Proofs.Tryz.f15, reduceIte, reduceCtorEq, Nat.reduceEqDiff, Nat.reduceAdd, Nat.reduceLeDiff, Nat.reduceSub, Nat.reduceMul, Nat.reduceLT, Nat.reduceShiftRight, Nat.reduceMod, Int.reduceLE, Int.reduceLT, Int.reduceToNat, List.cons.injEq, cdB]
  refine ⟨fun hA => ⟨fun hB hr => ⟨fun hr1 => ⟨fun hD hs => decide_eq_decide.2 ⟨fun h => ⟨hA, hB, by omega, hD, by omega⟩, fun h => by have := h.2.2.2.2; omega⟩, fun hD => (decide_eq_false fun h => hD h.2.2.2.1).symm⟩, fun hr1 => (decide_eq_false fun h => hr1 (by have := h.2.2.1; omega)).symm⟩, fun hB => (decide_eq_false fun h => hB h.2.1).symm⟩, fun hA => (decide_eq_false fun h => hA h.1).symm⟩
def sp_few21 : List D → Option (Prop × D × Fr)
  | [.agg [.c (.sl z16), .c (.sl z17), .c (.sl z18), .c (.sl z19), .c (.int .u64 z21), .c (.sl z22), .c (.int .u64 z23), .c (.int .u64 z24), .c (.sl z26), .c (.sl z27), .c (.sl z28), .c (.sl z29)]] => some (z16 = chs (dchs z16) ∧ z17 = wts (dwts z17) ∧ z18 = ivs (divs z18) ∧ z19 = pys (dpys z19) ∧ z21 = (z21.toNat : Int) ∧ z22 = evs (devs z22) ∧ z23 = (z23.toNat : Int) ∧ z24 = (z24.toNat : Int) ∧ z26 = tms (dtms z26) ∧ z27 = rks (drks z27) ∧ z28 = kys (dkys z28) ∧ z29 = cts (dcts z29), few21_r (⟨(⟨(dchs z16), (dwts z17), (divs z18), (dpys z19), (⟨z21.toNat, (devs z22)⟩ : Fd), z23.toNat, z24.toNat⟩ : Wl), (⟨(dtms z26)⟩ : Ar), (drks z27), (dkys z28), (dcts z29)⟩ : Bk), [])
  | _ => none
attribute [go_sem] sp_few21
theorem sp_few21_ok : ∀ rs p r fr, sp_few21 rs = some (p, r, fr) → p → FnOk Tryz.prog 15 rs r fr := by
  intro rs p r fr h hp
  unfold sp_few21 at h
  split at h <;> cases h
  obtain ⟨hc0, hc1, hc2, hc3, hc4, hc5, hc6, hc7, hc8, hc9, hc10, hc11⟩ := hp
  rename_i z16 z17 z18 z19 z21 z22 z23 z24 z26 z27 z28 z29
  obtain ⟨z16, rfl⟩ : ∃ m, z16 = chs m := ⟨_, hc0⟩
  obtain ⟨z17, rfl⟩ : ∃ m, z17 = wts m := ⟨_, hc1⟩
  obtain ⟨z18, rfl⟩ : ∃ m, z18 = ivs m := ⟨_, hc2⟩
  obtain ⟨z19, rfl⟩ : ∃ m, z19 = pys m := ⟨_, hc3⟩
  obtain ⟨z21, rfl⟩ : ∃ m : Nat, z21 = m := ⟨_, hc4⟩
  obtain ⟨z22, rfl⟩ : ∃ m, z22 = evs m := ⟨_, hc5⟩
  obtain ⟨z23, rfl⟩ : ∃ m : Nat, z23 = m := ⟨_, hc6⟩
  obtain ⟨z24, rfl⟩ : ∃ m : Nat, z24 = m := ⟨_, hc7⟩
  obtain ⟨z26, rfl⟩ : ∃ m, z26 = tms m := ⟨_, hc8⟩
  obtain ⟨z27, rfl⟩ : ∃ m, z27 = rks m := ⟨_, hc9⟩
  obtain ⟨z28, rfl⟩ : ∃ m, z28 = kys m := ⟨_, hc10⟩
  obtain ⟨z29, rfl⟩ : ∃ m, z29 = cts m := ⟨_, hc11⟩
  simp only [Int.toNat_natCast, dchs_chs, dcts_cts, devs_evs, divs_ivs, dkys_kys, dpys_pys, drks_rks, dtms_tms, dwts_wts]
  exact few21_ok ⟨⟨z16, z17, z18, z19, ⟨z21, z22⟩, z23, z24⟩, ⟨z26⟩, z27, z28, z29⟩
@[go_sem] def few19_r (r : Rq) : D := .bool (decide (r.t.l.length ≤ 20 ∧ r.items.length ≤ 20 ∧ r.l.length ≤ 20))
@[go_sem] abbrev n_few19 : FuncId := 9
@[go_sem] def few19_T : Tab := []
theorem few19_T_ok : TabOk Tryz.prog few19_T := TabOk.nil
set_option maxRecDepth 8000 in
set_option maxHeartbeats 1000000 in
theorem few19_ok (r : Rq)  : PureFn Tryz.prog 9 [.agg [.c (.int .u64 (r.id : Int)), .c (.int .i64 r.method), .c (.int .u64 (r.key : Int)), .c (.int .u64 (r.t.root : Int)), .sl (cvs r.t.l), .c (.int .i64 r.t.tag), .c (.int .u64 (r.a : Int)), .c (.int .u64 (r.n : Int)), .c (.int .u64 (r.till : Int)), .sl (its r.items), .sl (cvs r.l)]] (few19_r r) := by
  refine .of (ac9 few19_T_ok (Nat.le_of_ble_eq_true rfl) ?_)
  simp -implicitDefEqProofs only [cdA, go_sem, Go.Proofs.Tryz.f9, reduceIte, reduceCtorEq, Nat.reduceEqDiff, Nat.reduceAdd, Nat.reduceLeDiff, Nat.reduceSub, Nat.reduceMul, Nat.reduceLT, Nat.reduceShiftRight, Nat.reduceMod, Int.reduceLE, Int.reduceLT, Int.reduceToNat, List.cons.injEq, cdB]
  exact fun _ => ⟨fun h1 _ => ⟨fun h2 _ => decide_eq_decide.2 ⟨fun h => ⟨by omega, by omega, by omega⟩, fun h => by omega⟩, fun h2 => (decide_eq_false fun h => by omega).symm⟩, fun h1 => (decide_eq_false fun h => by omega).symm⟩
def sp_few19 : List D → Option (Prop × D × Fr)
  | [.agg [.c (.int .u64 z31), .c (.int .i64 z32), .c (.int .u64 z33), .c (.int .u64 z35), .c (.sl z36), .c (.int .i64 z37), .c (.int .u64 z38), .c (.int .u64 z39), .c (.int .u64 z40), .c (.sl z41), .c (.sl z42)]] => some (z31 = (z31.toNat : Int) ∧ z33 = (z33.toNat : Int) ∧ z35 = (z35.toNat : Int) ∧ z36 = cvs (dcvs z36) ∧ z38 = (z38.toNat : Int) ∧ z39 = (z39.toNat : Int) ∧ z40 = (z40.toNat : Int) ∧ z41 = its (dits z41) ∧ z42 = cvs (dcvs z42), few19_r (⟨z31.toNat, z32, z33.toNat, (⟨z35.toNat, (dcvs z36), z37⟩ : Tk), z38.toNat, z39.toNat, z40.toNat, (dits z41), (dcvs z42)⟩ : Rq), [])
  | _ => none
attribute [go_sem] sp_few19
theorem sp_few19_ok : ∀ rs p r fr, sp_few19 rs = some (p, r, fr) → p → FnOk Tryz.prog 9 rs r fr := by
  intro rs p r fr h hp
  unfold sp_few19 at h
  split at h <;> cases h
  obtain ⟨hc0, hc1, hc2, hc3, hc4, hc5, hc6, hc7, hc8⟩ := hp
  rename_i z31 z32 z33 z35 z36 z37 z38 z39 z40 z41 z42
  obtain ⟨z31, rfl⟩ : ∃ m : Nat, z31 = m := ⟨_, hc0⟩
  obtain ⟨z33, rfl⟩ : ∃ m : Nat, z33 = m := ⟨_, hc1⟩
  obtain ⟨z35, rfl⟩ : ∃ m : Nat, z35 = m := ⟨_, hc2⟩
  obtain ⟨z36, rfl⟩ : ∃ m, z36 = cvs m := ⟨_, hc3⟩
  obtain ⟨z38, rfl⟩ : ∃ m : Nat, z38 = m := ⟨_, hc4⟩
  obtain ⟨z39, rfl⟩ : ∃ m : Nat, z39 = m := ⟨_, hc5⟩
  obtain ⟨z40, rfl⟩ : ∃ m : Nat, z40 = m := ⟨_, hc6⟩
  obtain ⟨z41, rfl⟩ : ∃ m, z41 = its m := ⟨_, hc7⟩
  obtain ⟨z42, rfl⟩ : ∃ m, z42 = cvs m := ⟨_, hc8⟩
  simp only [Int.toNat_natCast, dcvs_cvs, dits_its]
  exact few19_ok ⟨z31, z32, z33, ⟨z35, z36, z37⟩, z38, z39, z40, z41, z42⟩
end Dm
namespace Dm
open Go Go.Proofs Go.IntWalk
theorem chg_zero {b : Bk} {id key : Nat} {l : List Rk × Int} (h : ¬ (chgB b id key l).2.2 = 0) : (chgB b id key l).1 = zeroB := by
  unfold chgB at h ⊢
  split
  · rfl
  rename_i h1
  rw [if_neg h1] at h
  split
  · rfl
  rename_i h2
  rw [if_neg h2] at h
  split
  · rfl
  rename_i h3
  rw [if_neg h3] at h
  exact absurd rfl h
@[go_sem] def GuardGone_r (b : Bk) (r : Rq) (id : Nat) (key : Nat) (who : Nat) : D := .bool true
@[go_sem] abbrev n_GuardGone : FuncId := 6
@[go_sem] def GuardGone_T : Tab := [(8, sp_glive), (15, sp_few21), (9, sp_few19), (14, sp_gmay), (21, sp_grev), (22, sp_gturn)]
theorem GuardGone_T_ok : TabOk Tryz.prog GuardGone_T := (TabOk.cons sp_glive_ok (TabOk.cons sp_few21_ok (TabOk.cons sp_few19_ok (TabOk.cons sp_gmay_ok (TabOk.cons sp_grev_ok (TabOk.cons sp_gturn_ok TabOk.nil))))))
set_option maxRecDepth 8000 in
set_option maxHeartbeats 1000000 in
theorem GuardGone_ok (b : Bk) (r : Rq) (id : Nat) (key : Nat) (who : Nat) (h : b.w.f.next ≤ 18446744073709551615) : PureFn Tryz.prog 6 [.agg [.sl (chs b.w.c), .sl (wts b.w.w), .sl (ivs b.w.i), .sl (pys b.w.p), .c (.int .u64 (b.w.f.next : Int)), .sl (evs b.w.f.l), .c (.int .u64 (b.w.next : Int)), .c (.int .u64 (b.w.tick : Int)), .sl (tms b.a.l), .sl (rks b.r), .sl (kys b.k), .sl (cts b.s)], .agg [.c (.int .u64 (r.id : Int)), .c (.int .i64 r.method), .c (.int .u64 (r.key : Int)), .c (.int .u64 (r.t.root : Int)), .sl (cvs r.t.l), .c (.int .i64 r.t.tag), .c (.int .u64 (r.a : Int)), .c (.int .u64 (r.n : Int)), .c (.int .u64 (r.till : Int)), .sl (its r.items), .sl (cvs r.l)], .c (.int .u64 (id : Int)), .c (.int .u64 (key : Int)), .c (.int .u64 (who : Int))] (GuardGone_r b r id key who) := by
  refine .of (ac6 GuardGone_T_ok (Nat.le_of_ble_eq_true rfl) ?_)
  simp -implicitDefEqProofs only [cdA, go_sem, Go.Proofs.Tryz.f6, reduceIte, reduceCtorEq, Nat.reduceEqDiff, Nat.reduceAdd, Nat.reduceLeDiff, Nat.reduceSub, Nat.reduceMul, Nat.reduceLT, Nat.reduceShiftRight, Nat.reduceMod, Int.reduceLE, Int.reduceLT, Int.reduceToNat, List.cons.injEq, cdB]
  refine ⟨fun _ => ⟨fun _ => ⟨h, ?_⟩, fun _ => trivial⟩, fun _ => trivial⟩
  by_cases h0 : (mayG b r who).2 = 0
  rotate_left 1
  · have hf : (mayG b r who).1 = false := by
      have := may_bad (b := b) (r := r) (who := who) fun h => h0 (may_2.2 h)
      rw [this]
    simp only [h0, hf, cdN, true_and, and_true]
    rfl
  have hrw : (revB b id).2 = 0 → (revB b id).1.w.f.next ≤ 18446744073709551615 := fun hv => by rw [(rev_all hv).2.2.2.1]; exact h
  have htw : (chgB b id key (turnR b.r id key)).2.2 = 0 → (chgB b id key (turnR b.r id key)).1.w.f.next ≤ 18446744073709551615 := fun ht => by rw [chg_w ht]; exact h
  have gv := fun hv => gone_rev (id := id) h0 hv
  have gt := fun ht => gone_turn (id := id) (key := key) h0 ht
  have gz := chg_zero (b := b) (id := id) (key := key) (l := turnR b.r id key)
  generalize revB b id = rv at *
  generalize chgB b id key (turnR b.r id key) = ch at *
  generalize hm0 : mayG b r who = m0 at *
  obtain ⟨w0, e0⟩ := m0
  dsimp only at h0
  subst h0
  generalize mayG rv.1 r who = mr at *
  generalize mayG ch.1 r who = mt at *
  obtain ⟨wr, er⟩ := mr
  obtain ⟨wt, et⟩ := mt
  dsimp only at *
  have gt2 := fun ht => (gt ht).2.2.2
  have hin : ∀ {p q : Nat}, ((p : Int) = q) = (p = q) := fun {p q} => propext Int.natCast_inj
  by_cases ht : ch.2.2 = 0
  · rw [gt2 ht]
    obtain ⟨t1, t2, t3, _⟩ := gt ht
    have ht' := htw ht
    clear gt gt2 gz htw hm0
    by_cases hid : r.t.root = id
    · have t4 := t3 hid
      by_cases hv : rv.2 = 0
      · obtain ⟨v1, v2, v3⟩ := gv hv
        have v4 := v2 hid
        have hv' := hrw hv
        cases w0
        · cases wt <;> simp [h, hv, ht, hv', ht', hid, t1, v1, v4]
        · have t5 := t4 rfl
          simp [h, hv, ht, hv', ht', hid, t1, v1, v4, t5]
      · cases w0
        · cases wt <;> simp [h, hv, ht, ht', hid, t1]
        · have t5 := t4 rfl
          simp [h, hv, ht, ht', hid, t1, t5]
    · have t4 := t2 hid
      by_cases hv : rv.2 = 0
      · obtain ⟨v1, v2, v3⟩ := gv hv
        have v4 := v3 hid
        have hv' := hrw hv
        cases w0 <;> simp [h, hv, ht, hv', ht', hin, hid, t1, v1, v4, t4]
      · cases w0 <;> simp [h, hv, ht, ht', hin, hid, t1, t4]
  · have hz := gz ht
    have hz' : ch.1.w.next = 0 := by rw [hz]; rfl
    clear gt gt2 gz htw hm0
    by_cases hid : r.t.root = id
    · by_cases hv : rv.2 = 0
      · obtain ⟨v1, v2, v3⟩ := gv hv
        have v4 := v2 hid
        have hv' := hrw hv
        simp [h, hv, ht, hv', hid, v1, v4, hz']
      · simp [h, hv, ht, hid, hz']
    · by_cases hv : rv.2 = 0
      · obtain ⟨v1, v2, v3⟩ := gv hv
        have v4 := v3 hid
        have hv' := hrw hv
        simp [h, hv, ht, hv', hin, hid, v1, v4, hz']
      · simp [h, hv, ht, hin, hid, hz']
@[go_sem] def GuardGone_p (b : Bk) (r : Rq) (id : Nat) (key : Nat) (who : Nat) : Prop := (b.w.f.next ≤ 18446744073709551615)
def sp_GuardGone : List D → Option (Prop × D × Fr)
  | [.agg [.c (.sl z3), .c (.sl z4), .c (.sl z5), .c (.sl z6), .c (.int .u64 z8), .c (.sl z9), .c (.int .u64 z10), .c (.int .u64 z11), .c (.sl z13), .c (.sl z14), .c (.sl z15), .c (.sl z16)], .agg [.c (.int .u64 z18), .c (.int .i64 z19), .c (.int .u64 z20), .c (.int .u64 z22), .c (.sl z23), .c (.int .i64 z24), .c (.int .u64 z25), .c (.int .u64 z26), .c (.int .u64 z27), .c (.sl z28), .c (.sl z29)], .c (.int .u64 z30), .c (.int .u64 z31), .c (.int .u64 z32)] => some (z3 = chs (dchs z3) ∧ z4 = wts (dwts z4) ∧ z5 = ivs (divs z5) ∧ z6 = pys (dpys z6) ∧ z8 = (z8.toNat : Int) ∧ z9 = evs (devs z9) ∧ z10 = (z10.toNat : Int) ∧ z11 = (z11.toNat : Int) ∧ z13 = tms (dtms z13) ∧ z14 = rks (drks z14) ∧ z15 = kys (dkys z15) ∧ z16 = cts (dcts z16) ∧ z18 = (z18.toNat : Int) ∧ z20 = (z20.toNat : Int) ∧ z22 = (z22.toNat : Int) ∧ z23 = cvs (dcvs z23) ∧ z25 = (z25.toNat : Int) ∧ z26 = (z26.toNat : Int) ∧ z27 = (z27.toNat : Int) ∧ z28 = its (dits z28) ∧ z29 = cvs (dcvs z29) ∧ z30 = (z30.toNat : Int) ∧ z31 = (z31.toNat : Int) ∧ z32 = (z32.toNat : Int) ∧ GuardGone_p (⟨(⟨(dchs z3), (dwts z4), (divs z5), (dpys z6), (⟨z8.toNat, (devs z9)⟩ : Fd), z10.toNat, z11.toNat⟩ : Wl), (⟨(dtms z13)⟩ : Ar), (drks z14), (dkys z15), (dcts z16)⟩ : Bk) (⟨z18.toNat, z19, z20.toNat, (⟨z22.toNat, (dcvs z23), z24⟩ : Tk), z25.toNat, z26.toNat, z27.toNat, (dits z28), (dcvs z29)⟩ : Rq) z30.toNat z31.toNat z32.toNat, GuardGone_r (⟨(⟨(dchs z3), (dwts z4), (divs z5), (dpys z6), (⟨z8.toNat, (devs z9)⟩ : Fd), z10.toNat, z11.toNat⟩ : Wl), (⟨(dtms z13)⟩ : Ar), (drks z14), (dkys z15), (dcts z16)⟩ : Bk) (⟨z18.toNat, z19, z20.toNat, (⟨z22.toNat, (dcvs z23), z24⟩ : Tk), z25.toNat, z26.toNat, z27.toNat, (dits z28), (dcvs z29)⟩ : Rq) z30.toNat z31.toNat z32.toNat, [])
  | _ => none
attribute [go_sem] sp_GuardGone
end Dm

import Derived.Test.YtfikoidnjojbhaaP3
import Derived.Below
import Derived.ChangeOld
set_option linter.unusedSimpArgs false
set_option linter.unusedVariables false
set_option linter.unusedSectionVars false
/-! What spending comes to: plain laws. -/
namespace Dm
open Go
/-- The counts behind it, however many. -/
def addF (l : List Ct) (root : Nat) (cav : List Cv) (n : Nat) : List Ct := if n = 0 then l else (sumsS l root cav n).1.foldl (putC root) l
theorem addC_eq {l : List Ct} {root : Nat} {cav : List Cv} {n : Nat} (h : (sumsS l root cav n).2 = 0) : addC l root cav n = if (addF l root cav n).length ≤ 128 then (addF l root cav n, 0) else ([], 7) := by
  rw [addC, if_pos h, addF]
  split
  · rw [if_pos (chkC_0 (sums_0 h).2.1).1]
  · rfl
theorem addC_no {l : List Ct} {root : Nat} {cav : List Cv} {n : Nat} (h : ¬ (sumsS l root cav n).2 = 0) : addC l root cav n = ([], (sumsS l root cav n).2) := by rw [addC, if_neg h]
theorem add_sums {l : List Ct} {root : Nat} {cav : List Cv} {n : Nat} (h : (addC l root cav n).2 = 0) : (sumsS l root cav n).2 = 0 ∧ (addF l root cav n).length ≤ 128 ∧ addC l root cav n = (addF l root cav n, 0) := by
  by_cases hs : (sumsS l root cav n).2 = 0
  · have := addC_eq hs
    rw [this] at h
    split at h
    · rename_i h1; exact ⟨hs, h1, by rw [this, if_pos h1]⟩
    · cases h
  · rw [addC_no hs] at h; exact absurd h hs
theorem nlk_map {f : Nat × Int → Int} {b : Nat} : ∀ {m : List (Nat × Int)}, nlk b (m.map fun x => (x.1, f x)) = (nlk b m).map fun v => f (b, v)
  | [] => rfl
  | (x, y) :: m => by
    simp only [List.map_cons, nlk]
    by_cases h : x = b
    · subst h; simp
    · rw [if_neg h, if_neg h, nlk_map]
theorem addF_up {l : List Ct} {root : Nat} {cav : List Cv} {n : Nat} (h : Srt.Up Ct.key ltC l) : Srt.Up Ct.key ltC (addF l root cav n) := by
  unfold addF; split
  · exact h
  · exact fold_up h
theorem fnd_addF {l : List Ct} {root : Nat} {cav : List Cv} {n : Nat} (h : (sumsS l root cav n).2 = 0) (r b : Nat) :
    Srt.fnd Ct.key (addF l root cav n) (r, b) = if (r = root ∧ ¬ n = 0) ∧ (nlk b (capS cav).1).isSome = true then some ⟨root, b, was l root b + n⟩ else Srt.fnd Ct.key l (r, b) := by
  have hs := sums_0 h
  unfold addF
  by_cases hn : n = 0
  · simp [hn]
  · rw [if_neg hn, fnd_fold (sums_nd h) (chkC_0 hs.2.1).2.1, hs.2.2.2.1, nlk_map (f := fun x => (was l root x.1 : Int) + n)]
    by_cases hr : r = root
    · subst hr
      cases hb : nlk b (capS cav).1 with
      | none => simp
      | some v =>
        simp only [if_true, Option.map_some, Option.isSome_some, true_and, and_true]
        rw [if_pos hn]
        congr 2
    · simp [hr]
theorem was_addF {l : List Ct} {root : Nat} {cav : List Cv} {n : Nat} (h : (sumsS l root cav n).2 = 0) (r b : Nat) :
    was (addF l root cav n) r b = if r = root ∧ (nlk b (capS cav).1).isSome = true then was l r b + n else was l r b := by
  rw [was, fnd_addF h]
  by_cases hn : n = 0
  · simp [hn, was]
  · by_cases hr : r = root
    · subst hr
      by_cases hb : (nlk b (capS cav).1).isSome = true
      · simp [hn, hb]
      · simp [hb, was]
    · simp [hr, was]
theorem addF_chk {l : List Ct} {root : Nat} {cav : List Cv} {n : Nat} (h : (sumsS l root cav n).2 = 0) (hl : (addF l root cav n).length ≤ 128) : chkC (addF l root cav n) = 0 := by
  have hs := sums_0 h
  have hc := chkC_0 hs.2.1
  refine chkC_of hl (addF_up hc.2.1) fun c hcm => ?_
  have hf := (Srt.fnd_some totC (addF_up (root := root) (cav := cav) (n := n) hc.2.1) (k := c.key)).2 ⟨hcm, rfl⟩
  rw [show c.key = (c.root, c.b) from rfl, fnd_addF h] at hf
  split at hf
  · rename_i hx
    cases hv : nlk c.b (capS cav).1 with
    | none => rw [hv] at hx; simp at hx
    | some v =>
      have := hs.2.2.2.2 (c.b, v) ((nlk_some (cap_nd cav)).1 hv)
      have he := congrArg Ct.n (Option.some.inj hf)
      dsimp only at he this
      omega
  · exact hc.2.2 c ((Srt.fnd_some totC hc.2.1).1 hf).1
theorem fnd_was {l : List Ct} (h : chkC l = 0) (r b : Nat) : Srt.fnd Ct.key l (r, b) = if was l r b = 0 then none else some ⟨r, b, was l r b⟩ := by
  have hc := chkC_0 h
  unfold was
  cases hf : Srt.fnd Ct.key l (r, b) with
  | none => simp
  | some c =>
    obtain ⟨h1, h2⟩ := (Srt.fnd_some totC hc.2.1).1 hf
    have h3 := (hc.2.2 c h1).1
    simp only [Ct.key, Prod.mk.injEq] at h2
    simp only [Option.map_some, Option.getD_some, if_neg h3]
    rw [← h2.1, ← h2.2]
theorem was_ext {a b : List Ct} (ha : chkC a = 0) (hb : chkC b = 0) (h : ∀ r k, was a r k = was b r k) : a = b :=
  Srt.ext_fnd totC (chkC_0 ha).2.1 (chkC_0 hb).2.1 fun ⟨r, k⟩ => by rw [fnd_was ha, fnd_was hb, h]
/-- When it may be counted. -/
theorem sums_iff {l : List Ct} {root : Nat} {cav : List Cv} {n : Nat} (h1 : (capS cav).2 = 0) (h2 : chkC l = 0) (h3 : n ≤ 4611686018427387904) :
    (sumsS l root cav n).2 = 0 ↔ ∀ x ∈ (capS cav).1, (was l root x.1 : Int) + n ≤ 4611686018427387904 ∧ (was l root x.1 : Int) + n ≤ x.2 := by
  refine ⟨fun h => (sums_0 h).2.2.2.2, fun h => ?_⟩
  rw [sumsS, if_pos ⟨h1, h2, h3⟩, if_pos (List.all_eq_true.2 fun x hx => by simpa using h x hx)]
theorem fold_length {root : Nat} : ∀ {sn : List (Nat × Int)} {l : List Ct}, (sn.map (·.1)).Nodup → Srt.Up Ct.key ltC l → (sn.foldl (putC root) l).length = l.length + (sn.filter fun x => (Srt.fnd Ct.key l (root, x.1)).isNone).length
  | [], l, _, _ => by simp
  | (x, y) :: sn, l, hn, hu => by
    simp only [List.map_cons, List.nodup_cons] at hn
    have hu' : Srt.Up Ct.key ltC (putC root l (x, y)) := Srt.put_up totC hu
    rw [List.foldl_cons, fold_length hn.2 hu']
    have hk : Ct.key ⟨root, x, y.toNat⟩ = (root, x) := rfl
    have hf : (sn.filter fun z => (Srt.fnd Ct.key (putC root l (x, y)) (root, z.1)).isNone) = sn.filter fun z => (Srt.fnd Ct.key l (root, z.1)).isNone := by
      refine List.filter_congr fun z hz => ?_
      rw [putC, Srt.fnd_put totC hu, if_neg]
      intro e
      simp only [Ct.key, Prod.mk.injEq, true_and] at e
      exact hn.1 (List.mem_map.2 ⟨z, hz, e⟩)
    rw [hf, putC, Srt.put_len, List.filter_cons, hk, Srt.fnd_thr totC hu]
    by_cases ht : Srt.thr Ct.key ltC l (root, x) = true
    · simp [ht]
    · simp [ht]; omega
theorem addF_comm {l : List Ct} {root other : Nat} {c d : List Cv} {a b : Nat} (hne : ¬ root = other) (h1 : (sumsS l root c a).2 = 0) (h2 : (sumsS l other d b).2 = 0)
    (h3 : (sumsS (addF l root c a) other d b).2 = 0) (h4 : (sumsS (addF l other d b) root c a).2 = 0) : addF (addF l root c a) other d b = addF (addF l other d b) root c a := by
  have hu := (chkC_0 (sums_0 h1).2.1).2.1
  refine Srt.ext_fnd totC (addF_up (addF_up hu)) (addF_up (addF_up hu)) fun ⟨r, k⟩ => ?_
  have hne' : ¬ other = root := fun e => hne e.symm
  rw [fnd_addF h3, fnd_addF h4, fnd_addF h1, fnd_addF h2, was_addF h1, was_addF h2]
  by_cases hr : r = root
  · subst hr
    simp [hne]
  · by_cases hr2 : r = other
    · subst hr2
      simp [hne']
    · simp [hr, hr2]
theorem addS_other {l : List Ct} {root other : Nat} {c d : List Cv} {a b : Nat} (hne : ¬ root = other) (h1 : (sumsS l root c a).2 = 0) (hl : (addF l root c a).length ≤ 128) (h2 : (sumsS l other d b).2 = 0) : (sumsS (addF l root c a) other d b).2 = 0 := by
  have hs := sums_0 h2
  rw [sums_iff hs.1 (addF_chk h1 hl) hs.2.2.1]
  intro x hx
  rw [was_addF h1, if_neg (fun e => hne e.1.symm)]
  exact hs.2.2.2.2 x hx
/-! ### Told as the laws ask -/
theorem may_law {l : List Ct} {root : Nat} {cav : List Cv} {n : Nat} : ((sumsS l root cav n).2 = 0 ∧ mayS l root cav n = (true, 0)) ∨ ((sumsS l root cav n).2 = 8 ∧ mayS l root cav n = (false, 0)) ∨ ((sumsS l root cav n).2 = 1 ∧ mayS l root cav n = (false, 1)) := by
  rcases sums_1 (l := l) (root := root) (cav := cav) (n := n) with h | h | h
  · exact .inl ⟨h, by simp [mayS, h]⟩
  · exact .inr (.inr ⟨h, by simp [mayS, h]⟩)
  · exact .inr (.inl ⟨h, by simp [mayS, h]⟩)
theorem none_law {l : List Ct} {root : Nat} {cav : List Cv} {a b : Nat} (hl : chkC l = 0) (h : (addC l root cav (a + b)).2 = 0) :
    (addC l root cav a).2 = 0 ∧ (addC (addC l root cav a).1 root cav b).2 = 0 ∧ (addC l root cav (a + b)).1 = (addC (addC l root cav a).1 root cav b).1 := by
  obtain ⟨h1, h2, h3⟩ := add_sums h
  have hs := sums_0 h1
  have hu := (chkC_0 hl).2.1
  have ha : (sumsS l root cav a).2 = 0 := by
    rw [sums_iff hs.1 hl (by omega)]
    exact fun x hx => by have := hs.2.2.2.2 x hx; omega
  have hlen : ∀ (n : Nat) (L : List Ct), (sumsS L root cav n).2 = 0 → Srt.Up Ct.key ltC L → ¬ n = 0 → (addF L root cav n).length = L.length + ((capS cav).1.filter fun x => (Srt.fnd Ct.key L (root, x.1)).isNone).length := fun n L hn hu hn0 => by
    rw [addF, if_neg hn0, fold_length (sums_nd hn) hu, (sums_0 hn).2.2.2.1, List.filter_map, List.length_map]
    rfl
  have hal : (addF l root cav a).length ≤ 128 := by
    by_cases ha0 : a = 0
    · rw [addF, if_pos ha0]; exact (chkC_0 hl).1
    · rw [hlen a l ha hu ha0, ← hlen (a + b) l h1 hu (by omega)]; exact h2
  have hea : addC l root cav a = (addF l root cav a, 0) := by rw [addC_eq ha, if_pos hal]
  have hca := addF_chk ha hal
  have hb : (sumsS (addF l root cav a) root cav b).2 = 0 := by
    rw [sums_iff hs.1 hca (by omega)]
    intro x hx
    have h5 : (nlk x.1 (capS cav).1).isSome = true := by rw [(nlk_some (cap_nd cav)).2 (show (x.1, x.2) ∈ _ from hx)]; rfl
    rw [was_addF ha, if_pos ⟨rfl, h5⟩]
    have := hs.2.2.2.2 x hx
    omega
  have hbl : (addF (addF l root cav a) root cav b).length ≤ 128 := by
    by_cases hb0 : b = 0
    · rw [addF, if_pos hb0]; exact hal
    · rw [hlen b _ hb (addF_up hu) hb0]
      by_cases ha0 : a = 0
      · have e : addF l root cav a = l := by rw [addF, if_pos ha0]
        rw [e, ← hlen (a + b) l h1 hu (by omega)]; exact h2
      · have : ((capS cav).1.filter fun x => (Srt.fnd Ct.key (addF l root cav a) (root, x.1)).isNone) = [] := by
          rw [List.filter_eq_nil_iff]
          intro x hx
          have h5 : (nlk x.1 (capS cav).1).isSome = true := by rw [(nlk_some (cap_nd cav)).2 (show (x.1, x.2) ∈ _ from hx)]; rfl
          rw [fnd_addF ha, if_pos ⟨⟨rfl, ha0⟩, h5⟩]; simp
        rw [this]; exact hal
  rw [hea]
  refine ⟨rfl, ?_⟩
  dsimp only
  rw [addC_eq hb, if_pos hbl, h3]
  refine ⟨rfl, ?_⟩
  refine was_ext (addF_chk h1 h2) (addF_chk hb hbl) fun r k => ?_
  rw [was_addF h1, was_addF hb, was_addF ha]
  split <;> omega
theorem cap_free {k : Cv} (h : k.kind = 1) (hb : k.b = 0) : capS [k] = ([], 0) := by
  simp [capS, cavS, h, hb, capF]
theorem free_law {l : List Ct} {root : Nat} {k : Cv} {a : Nat} (h : k.kind = 1) (hb : k.b = 0) (hl : chkC l = 0) (ha : a ≤ 4611686018427387904) : addC l root [k] a = (l, 0) := by
  have hc := cap_free h hb
  have hs : (sumsS l root [k] a).2 = 0 := by rw [sums_iff (by rw [hc]) hl ha, hc]; simp
  have hf : addF l root [k] a = l := by
    rw [addF, (sums_0 hs).2.2.2.1, hc]; simp
  rw [addC_eq hs, hf, if_pos (chkC_0 hl).1]
theorem zero_law {l : List Ct} {root : Nat} {cav : List Cv} (h : (addC l root cav 0).2 = 0) : (addC l root cav 0).1 = l := by
  rw [(add_sums h).2.2]; simp [addF]
theorem roots_law {l : List Ct} {root other : Nat} {c d : List Cv} {a b : Nat} (hne : ¬ root = other) (h1 : (addC l root c a).2 = 0) (h2 : (addC l other d b).2 = 0) :
    mayS (addC l root c a).1 other d b = (true, 0) ∧ addC (addC l root c a).1 other d b = addC (addC l other d b).1 root c a ∧ ((addC (addC l root c a).1 other d b).2 = 0 ∨ (addC (addC l root c a).1 other d b).2 = 7) := by
  obtain ⟨s1, l1, e1⟩ := add_sums h1
  obtain ⟨s2, l2, e2⟩ := add_sums h2
  have s3 := addS_other hne s1 l1 s2
  have s4 := addS_other (fun e => hne e.symm) s2 l2 s1
  rw [e1, e2]
  dsimp only
  refine ⟨?_, ?_, ?_⟩
  · rcases may_law (l := addF l root c a) (root := other) (cav := d) (n := b) with h | h | h
    · exact h.2
    · rw [s3] at h; exact absurd h.1 (by decide)
    · rw [s3] at h; exact absurd h.1 (by decide)
  · rw [addC_eq s3, addC_eq s4, addF_comm hne s1 s2 s3 s4]
  · rw [addC_eq s3]; split <;> simp
/-- With a cap of its own. -/
theorem capF_le {b : Nat} {own : Cv} (hk : own.kind = 4) (hb : own.b = b) (m : List (Nat × Int)) : ∃ v, nlk b (capF m own) = some v ∧ v ≤ own.a := by
  subst hb
  unfold capF
  rw [if_pos hk]
  cases hn : nlk own.b m with
  | none => exact ⟨own.a, by simp [nlk_nset], Int.le_refl _⟩
  | some n =>
    by_cases h : (own.a : Int) < n
    · simp only [h, if_true]; exact ⟨own.a, by simp [nlk_nset], Int.le_refl _⟩
    · simp only [h, if_false]; exact ⟨n, hn, by omega⟩
theorem caps_law {l : List Ct} {root b most n : Nat} {cav : List Cv} (h : (addC l root (cav ++ [⟨4, most, b⟩]) n).2 = 0) :
    chkC (addC l root (cav ++ [⟨4, most, b⟩]) n).1 = 0 ∧ was (addC l root (cav ++ [⟨4, most, b⟩]) n).1 root b = was l root b + n ∧ was l root b + n ≤ most ∧ was l root b + n ≤ 4611686018427387904 := by
  obtain ⟨s1, l1, e1⟩ := add_sums h
  have hs := sums_0 s1
  have hcap : ∃ v, nlk b (capS (cav ++ [⟨4, most, b⟩])).1 = some v ∧ v ≤ most := by
    have h1 := hs.1
    unfold capS at h1 ⊢
    split at h1
    · rename_i hc
      rw [if_pos hc, List.foldl_append]
      exact capF_le (own := ⟨4, most, b⟩) rfl rfl _
    · cases h1
  obtain ⟨v, hv, hle⟩ := hcap
  have hx := hs.2.2.2.2 (b, v) ((nlk_some (cap_nd _)).1 hv)
  dsimp only at hx
  rw [e1]
  dsimp only
  refine ⟨addF_chk s1 l1, ?_, by omega, by omega⟩
  rw [was_addF s1, if_pos ⟨rfl, by rw [hv]; rfl⟩]
theorem caps_other {l : List Ct} {root r b n : Nat} {cav : List Cv} (hne : ¬ r = root) (h : (addC l r cav n).2 = 0) : chkC (addC l r cav n).1 = 0 ∧ was (addC l r cav n).1 root b = was l root b := by
  obtain ⟨s1, l1, e1⟩ := add_sums h
  rw [e1]
  dsimp only
  refine ⟨addF_chk s1 l1, ?_⟩
  rw [was_addF s1, if_neg (fun e => hne e.1.symm)]
theorem addC_err {l : List Ct} {root : Nat} {cav : List Cv} {n : Nat} (h : ¬ (addC l root cav n).2 = 0) : (addC l root cav n).1 = [] := by
  by_cases hs : (sumsS l root cav n).2 = 0
  · rw [addC_eq hs] at h ⊢
    split
    · rename_i h1; rw [if_pos h1] at h; exact absurd rfl h
    · rfl
  · rw [addC_no hs]
theorem spentS_ok {l : List Ct} (h : chkC l = 0) (root b : Nat) : spentS l root b = (was l root b, 0) := by rw [spentS, if_pos h]
/-! ### As the reference does it -/
theorem cap_inv (l : List Cv) : (∀ x ∈ l.foldl capF [], ∃ c ∈ l, c.kind = 4 ∧ c.b = x.1 ∧ (c.a : Int) = x.2) ∧ ∀ c ∈ l, c.kind = 4 → ∃ v, nlk c.b (l.foldl capF []) = some v ∧ v ≤ c.a := by
  have nd : ∀ l : List Cv, ((l.foldl capF []).map (·.1)).Nodup := by
    intro l
    have : ∀ (l : List Cv) (m : List (Nat × Int)), (m.map (·.1)).Nodup → ((l.foldl capF m).map (·.1)).Nodup := by
      intro l
      induction l with
      | nil => exact fun m h => h
      | cons c l ih =>
        intro m h
        refine ih _ ?_
        unfold capF
        split
        · split
          · split
            · exact nset_nd h
            · exact h
          · exact nset_nd h
        · exact h
    exact this l [] (by simp)
  have rev : ∀ k : Nat, k ≤ l.length → (∀ x ∈ (l.take k).foldl capF [], ∃ c ∈ l.take k, c.kind = 4 ∧ c.b = x.1 ∧ (c.a : Int) = x.2) ∧ ∀ c ∈ l.take k, c.kind = 4 → ∃ v, nlk c.b ((l.take k).foldl capF []) = some v ∧ v ≤ c.a := by
    intro k
    induction k with
    | zero => intro _; simp
    | succ k ih =>
      intro hk
      obtain ⟨h1, h2⟩ := ih (by omega)
      have e : (l.take (k + 1)).foldl capF [] = capF ((l.take k).foldl capF []) (l.getD k default) := by rw [take_succ (by omega), List.foldl_append]; rfl
      have hnd := nd (l.take k)
      have hnd' := nd (l.take (k + 1))
      rw [e] at hnd' ⊢
      rw [take_succ (by omega)]
      generalize l.getD k default = c at *
      generalize (l.take k).foldl capF [] = m at *
      have hmem : ∀ x, x ∈ capF m c → x ∈ m ∨ (c.kind = 4 ∧ x = (c.b, (c.a : Int))) := fun x hx => by
        have hx' := (nlk_some (k := x.1) (b := x.2) hnd').2 hx
        unfold capF at hx'
        have hset : nlk x.1 (nset c.b c.a m) = some x.2 → c.kind = 4 → x ∈ m ∨ (c.kind = 4 ∧ x = (c.b, (c.a : Int))) := fun h hk4 => by
          rw [nlk_nset] at h
          split at h
          · rename_i he; exact .inr ⟨hk4, Prod.ext he (Option.some.inj h).symm⟩
          · exact .inl ((nlk_some hnd).1 h)
        split at hx'
        · rename_i hk4
          split at hx'
          · split at hx'
            · exact hset hx' hk4
            · exact .inl ((nlk_some hnd).1 hx')
          · exact hset hx' hk4
        · exact .inl ((nlk_some hnd).1 hx')
      refine ⟨fun x hx => ?_, fun c' hc' hk4 => ?_⟩
      · rcases hmem x hx with h | ⟨h, rfl⟩
        · obtain ⟨c', q1, q2⟩ := h1 x h
          exact ⟨c', List.mem_append_left _ q1, q2⟩
        · exact ⟨c, by simp, h, rfl, rfl⟩
      · have step : ∀ {b : Nat} {v : Int}, nlk b m = some v → ∃ u, nlk b (capF m c) = some u ∧ u ≤ v := fun {b v} hv => by
          unfold capF
          split
          · split
            · rename_i n hn
              split
              · rename_i hlt
                rw [nlk_nset]
                split
                · rename_i he; subst he; rw [hn] at hv; cases hv; exact ⟨_, rfl, by omega⟩
                · exact ⟨v, hv, Int.le_refl _⟩
              · exact ⟨v, hv, Int.le_refl _⟩
            · rename_i hn
              rw [nlk_nset]
              split
              · rename_i he; subst he; rw [hn] at hv; cases hv
              · exact ⟨v, hv, Int.le_refl _⟩
          · exact ⟨v, hv, Int.le_refl _⟩
        rcases List.mem_append.1 hc' with hc' | hc'
        · obtain ⟨v, q1, q2⟩ := h2 c' hc' hk4
          obtain ⟨u, q3, q4⟩ := step q1
          exact ⟨u, q3, by omega⟩
        · simp at hc'; subst hc'
          exact capF_le hk4 rfl m
  have := rev l.length (Nat.le_refl _)
  rwa [List.take_length] at this
theorem sums_ref {l : List Ct} {root : Nat} {cav : List Cv} {n : Nat} (h1 : (capS cav).2 = 0) (h2 : chkC l = 0) (h3 : n ≤ 4611686018427387904) :
    (sumsS l root cav n).2 = 0 ↔ ∀ c ∈ cav, c.kind = 4 → (was l root c.b : Int) + n ≤ 4611686018427387904 ∧ (was l root c.b : Int) + n ≤ c.a := by
  rw [sums_iff h1 h2 h3]
  have hc : (capS cav).1 = cav.foldl capF [] := by
    unfold capS at h1 ⊢
    split at h1
    · rename_i h; rw [if_pos h]
    · cases h1
  obtain ⟨q1, q2⟩ := cap_inv cav
  rw [hc]
  have hnd := cap_nd cav
  rw [hc] at hnd
  refine ⟨fun h c hcm hk => ?_, fun h x hx => ?_⟩
  · obtain ⟨v, hv, hle⟩ := q2 c hcm hk
    have := h (c.b, v) ((nlk_some hnd).1 hv)
    dsimp only at this
    omega
  · obtain ⟨c, hcm, hk, hb, ha⟩ := q1 x hx
    have := h c hcm hk
    rw [hb] at this
    omega
theorem caps_iff {l : List Cv} : (capS l).2 = 0 ↔ l.length ≤ 16 ∧ l.all (fun c => decide (cavS c = 0)) = true := by
  unfold capS; split
  · rename_i h; simp [h]
  · rename_i h; simpa using h
/-- The counts named, each once. -/
def refF (l : List Ct) (root n : Nat) (m : List (Nat × Int)) : List Ct := (m.map fun x => (x.1, (was l root x.1 : Int) + n)).foldl (putC root) l
theorem refF_old {l : List Ct} {root n a : Nat} {b : Int} {m : List (Nat × Int)} (h : a ∈ m.map (·.1)) : refF l root n (nset a b m) = refF l root n m := by
  unfold refF
  congr 1
  have : ∀ m m' : List (Nat × Int), m.map (·.1) = m'.map (·.1) → (m.map fun x => (x.1, (was l root x.1 : Int) + n)) = m'.map fun x => (x.1, (was l root x.1 : Int) + n) := fun m m' he => by
    have e : ∀ m : List (Nat × Int), (m.map fun x => (x.1, (was l root x.1 : Int) + n)) = (m.map (·.1)).map fun k => (k, (was l root k : Int) + n) := fun m => by rw [List.map_map]; rfl
    rw [e, e, he]
  exact this _ _ (by rw [nset_keys, if_pos h])
theorem refF_new {l : List Ct} {root n a : Nat} {b : Int} {m : List (Nat × Int)} (h : a ∉ m.map (·.1)) : refF l root n (nset a b m) = putC root (refF l root n m) (a, (was l root a : Int) + n) := by
  unfold refF
  rw [nset_new h, List.map_append, List.foldl_append]; rfl
/-- One caveat more. -/
theorem ref_step {l : List Ct} {root n : Nat} {m : List (Nat × Int)} {c : Cv} : refF l root n (capF m c) = if c.kind = 4 ∧ nlk c.b m = none then putC root (refF l root n m) (c.b, (was l root c.b : Int) + n) else refF l root n m := by
  unfold capF
  by_cases hk : c.kind = 4
  · rw [if_pos hk]
    cases hn : nlk c.b m with
    | none =>
      simp only [hk, and_self, if_true]
      exact refF_new (nlk_none.1 hn)
    | some v =>
      have hin : c.b ∈ m.map (·.1) := by
        refine Classical.byContradiction fun h => ?_
        rw [nlk_none.2 h] at hn; cases hn
      simp only [reduceCtorEq, and_false, if_false]
      split
      · exact refF_old hin
      · rfl
  · rw [if_neg hk, if_neg (fun h => hk h.1)]
theorem ahead_iff {l : List Cv} {b : Nat} {i : Nat} : ((l.take i).any fun c => decide (c.kind = 4 ∧ c.b = b)) = true ↔ ¬ nlk b ((l.take i).foldl capF []) = none := by
  obtain ⟨q1, q2⟩ := cap_inv (l.take i)
  rw [List.any_eq_true]
  refine ⟨fun ⟨c, hc, h⟩ => ?_, fun h => ?_⟩
  · simp only [decide_eq_true_eq] at h
    obtain ⟨v, hv, _⟩ := q2 c hc h.1
    rw [← h.2, hv]; simp
  · rw [nlk_none, Classical.not_not] at h
    obtain ⟨x, hx, rfl⟩ := List.mem_map.1 h
    obtain ⟨c, hc, hk, hb, _⟩ := q1 x hx
    exact ⟨c, hc, by simp [hk, hb]⟩
theorem refF_up {l : List Ct} {root n : Nat} {m : List (Nat × Int)} (h : Srt.Up Ct.key ltC l) : Srt.Up Ct.key ltC (refF l root n m) := fold_up h
theorem refF_end {l : List Ct} {root n : Nat} {cav : List Cv} (h : (sumsS l root cav n).2 = 0) (hn : ¬ n = 0) : refF l root n (cav.foldl capF []) = addF l root cav n := by
  have hs := sums_0 h
  have hc : (capS cav).1 = cav.foldl capF [] := by
    have h1 := hs.1
    unfold capS at h1 ⊢
    split at h1
    · rename_i h; rw [if_pos h]
    · cases h1
  rw [addF, if_neg hn, hs.2.2.2.1, hc]; rfl
end Dm
namespace Dm
open Go Go.Proofs Go.IntWalk
@[go_sem] def equal_r (a : List Ct) (b : List Ct) : D := .bool (decide (a = b))
@[go_sem] abbrev n_equal : FuncId := 28
@[go_sem] def equal_T : Tab := []
theorem equal_T_ok : TabOk Try.prog equal_T := TabOk.nil
set_option maxRecDepth 8000 in
set_option maxHeartbeats 1000000 in
theorem equal_ok (a : List Ct) (b : List Ct)  : PureFn Try.prog 28 [.sl (cts a), .sl (cts b)] (equal_r a b) := by
  refine .of (ac28 equal_T_ok (Nat.le_of_ble_eq_true rfl) ?_)
  simp -implicitDefEqProofs only [cd_t, cd_f, cd_dec, cd_not, cd_and, cd_or, grd_tt, grd_ff, grd_tf, grd_ft, grd_dt, grd_df, grd_nt, grd_nf, go_sem, Go.Proofs.Try.f28, reduceIte, reduceCtorEq, Nat.reduceEqDiff, Nat.reduceAdd, Nat.reduceLeDiff, Nat.reduceSub, Nat.reduceMul, Nat.reduceLT, Nat.reduceShiftRight, Nat.reduceMod, Int.reduceLE, Int.reduceLT, Int.reduceToNat, decide_true, Bool.and_self, Bool.true_and, Ob.map.injEq, Ob.it.injEq, List.cons.injEq, true_and, and_true]
  refine fun ha hb => ⟨fun hl _ => ?_, fun h => ?_⟩
  · refine SWp.loop (ι := { i : Nat // i ≤ a.length ∧ a.take i = b.take i }) (fun i => ⟨[(0, .sl (cts a)), (1, .sl (cts b)), (12, .int .i64 a.length), (13, .int .i64 i.1)], [], 0⟩) (fun i => a.length - i.1) ⟨0, by simp⟩ ?_ ?_
    · simp [go_sem]
    · rintro ⟨i, hi, hab⟩
      refine awp_sound equal_T_ok.toS lv28 _ _ _ rfl ?_
      simp -implicitDefEqProofs only [cd_t, cd_f, cd_dec, cd_not, cd_and, cd_or, grd_tt, grd_ff, grd_tf, grd_ft, grd_dt, grd_df, grd_nt, grd_nf, go_sem, reduceIte, reduceCtorEq, Nat.reduceEqDiff, Nat.reduceAdd, Nat.reduceLeDiff, Nat.reduceSub, Nat.reduceMul, Nat.reduceLT, Nat.reduceShiftRight, Nat.reduceMod, Int.reduceLE, Int.reduceLT, Int.reduceToNat, decide_true, Bool.and_self, Bool.true_and, Ob.map.injEq, Ob.it.injEq, List.cons.injEq, true_and, and_true]
      refine ⟨fun h => ?_, fun h => ?_⟩
      · refine ADraw.run us28_6 equal_T_ok follows_mixed (by kernel_rfl) (by kernel_rfl) ?_
        simp -implicitDefEqProofs only [cd_t, cd_f, cd_dec, cd_not, cd_and, cd_or, grd_tt, grd_ff, grd_tf, grd_ft, grd_dt, grd_df, grd_nt, grd_nf, go_sem, reduceIte, reduceCtorEq, Nat.reduceEqDiff, Nat.reduceAdd, Nat.reduceLeDiff, Nat.reduceSub, Nat.reduceMul, Nat.reduceLT, Nat.reduceShiftRight, Nat.reduceMod, Int.reduceLE, Int.reduceLT, Int.reduceToNat, decide_true, Bool.and_self, Bool.true_and, Ob.map.injEq, Ob.it.injEq, List.cons.injEq, true_and, and_true]
        have h1 : i < a.length := by omega
        have h2 : i < b.length := by omega
        have ht := take_succ_iff h1 h2 hab
        refine ⟨by omega, by omega, fun he => ⟨⟨i + 1, h1, ht.2 he⟩, by dsimp only; omega, i64_in _ (by omega)⟩, fun he => ?_⟩
        rw [eq_comm, decide_eq_false_iff_not]
        rintro rfl
        exact he rfl
      · have e : i = a.length := by omega
        have : a = b := by
          rw [e, List.take_length] at hab
          rw [hab, List.take_of_length_le (by omega)]
        simp [this]
  · have : a ≠ b := by rintro rfl; exact h rfl
    simp [this]
def sp_equal : List D → Option (Prop × D × Fr)
  | [.c (.sl z1), .c (.sl z2)] => some (z1 = cts (dcts z1) ∧ z2 = cts (dcts z2), equal_r (dcts z1) (dcts z2), [])
  | _ => none
attribute [go_sem] sp_equal
theorem sp_equal_ok : ∀ rs p r fr, sp_equal rs = some (p, r, fr) → p → FnOk Try.prog 28 rs r fr := by
  intro rs p r fr h hp
  unfold sp_equal at h
  split at h <;> cases h
  obtain ⟨hc0, hc1⟩ := hp
  rename_i z1 z2
  obtain ⟨z1, rfl⟩ : ∃ m, z1 = cts m := ⟨_, hc0⟩
  obtain ⟨z2, rfl⟩ : ∃ m, z2 = cts m := ⟨_, hc1⟩
  simp only [dcts_cts]
  exact equal_ok z1 z2
@[go_sem] def Same_r (a : List Ct) (b : List Ct) : D := .bool (decide (a = b))
@[go_sem] abbrev n_Same : FuncId := 15
@[go_sem] def Same_T : Tab := [(28, sp_equal)]
theorem Same_T_ok : TabOk Try.prog Same_T := (TabOk.cons sp_equal_ok TabOk.nil)
set_option maxRecDepth 8000 in
set_option maxHeartbeats 1000000 in
theorem Same_ok (a : List Ct) (b : List Ct)  : PureFn Try.prog 15 [.sl (cts a), .sl (cts b)] (Same_r a b) := by
  refine .of (ac15 Same_T_ok (Nat.le_of_ble_eq_true rfl) ?_)
  simp -implicitDefEqProofs only [cd_t, cd_f, cd_dec, cd_not, cd_and, cd_or, grd_tt, grd_ff, grd_tf, grd_ft, grd_dt, grd_df, grd_nt, grd_nf, go_sem, Go.Proofs.Try.f15, reduceIte, reduceCtorEq, Nat.reduceEqDiff, Nat.reduceAdd, Nat.reduceLeDiff, Nat.reduceSub, Nat.reduceMul, Nat.reduceLT, Nat.reduceShiftRight, Nat.reduceMod, Int.reduceLE, Int.reduceLT, Int.reduceToNat, decide_true, Bool.and_self, Bool.true_and, Ob.map.injEq, Ob.it.injEq, List.cons.injEq, true_and, and_true]
def sp_Same : List D → Option (Prop × D × Fr)
  | [.c (.sl z3), .c (.sl z4)] => some (z3 = cts (dcts z3) ∧ z4 = cts (dcts z4), Same_r (dcts z3) (dcts z4), [])
  | _ => none
attribute [go_sem] sp_Same
theorem sp_Same_ok : ∀ rs p r fr, sp_Same rs = some (p, r, fr) → p → FnOk Try.prog 15 rs r fr := by
  intro rs p r fr h hp
  unfold sp_Same at h
  split at h <;> cases h
  obtain ⟨hc0, hc1⟩ := hp
  rename_i z3 z4
  obtain ⟨z3, rfl⟩ : ∃ m, z3 = cts m := ⟨_, hc0⟩
  obtain ⟨z4, rfl⟩ : ∃ m, z4 = cts m := ⟨_, hc1⟩
  simp only [dcts_cts]
  exact Same_ok z3 z4
@[go_sem] def few_r (l : List Ct) (c : List Cv) : D := .bool (decide ((l.length ≤ 40 ∨ 127 ≤ l.length ∧ l.length ≤ 130) ∧ c.length ≤ 20))
@[go_sem] abbrev n_few : FuncId := 12
@[go_sem] def few_T : Tab := []
theorem few_T_ok : TabOk Try.prog few_T := TabOk.nil
set_option maxRecDepth 8000 in
set_option maxHeartbeats 1000000 in
theorem few_ok (l : List Ct) (c : List Cv)  : PureFn Try.prog 12 [.sl (cts l), .sl (cvs c)] (few_r l c) := by
  refine .of (ac12 few_T_ok (Nat.le_of_ble_eq_true rfl) ?_)
  simp -implicitDefEqProofs only [cd_t, cd_f, cd_dec, cd_not, cd_and, cd_or, grd_tt, grd_ff, grd_tf, grd_ft, grd_dt, grd_df, grd_nt, grd_nf, go_sem, Go.Proofs.Try.f12, reduceIte, reduceCtorEq, Nat.reduceEqDiff, Nat.reduceAdd, Nat.reduceLeDiff, Nat.reduceSub, Nat.reduceMul, Nat.reduceLT, Nat.reduceShiftRight, Nat.reduceMod, Int.reduceLE, Int.reduceLT, Int.reduceToNat, decide_true, Bool.and_self, Bool.true_and, Ob.map.injEq, Ob.it.injEq, List.cons.injEq, true_and, and_true]
  refine fun h1 => ⟨fun h2 h3 => ⟨fun h4 _ => ⟨fun h5 _ => ?_, fun h5 => ?_⟩, fun h4 => ?_⟩, fun h2 _ => ?_⟩
  · exact decide_eq_decide.2 (by omega)
  · rw [eq_comm, decide_eq_false_iff_not]; omega
  · rw [eq_comm, decide_eq_false_iff_not]; omega
  · exact decide_eq_decide.2 (by omega)
def sp_few : List D → Option (Prop × D × Fr)
  | [.c (.sl z5), .c (.sl z6)] => some (z5 = cts (dcts z5) ∧ z6 = cvs (dcvs z6), few_r (dcts z5) (dcvs z6), [])
  | _ => none
attribute [go_sem] sp_few
theorem sp_few_ok : ∀ rs p r fr, sp_few rs = some (p, r, fr) → p → FnOk Try.prog 12 rs r fr := by
  intro rs p r fr h hp
  unfold sp_few at h
  split at h <;> cases h
  obtain ⟨hc0, hc1⟩ := hp
  rename_i z5 z6
  obtain ⟨z5, rfl⟩ : ∃ m, z5 = cts m := ⟨_, hc0⟩
  obtain ⟨z6, rfl⟩ : ∃ m, z6 = cvs m := ⟨_, hc1⟩
  simp only [dcts_cts, dcvs_cvs]
  exact few_ok z5 z6
@[go_sem] def live_r  : D := .bool true
@[go_sem] abbrev n_live : FuncId := 8
@[go_sem] def live_T : Tab := [(9, sp_Add), (3000000009, fun _ => none), (13, sp_May)]
theorem live_T_ok : TabOk Try.prog live_T := (TabOk.cons sp_Add_ok (TabOk.cons (lend_ok 9) (TabOk.cons sp_May_ok TabOk.nil)))
set_option maxRecDepth 8000 in
set_option maxHeartbeats 1000000 in
theorem live_ok   : PureFn Try.prog 8 [] (live_r ) := by
  refine .of (ac8 live_T_ok (Nat.le_of_ble_eq_true rfl) ?_)
  simp -implicitDefEqProofs only [cd_t, cd_f, cd_dec, cd_not, cd_and, cd_or, grd_tt, grd_ff, grd_tf, grd_ft, grd_dt, grd_df, grd_nt, grd_nf, go_sem, Go.Proofs.Try.f8, reduceIte, reduceCtorEq, Nat.reduceEqDiff, Nat.reduceAdd, Nat.reduceLeDiff, Nat.reduceSub, Nat.reduceMul, Nat.reduceLT, Nat.reduceShiftRight, Nat.reduceMod, Int.reduceLE, Int.reduceLT, Int.reduceToNat, decide_true, Bool.and_self, Bool.true_and, Ob.map.injEq, Ob.it.injEq, List.cons.injEq, true_and, and_true]
  rw [show dcts [] = [] from rfl]
  refine ⟨rfl, fun _ => ⟨fun _ => ⟨fun _ => ⟨fun _ => by decide +kernel, fun h => ?_⟩, fun h => h (by decide +kernel)⟩, fun h => h (by decide +kernel)⟩, fun h => h (by decide +kernel)⟩
  have e : (mayS (addC [] 3 [⟨4, 10, 1⟩] 6).1 3 [⟨4, 10, 1⟩] 4).1 = true := by decide +kernel
  rw [e] at h; cases h
def sp_live : List D → Option (Prop × D × Fr)
  | [] => some (True, live_r , [])
  | _ => none
attribute [go_sem] sp_live
theorem sp_live_ok : ∀ rs p r fr, sp_live rs = some (p, r, fr) → p → FnOk Try.prog 8 rs r fr := by
  intro rs p r fr h hp
  unfold sp_live at h
  split at h <;> cases h
  exact live_ok 
@[go_sem] def SpendMay_r (l : List Ct) (root : Nat) (cav : List Cv) (n : Nat) (other : Nat) (b : Nat) : D := .bool true
@[go_sem] abbrev n_SpendMay : FuncId := 4
@[go_sem] def SpendMay_T : Tab := [(8, sp_live), (12, sp_few), (13, sp_May), (9, sp_Addp), (10, sp_Spent), (14, sp_caps)]
theorem SpendMay_T_ok : TabOk Try.prog SpendMay_T := (TabOk.cons sp_live_ok (TabOk.cons sp_few_ok (TabOk.cons sp_May_ok (TabOk.cons sp_Addp_ok (TabOk.cons sp_Spent_ok (TabOk.cons sp_caps_ok TabOk.nil))))))
set_option maxRecDepth 8000 in
set_option maxHeartbeats 1000000 in
theorem SpendMay_ok (l : List Ct) (root : Nat) (cav : List Cv) (n : Nat) (other : Nat) (b : Nat)  : PureFn Try.prog 4 [.sl (cts l), .c (.int .u64 (root : Int)), .sl (cvs cav), .c (.int .u64 (n : Int)), .c (.int .u64 (other : Int)), .c (.int .u64 (b : Int))] (SpendMay_r l root cav n other b) := by
  refine .of (ac4 SpendMay_T_ok (Nat.le_of_ble_eq_true rfl) ?_)
  simp -implicitDefEqProofs only [cd_t, cd_f, cd_dec, cd_not, cd_and, cd_or, grd_tt, grd_ff, grd_tf, grd_ft, grd_dt, grd_df, grd_nt, grd_nf, go_sem, Go.Proofs.Try.f4, reduceIte, reduceCtorEq, Nat.reduceEqDiff, Nat.reduceAdd, Nat.reduceLeDiff, Nat.reduceSub, Nat.reduceMul, Nat.reduceLT, Nat.reduceShiftRight, Nat.reduceMod, Int.reduceLE, Int.reduceLT, Int.reduceToNat, decide_true, Bool.and_self, Bool.true_and, Ob.map.injEq, Ob.it.injEq, List.cons.injEq, true_and, and_true]
  refine ⟨fun _ => ?_, fun _ => trivial⟩
  have hch : ∀ {r : Nat}, (sumsS l root cav n).2 = 0 → (addC l root cav n).2 = 0 → chkC l = 0 ∧ chkC (addF l root cav n) = 0 := fun {r} h1 h2 => ⟨(sums_0 h1).2.1, addF_chk h1 (add_sums h2).2.1⟩
  rcases may_law (l := l) (root := root) (cav := cav) (n := n) with ⟨h1, h2⟩ | ⟨h1, h2⟩ | ⟨h1, h2⟩
  · rw [h2]
    refine ⟨fun _ => ⟨fun _ => ⟨fun h3 => ?_, fun h3 => ?_⟩, fun h => absurd h (by decide)⟩, fun h => absurd rfl h⟩
    · obtain ⟨_, h4, h5⟩ := add_sums h3
      rw [h5]
      have hc := addF_chk h1 h4
      have hl := (sums_0 h1).2.1
      dsimp only
      have e1 : spentS l other b = (was l other b, 0) := by rw [spentS, if_pos hl]
      have e2 : spentS (addF l root cav n) other b = (was (addF l root cav n) other b, 0) := by rw [spentS, if_pos hc]
      rw [e1, e2, was_addF h1]
      refine ⟨fun _ => ⟨fun _ => ⟨fun _ => ⟨fun a ha => ⟨fun hor => ?_, fun hor => ?_⟩, fun ha => ?_⟩, fun h => h (sums_0 h1).1⟩, fun h => h rfl⟩, fun h => h rfl⟩
      · have hor' : other = root := by omega
        subst hor'
        have hx := (sums_0 h1).2.2.2.2 (b, a) ((nlk_some (cap_nd cav)).1 ha)
        rw [ha]
        simp only [Option.isSome_some, and_self, if_true]
        dsimp only at hx
        rw [u64_in _ (by omega)]
        exact ⟨fun _ => by simpa using hx.2, fun h => h (by simp)⟩
      · rw [if_neg (fun e => hor (by omega))]; simp
      · rw [ha]; simp
    · rw [addC_eq h1] at h3 ⊢
      split
      · rename_i h4; rw [if_pos h4] at h3; exact absurd rfl h3
      · exact ⟨fun _ _ => by simp, fun h => h rfl⟩
  · rw [h2, addC_no (by rw [h1]; decide), h1]
    exact ⟨fun _ => ⟨fun h => absurd h (by decide), fun _ => ⟨fun _ _ => by simp, fun h => h rfl⟩⟩, fun h => absurd rfl h⟩
  · rw [h2, addC_no (by rw [h1]; decide), h1]
    exact ⟨fun h => absurd h (by decide), fun _ => ⟨fun _ => ⟨fun _ _ => by simp, fun h => h rfl⟩, fun h => absurd h (by decide)⟩⟩
def sp_SpendMay : List D → Option (Prop × D × Fr)
  | [.c (.sl z7), .c (.int .u64 z8), .c (.sl z9), .c (.int .u64 z10), .c (.int .u64 z11), .c (.int .u64 z12)] => some (z7 = cts (dcts z7) ∧ z8 = (z8.toNat : Int) ∧ z9 = cvs (dcvs z9) ∧ z10 = (z10.toNat : Int) ∧ z11 = (z11.toNat : Int) ∧ z12 = (z12.toNat : Int), SpendMay_r (dcts z7) z8.toNat (dcvs z9) z10.toNat z11.toNat z12.toNat, [])
  | _ => none
attribute [go_sem] sp_SpendMay
theorem sp_SpendMay_ok : ∀ rs p r fr, sp_SpendMay rs = some (p, r, fr) → p → FnOk Try.prog 4 rs r fr := by
  intro rs p r fr h hp
  unfold sp_SpendMay at h
  split at h <;> cases h
  obtain ⟨hc0, hc1, hc2, hc3, hc4, hc5⟩ := hp
  rename_i z7 z8 z9 z10 z11 z12
  obtain ⟨z7, rfl⟩ : ∃ m, z7 = cts m := ⟨_, hc0⟩
  obtain ⟨z8, rfl⟩ : ∃ m : Nat, z8 = m := ⟨_, hc1⟩
  obtain ⟨z9, rfl⟩ : ∃ m, z9 = cvs m := ⟨_, hc2⟩
  obtain ⟨z10, rfl⟩ : ∃ m : Nat, z10 = m := ⟨_, hc3⟩
  obtain ⟨z11, rfl⟩ : ∃ m : Nat, z11 = m := ⟨_, hc4⟩
  obtain ⟨z12, rfl⟩ : ∃ m : Nat, z12 = m := ⟨_, hc5⟩
  simp only [Int.toNat_natCast, dcts_cts, dcvs_cvs]
  exact SpendMay_ok z7 z8 z9 z10 z11 z12
@[go_sem] def SpendNone_r (l : List Ct) (root : Nat) (cav : List Cv) (a : Nat) (b : Nat) : D := .bool true
@[go_sem] abbrev n_SpendNone : FuncId := 5
@[go_sem] def SpendNone_T : Tab := [(8, sp_live), (12, sp_few), (11, sp_scheck), (13, sp_May), (9, sp_Addp), (10, sp_Spent), (14, sp_caps), (15, sp_Same)]
theorem SpendNone_T_ok : TabOk Try.prog SpendNone_T := (TabOk.cons sp_live_ok (TabOk.cons sp_few_ok (TabOk.cons sp_scheck_ok (TabOk.cons sp_May_ok (TabOk.cons sp_Addp_ok (TabOk.cons sp_Spent_ok (TabOk.cons sp_caps_ok (TabOk.cons sp_Same_ok TabOk.nil))))))))
set_option maxRecDepth 8000 in
set_option maxHeartbeats 1000000 in
theorem SpendNone_ok (l : List Ct) (root : Nat) (cav : List Cv) (a : Nat) (b : Nat)  : PureFn Try.prog 5 [.sl (cts l), .c (.int .u64 (root : Int)), .sl (cvs cav), .c (.int .u64 (a : Int)), .c (.int .u64 (b : Int))] (SpendNone_r l root cav a b) := by
  refine .of (ac5 SpendNone_T_ok (Nat.le_of_ble_eq_true rfl) ?_)
  simp -implicitDefEqProofs only [cd_t, cd_f, cd_dec, cd_not, cd_and, cd_or, grd_tt, grd_ff, grd_tf, grd_ft, grd_dt, grd_df, grd_nt, grd_nf, go_sem, Go.Proofs.Try.f5, reduceIte, reduceCtorEq, Nat.reduceEqDiff, Nat.reduceAdd, Nat.reduceLeDiff, Nat.reduceSub, Nat.reduceMul, Nat.reduceLT, Nat.reduceShiftRight, Nat.reduceMod, Int.reduceLE, Int.reduceLT, Int.reduceToNat, decide_true, Bool.and_self, Bool.true_and, Ob.map.injEq, Ob.it.injEq, List.cons.injEq, true_and, and_true]
  refine ⟨fun _ => ⟨fun hl => ⟨fun ha => ⟨fun _ => trivial, fun hb => ?_⟩, fun _ => trivial⟩, fun _ => trivial⟩, fun _ => trivial⟩
  rw [free_law (k := ⟨1, 0, 0⟩) rfl rfl hl (by omega), u64_in _ (by omega), show ((a : Int) + b).toNat = a + b by omega]
  have last : ((a : Int) + b = ((a + b : Nat) : Int)) ∧ (((addC l root cav (a + b)).2 = 0 → ((addC l root cav a).2 = 0 → ((addC (addC l root cav a).1 root cav b).2 = 0 → decide ((addC l root cav (a + b)).1 = (addC (addC l root cav a).1 root cav b).1) = true) ∧ (¬ (addC (addC l root cav a).1 root cav b).2 = 0 → False)) ∧ (¬ (addC l root cav a).2 = 0 → False)) ∧ (¬ (addC l root cav (a + b)).2 = 0 → True)) := by
    refine ⟨by omega, fun h => ?_, fun _ => trivial⟩
    obtain ⟨h1, h2, h3⟩ := none_law hl h
    exact ⟨fun _ => ⟨fun _ => by simpa using h3, fun h => h h2⟩, fun h => h h1⟩
  exact ⟨fun _ => ⟨fun _ => ⟨fun h0 => ⟨fun _ => last, fun h => h (zero_law h0)⟩, fun _ => last⟩, fun h => h rfl⟩, fun h => h rfl⟩
def sp_SpendNone : List D → Option (Prop × D × Fr)
  | [.c (.sl z13), .c (.int .u64 z14), .c (.sl z15), .c (.int .u64 z16), .c (.int .u64 z17)] => some (z13 = cts (dcts z13) ∧ z14 = (z14.toNat : Int) ∧ z15 = cvs (dcvs z15) ∧ z16 = (z16.toNat : Int) ∧ z17 = (z17.toNat : Int), SpendNone_r (dcts z13) z14.toNat (dcvs z15) z16.toNat z17.toNat, [])
  | _ => none
attribute [go_sem] sp_SpendNone
theorem sp_SpendNone_ok : ∀ rs p r fr, sp_SpendNone rs = some (p, r, fr) → p → FnOk Try.prog 5 rs r fr := by
  intro rs p r fr h hp
  unfold sp_SpendNone at h
  split at h <;> cases h
  obtain ⟨hc0, hc1, hc2, hc3, hc4⟩ := hp
  rename_i z13 z14 z15 z16 z17
  obtain ⟨z13, rfl⟩ : ∃ m, z13 = cts m := ⟨_, hc0⟩
  obtain ⟨z14, rfl⟩ : ∃ m : Nat, z14 = m := ⟨_, hc1⟩
  obtain ⟨z15, rfl⟩ : ∃ m, z15 = cvs m := ⟨_, hc2⟩
  obtain ⟨z16, rfl⟩ : ∃ m : Nat, z16 = m := ⟨_, hc3⟩
  obtain ⟨z17, rfl⟩ : ∃ m : Nat, z17 = m := ⟨_, hc4⟩
  simp only [Int.toNat_natCast, dcts_cts, dcvs_cvs]
  exact SpendNone_ok z13 z14 z15 z16 z17
@[go_sem] def SpendRoots_r (l : List Ct) (root : Nat) (other : Nat) (c : List Cv) (d : List Cv) (a : Nat) (b : Nat) : D := .bool true
@[go_sem] abbrev n_SpendRoots : FuncId := 6
@[go_sem] def SpendRoots_T : Tab := [(8, sp_live), (12, sp_few), (11, sp_scheck), (13, sp_May), (9, sp_Addp), (10, sp_Spent), (14, sp_caps), (15, sp_Same)]
theorem SpendRoots_T_ok : TabOk Try.prog SpendRoots_T := (TabOk.cons sp_live_ok (TabOk.cons sp_few_ok (TabOk.cons sp_scheck_ok (TabOk.cons sp_May_ok (TabOk.cons sp_Addp_ok (TabOk.cons sp_Spent_ok (TabOk.cons sp_caps_ok (TabOk.cons sp_Same_ok TabOk.nil))))))))
set_option maxRecDepth 8000 in
set_option maxHeartbeats 1000000 in
theorem SpendRoots_ok (l : List Ct) (root : Nat) (other : Nat) (c : List Cv) (d : List Cv) (a : Nat) (b : Nat)  : PureFn Try.prog 6 [.sl (cts l), .c (.int .u64 (root : Int)), .c (.int .u64 (other : Int)), .sl (cvs c), .sl (cvs d), .c (.int .u64 (a : Int)), .c (.int .u64 (b : Int))] (SpendRoots_r l root other c d a b) := by
  refine .of (ac6 SpendRoots_T_ok (Nat.le_of_ble_eq_true rfl) ?_)
  simp -implicitDefEqProofs only [cd_t, cd_f, cd_dec, cd_not, cd_and, cd_or, grd_tt, grd_ff, grd_tf, grd_ft, grd_dt, grd_df, grd_nt, grd_nf, go_sem, Go.Proofs.Try.f6, reduceIte, reduceCtorEq, Nat.reduceEqDiff, Nat.reduceAdd, Nat.reduceLeDiff, Nat.reduceSub, Nat.reduceMul, Nat.reduceLT, Nat.reduceShiftRight, Nat.reduceMod, Int.reduceLE, Int.reduceLT, Int.reduceToNat, decide_true, Bool.and_self, Bool.true_and, Ob.map.injEq, Ob.it.injEq, List.cons.injEq, true_and, and_true]
  refine ⟨fun _ => ⟨fun _ => ⟨fun _ => trivial, fun hne => ⟨fun h1 => ⟨fun h2 => ?_, fun _ => trivial⟩, fun _ => trivial⟩⟩, fun _ => trivial⟩, fun _ => trivial⟩
  obtain ⟨h3, h4, h5⟩ := roots_law (fun e => hne (by omega)) h1 h2
  rw [h3, h4] at *
  refine ⟨fun _ => ⟨fun _ => ⟨fun _ => ⟨fun _ => ⟨fun h6 => ?_, fun _ => trivial⟩, fun h => h rfl⟩, fun h => h rfl⟩, fun h => absurd h (by decide)⟩, fun h => h rfl⟩
  rw [h4] at h5
  simpa using h5.resolve_left h6
def sp_SpendRoots : List D → Option (Prop × D × Fr)
  | [.c (.sl z18), .c (.int .u64 z19), .c (.int .u64 z20), .c (.sl z21), .c (.sl z22), .c (.int .u64 z23), .c (.int .u64 z24)] => some (z18 = cts (dcts z18) ∧ z19 = (z19.toNat : Int) ∧ z20 = (z20.toNat : Int) ∧ z21 = cvs (dcvs z21) ∧ z22 = cvs (dcvs z22) ∧ z23 = (z23.toNat : Int) ∧ z24 = (z24.toNat : Int), SpendRoots_r (dcts z18) z19.toNat z20.toNat (dcvs z21) (dcvs z22) z23.toNat z24.toNat, [])
  | _ => none
attribute [go_sem] sp_SpendRoots
theorem sp_SpendRoots_ok : ∀ rs p r fr, sp_SpendRoots rs = some (p, r, fr) → p → FnOk Try.prog 6 rs r fr := by
  intro rs p r fr h hp
  unfold sp_SpendRoots at h
  split at h <;> cases h
  obtain ⟨hc0, hc1, hc2, hc3, hc4, hc5, hc6⟩ := hp
  rename_i z18 z19 z20 z21 z22 z23 z24
  obtain ⟨z18, rfl⟩ : ∃ m, z18 = cts m := ⟨_, hc0⟩
  obtain ⟨z19, rfl⟩ : ∃ m : Nat, z19 = m := ⟨_, hc1⟩
  obtain ⟨z20, rfl⟩ : ∃ m : Nat, z20 = m := ⟨_, hc2⟩
  obtain ⟨z21, rfl⟩ : ∃ m, z21 = cvs m := ⟨_, hc3⟩
  obtain ⟨z22, rfl⟩ : ∃ m, z22 = cvs m := ⟨_, hc4⟩
  obtain ⟨z23, rfl⟩ : ∃ m : Nat, z23 = m := ⟨_, hc5⟩
  obtain ⟨z24, rfl⟩ : ∃ m : Nat, z24 = m := ⟨_, hc6⟩
  simp only [Int.toNat_natCast, dcts_cts, dcvs_cvs]
  exact SpendRoots_ok z18 z19 z20 z21 z22 z23 z24
@[go_sem] def SpendCaps_r (root : Nat) (b : Nat) (most : Nat) (cav : List Cv) (am : List Nat) (ro : List Nat) : D := .bool true
@[go_sem] abbrev n_SpendCaps : FuncId := 3
@[go_sem] def SpendCaps_T : Tab := [(8, sp_live), (12, sp_few), (11, sp_scheck), (13, sp_May), (9, sp_Addp), (10, sp_Spent), (14, sp_caps), (15, sp_Same)]
theorem SpendCaps_T_ok : TabOk Try.prog SpendCaps_T := (TabOk.cons sp_live_ok (TabOk.cons sp_few_ok (TabOk.cons sp_scheck_ok (TabOk.cons sp_May_ok (TabOk.cons sp_Addp_ok (TabOk.cons sp_Spent_ok (TabOk.cons sp_caps_ok (TabOk.cons sp_Same_ok TabOk.nil))))))))
set_option maxRecDepth 8000 in
set_option maxHeartbeats 1000000 in
theorem SpendCaps_ok (root : Nat) (b : Nat) (most : Nat) (cav : List Cv) (am : List Nat) (ro : List Nat)  : PureFn Try.prog 3 [.c (.int .u64 (root : Int)), .c (.int .u64 (b : Int)), .c (.int .u64 (most : Int)), .sl (cvs cav), .sl (u64s am), .sl (u64s ro)] (SpendCaps_r root b most cav am ro) := by
  refine .of (ac3 SpendCaps_T_ok (Nat.le_of_ble_eq_true rfl) ?_)
  simp -implicitDefEqProofs only [cd_t, cd_f, cd_dec, cd_not, cd_and, cd_or, grd_tt, grd_ff, grd_tf, grd_ft, grd_dt, grd_df, grd_nt, grd_nf, go_sem, Go.Proofs.Try.f3, reduceIte, reduceCtorEq, Nat.reduceEqDiff, Nat.reduceAdd, Nat.reduceLeDiff, Nat.reduceSub, Nat.reduceMul, Nat.reduceLT, Nat.reduceShiftRight, Nat.reduceMod, Int.reduceLE, Int.reduceLT, Int.reduceToNat, decide_true, Bool.and_self, Bool.true_and, Ob.map.injEq, Ob.it.injEq, List.cons.injEq, true_and, and_true]
  refine fun _ => ⟨fun h1 _ => ⟨fun _ => trivial, fun h2 _ => ?_⟩, fun _ => trivial⟩
  refine SWp.nilsl 14 rfl ?_
  refine SWp.loop (ι := { x : Nat × List Ct // x.1 ≤ am.length ∧ chkC x.2 = 0 ∧ was x.2 root b ≤ most ∧ was x.2 root b ≤ 4611686018427387904 }) (fun x => ⟨[(0, .int .u64 root), (1, .int .u64 b), (2, .int .u64 most), (3, .sl (cvs cav)), (5, .sl (u64s ro)), (13, .ref 0 0), (14, .sl (cts x.1.2)), (15, .int .u64 (was x.1.2 root b : Nat)), (36, .sl (u64s am)), (37, .int .i64 am.length), (38, .int .i64 x.1.1)],
    [(0, .box [.int .i64 4, .int .u64 most, .int .u64 b])], 1⟩) (fun x => am.length - x.1.1) ⟨(0, []), by simp, by decide, by simp [was, Srt.fnd], by simp [was, Srt.fnd]⟩ ?_ ?_
  · simp [go_sem, cts, was, Srt.fnd]
  · rintro ⟨⟨i, L⟩, hi, hL, hm, hM⟩
    dsimp only at hi hL hm hM
    refine awp_sound SpendCaps_T_ok.toS lv3 _ _ _ rfl ?_
    simp -implicitDefEqProofs only [cd_t, cd_f, cd_dec, cd_not, cd_and, cd_or, grd_tt, grd_ff, grd_tf, grd_ft, grd_dt, grd_df, grd_nt, grd_nf, go_sem, reduceIte, reduceCtorEq, Nat.reduceEqDiff, Nat.reduceAdd, Nat.reduceLeDiff, Nat.reduceSub, Nat.reduceMul, Nat.reduceLT, Nat.reduceShiftRight, Nat.reduceMod, Int.reduceLE, Int.reduceLT, Int.reduceToNat, decide_true, Bool.and_self, Bool.true_and, Ob.map.injEq, Ob.it.injEq, List.cons.injEq, true_and, and_true]
    refine ⟨fun h3 => ⟨by omega, fun h4 => ⟨fun _ => trivial, fun h5 => ?_⟩⟩, fun _ => ?_⟩
    · refine ADraw.run us3_12 SpendCaps_T_ok follows_mixed (by kernel_rfl) (by kernel_rfl) ?_
      simp -implicitDefEqProofs only [cd_t, cd_f, cd_dec, cd_not, cd_and, cd_or, grd_tt, grd_ff, grd_tf, grd_ft, grd_dt, grd_df, grd_nt, grd_nf, go_sem, reduceIte, reduceCtorEq, Nat.reduceEqDiff, Nat.reduceAdd, Nat.reduceLeDiff, Nat.reduceSub, Nat.reduceMul, Nat.reduceLT, Nat.reduceShiftRight, Nat.reduceMod, Int.reduceLE, Int.reduceLT, Int.reduceToNat, decide_true, Bool.and_self, Bool.true_and, Ob.map.injEq, Ob.it.injEq, List.cons.injEq, true_and, and_true]
      have hx : ∃ i_1 : { x : Nat × List Ct // x.1 ≤ am.length ∧ chkC x.2 = 0 ∧ was x.2 root b ≤ most ∧ was x.2 root b ≤ 4611686018427387904 }, am.length - i_1.val.1 < am.length - i ∧ cts L = cts i_1.val.2 ∧ (was L root b : Int) = was i_1.val.2 root b ∧ IntKind.i64.wrap (↑i + 1) = ↑i_1.val.1 := ⟨⟨(i + 1, L), by dsimp only; omega, hL, hm, hM⟩, by dsimp only; omega, rfl, rfl, i64_in _ (by omega)⟩
      refine ⟨by omega, by omega, by omega, fun h6 => ⟨by omega, fun h7 => ⟨by omega, fun _ => ?_, fun h => absurd h6 h⟩, fun h7 _ => ⟨fun _ => hx, fun h => h (by rw [addC_err h7]; rfl)⟩⟩, fun h6 => ⟨by omega, fun h7 => ⟨by omega, fun h => absurd h h6, fun _ => ?_⟩, fun h7 _ => ⟨fun _ => hx, fun h => h (by rw [addC_err h7]; rfl)⟩⟩⟩
      · have h6' : ro.getD i default = root := by omega
        rw [h6'] at h7 ⊢
        obtain ⟨q1, q2, q3, q4⟩ := caps_law h7
        generalize (addC L root (cav ++ [⟨4, most, b⟩]) (am.getD i default)).1 = m at q1 q2 ⊢
        rw [spentS_ok q1, q2, u64_in _ (by omega)]
        exact ⟨fun _ => ⟨fun _ => ⟨fun _ => ⟨fun _ => ⟨⟨(i + 1, m), by dsimp only; omega, q1, by dsimp only; omega, by dsimp only; omega⟩, by dsimp only; omega, rfl, by dsimp only; omega, i64_in _ (by omega)⟩, fun h => h q1⟩, fun h => by omega⟩, fun h => h (by dsimp only; omega)⟩, fun h => h rfl⟩
      · obtain ⟨q1, q2⟩ := caps_other (root := root) (b := b) (fun e => h6 (by omega)) h7
        generalize (addC L (ro.getD i default) cav (am.getD i default)).1 = m at q1 q2 ⊢
        rw [spentS_ok q1, q2]
        exact ⟨fun _ => ⟨fun _ => ⟨fun _ => ⟨fun _ => ⟨⟨(i + 1, m), by dsimp only; omega, q1, by dsimp only; omega, by dsimp only; omega⟩, by dsimp only; omega, rfl, by dsimp only; omega, i64_in _ (by omega)⟩, fun h => h q1⟩, fun h => by omega⟩, fun h => h rfl⟩, fun h => h rfl⟩
    · trivial
def sp_SpendCaps : List D → Option (Prop × D × Fr)
  | [.c (.int .u64 z25), .c (.int .u64 z26), .c (.int .u64 z27), .c (.sl z28), .c (.sl z29), .c (.sl z30)] => some (z25 = (z25.toNat : Int) ∧ z26 = (z26.toNat : Int) ∧ z27 = (z27.toNat : Int) ∧ z28 = cvs (dcvs z28) ∧ z29 = u64s (du64s z29) ∧ z30 = u64s (du64s z30), SpendCaps_r z25.toNat z26.toNat z27.toNat (dcvs z28) (du64s z29) (du64s z30), [])
  | _ => none
attribute [go_sem] sp_SpendCaps
theorem sp_SpendCaps_ok : ∀ rs p r fr, sp_SpendCaps rs = some (p, r, fr) → p → FnOk Try.prog 3 rs r fr := by
  intro rs p r fr h hp
  unfold sp_SpendCaps at h
  split at h <;> cases h
  obtain ⟨hc0, hc1, hc2, hc3, hc4, hc5⟩ := hp
  rename_i z25 z26 z27 z28 z29 z30
  obtain ⟨z25, rfl⟩ : ∃ m : Nat, z25 = m := ⟨_, hc0⟩
  obtain ⟨z26, rfl⟩ : ∃ m : Nat, z26 = m := ⟨_, hc1⟩
  obtain ⟨z27, rfl⟩ : ∃ m : Nat, z27 = m := ⟨_, hc2⟩
  obtain ⟨z28, rfl⟩ : ∃ m, z28 = cvs m := ⟨_, hc3⟩
  obtain ⟨z29, rfl⟩ : ∃ m, z29 = u64s m := ⟨_, hc4⟩
  obtain ⟨z30, rfl⟩ : ∃ m, z30 = u64s m := ⟨_, hc5⟩
  simp only [Int.toNat_natCast, dcvs_cvs, du64s_u64s]
  exact SpendCaps_ok z25 z26 z27 z28 z29 z30
end Dm
/-! What a row's reading of an argument says, as pure data. -/
namespace Dm
open Go
def TypFs (T : TypeId → List C → Prop) : List Field → List C → Prop
  | [], xs => xs = []
  | f :: r, xs => ∃ ys zs, xs = ys ++ zs ∧ T f.type ys ∧ TypFs T r zs
def TypR (T : List C → Prop) : Nat → List C → Prop
  | 0, xs => xs = []
  | n + 1, xs => ∃ ys zs, xs = ys ++ zs ∧ T ys ∧ TypR T n zs
/-- Cells of a type. -/
def Typ (P : Program) : Nat → TypeId → List C → Prop
  | 0, _, _ => False
  | k + 1, t, xs => match P.underlying t with
    | some .bool => ∃ b, xs = [.bool b]
    | some (.int kd) => ∃ n, xs = [.int kd n] ∧ (Lit.int kd n).wf = true
    | some (.float kd) => ∃ n, xs = [.flt kd n] ∧ (Lit.float kd n).wf = true
    | some .string => ∃ s, xs = [.str s] ∧ s.size ≤ maxLen
    | some (.slice e) => ∃ els, xs = [.sl els] ∧ els.length ≤ maxLen ∧ ∀ x ∈ els, Typ P k e x
    | some (.struct fs) => TypFs (Typ P k) fs.toList xs
    | some (.array n e) => TypR (Typ P k e) n xs
    | _ => False
def plainFs (P : Program) (ok : TypeId → Bool) : Nat → List Field → Option Nat
  | o, [] => some o
  | o, f :: r => if f.offset = o ∧ ok f.type = true then plainFs P ok (o + P.cellsOf f.type) r else none
/-- Types of pure data. -/
def plain (P : Program) : Nat → TypeId → Bool
  | 0, _ => false
  | k + 1, t => match P.underlying t with
    | some .bool => true
    | some (.int _) => true
    | some (.float _) => true
    | some .string => true
    | some (.slice e) => plain P k e && P.cellsOf e != 0
    | some (.struct fs) => plainFs P (plain P k) 0 fs.toList == some (P.cellsOf t)
    | some (.array n e) => plain P k e && n * P.cellsOf e == P.cellsOf t
    | _ => false

section
variable {H : Type} {enc : TypeId × Value → H} {P : Program} {w : World} {spare : Nat → Bool} {held : Bool}

def below (w : World) (b : Nat) : Prop := Cel w b
/-- Cells read so. -/
def Reads (w : World) (cs : List Value) (xs : List C) : Prop := xs.length = cs.length ∧ ∀ (i : Nat) (v : Value) (y : C), cs[i]? = some v → xs[i]? = some y → CRel (below w) w v y

theorem Reads.one {v : Value} {y : C} (h : CRel (below w) w v y) : Reads w [v] [y] := ⟨rfl, fun i u z hu hz => by
  cases i with
  | zero => simp at hu hz; subst hu; subst hz; exact h
  | succ i => simp at hu⟩
theorem Reads.app {cs ds : List Value} {xs ys : List C} (h : Reads w cs xs) (h' : Reads w ds ys) : Reads w (cs ++ ds) (xs ++ ys) := by
  refine ⟨by simp [h.1, h'.1], fun i v y hv hy => ?_⟩
  rw [List.getElem?_append] at hv hy
  rw [h.1] at hy
  split at hv
  · rename_i hlt; rw [if_pos hlt] at hy; exact h.2 i v y hv hy
  · rename_i hlt; rw [if_neg hlt] at hy; exact h'.2 _ v y hv hy

theorem mapM_cons_some {α β : Type} {f : α → Option β} {a : α} {l : List α} {r : List β} (h : (a :: l).mapM f = some r) : ∃ b bs, f a = some b ∧ l.mapM f = some bs ∧ r = b :: bs := by
  rw [List.mapM_cons] at h
  cases hf : f a with
  | none => simp [hf] at h
  | some b =>
    cases hl : l.mapM f with
    | none => simp [hf, hl] at h
    | some bs => simp [hf, hl] at h; exact ⟨b, bs, rfl, rfl, h.symm⟩

theorem plainFs_le {ok : TypeId → Bool} : ∀ {fs : List Field} {o e : Nat}, plainFs P ok o fs = some e → o ≤ e
  | [], o, e, h => by simp only [plainFs, Option.some.injEq] at h; omega
  | f :: r, o, e, h => by
    simp only [plainFs] at h
    split at h
    · have := plainFs_le h; omega
    · cases h

theorem fields_conv {k fuel : Nat} {cs : List Value} (IH : ∀ (t : TypeId) (cs : List Value) (x : DataW H × List MemPlace), DataW.trod enc P w 0 spare held fuel t cs = some x → plain P k t = true → ∃ xs, Typ P k t xs ∧ Reads w cs xs) :
    ∀ (fs : List Field) (o : Nat) (ys : List (DataW H × List MemPlace)), plainFs P (plain P k) o fs = some cs.length → fs.mapM (fun f => DataW.trod enc P w 0 spare held fuel f.type ((cs.drop f.offset).take (P.cellsOf f.type))) = some ys →
      ∃ xs, TypFs (Typ P k) fs xs ∧ Reads w (cs.drop o) xs
  | [], o, ys, h, _ => by
    simp only [plainFs, Option.some.injEq] at h
    exact ⟨[], rfl, by simp [Reads, h]⟩
  | f :: r, o, ys, h, hm => by
    simp only [plainFs] at h
    split at h
    · rename_i hc
      obtain ⟨hc1, hc2⟩ := hc
      have hle := plainFs_le h
      obtain ⟨b, bs, h1, h2, _⟩ := mapM_cons_some hm
      obtain ⟨xs, h3, h4⟩ := IH _ _ _ h1 hc2
      obtain ⟨zs, h5, h6⟩ := fields_conv IH r _ bs h h2
      refine ⟨xs ++ zs, ⟨xs, zs, rfl, h3, h5⟩, ?_⟩
      have e : cs.drop o = (cs.drop f.offset).take (P.cellsOf f.type) ++ cs.drop (o + P.cellsOf f.type) := by
        rw [hc1, ← List.drop_drop, List.take_append_drop]
      rw [e]
      exact h4.app h6
    · cases h

theorem array_conv {k fuel n sz : Nat} {e : TypeId} {cs : List Value} (IH : ∀ (t : TypeId) (cs : List Value) (x : DataW H × List MemPlace), DataW.trod enc P w 0 spare held fuel t cs = some x → plain P k t = true → ∃ xs, Typ P k t xs ∧ Reads w cs xs) (he : plain P k e = true) :
    ∀ (m j : Nat), j + m = n → n * sz = cs.length → (∀ i, i < n → ∃ x, DataW.trod enc P w 0 spare held fuel e ((cs.drop (i * sz)).take sz) = some x) → ∃ xs, TypR (Typ P k e) m xs ∧ Reads w (cs.drop (j * sz)) xs
  | 0, j, hj, hn, _ => ⟨[], rfl, by
      have : j = n := by omega
      subst this
      simp [Reads, hn]⟩
  | m + 1, j, hj, hn, hall => by
    obtain ⟨x, hx⟩ := hall j (by omega)
    obtain ⟨xs, h3, h4⟩ := IH _ _ _ hx he
    obtain ⟨zs, h5, h6⟩ := array_conv IH he m (j + 1) (by omega) hn hall
    refine ⟨xs ++ zs, ⟨xs, zs, rfl, h3, h5⟩, ?_⟩
    have e : cs.drop (j * sz) = (cs.drop (j * sz)).take sz ++ cs.drop ((j + 1) * sz) := by
      rw [Nat.add_mul, Nat.one_mul, ← List.drop_drop, List.take_append_drop]
    rw [e]
    exact h4.app h6

theorem mapM_range_get {β : Type} {f : Nat → Option β} {n : Nat} {r : List β} (h : (List.range n).mapM f = some r) (i : Nat) (hi : i < n) : ∃ y, f i = some y ∧ r[i]? = some y := by
  have key : ∀ (l : List Nat) (r : List β), l.mapM f = some r → ∀ (i x : Nat), l[i]? = some x → ∃ y, f x = some y ∧ r[i]? = some y := by
    intro l
    induction l with
    | nil => intro r _ i x hx; simp at hx
    | cons a l ih =>
      intro r hr i x hx
      obtain ⟨b, bs, h1, h2, rfl⟩ := mapM_cons_some hr
      cases i with
      | zero => simp at hx; subst hx; exact ⟨b, h1, rfl⟩
      | succ i => exact ih bs h2 i x (by simpa using hx)
  exact key _ _ h i i (by simp [hi])

theorem mapM_len {α β : Type} {f : α → Option β} : ∀ {l : List α} {r : List β}, l.mapM f = some r → r.length = l.length
  | [], r, h => by simp at h; simp [h]
  | a :: l, r, h => by
    obtain ⟨b, bs, _, h2, rfl⟩ := mapM_cons_some h
    simp [mapM_len h2]

theorem trod_conv : ∀ (fuel k : Nat) (t : TypeId) (cs : List Value) (x : DataW H × List MemPlace), DataW.trod enc P w 0 spare held fuel t cs = some x → plain P k t = true → ∃ xs, Typ P k t xs ∧ Reads w cs xs
  | 0, k, t, cs, x, h, _ => by simp [DataW.trod] at h
  | fuel + 1, 0, t, cs, x, h, hp => by cases hp
  | fuel + 1, k + 1, t, cs, x, h, hp => by
    have IH := fun t cs x => trod_conv fuel k t cs x
    simp only [plain] at hp
    simp only [Typ]
    unfold DataW.trod at h
    split at h
    · rename_i b hu; rw [hu]; exact ⟨[.bool b], ⟨b, rfl⟩, .one (.bool b)⟩
    · rename_i kd k' n hu
      rw [hu]
      split at h
      · rename_i hc; obtain ⟨rfl, hc⟩ := hc
        exact ⟨[.int _ n], ⟨n, rfl, hc⟩, .one (.int _ n)⟩
      · cases h
    · rename_i kd k' n hu
      rw [hu]
      split at h
      · rename_i hc; obtain ⟨rfl, hc⟩ := hc
        exact ⟨[.flt _ n], ⟨n, rfl, hc⟩, .one (.flt _ n)⟩
      · cases h
    · rename_i s hu
      rw [hu]
      split at h
      · rename_i hc
        exact ⟨[.str s], ⟨s, rfl, hc⟩, .one (.str s)⟩
      · cases h
    · rename_i hu; rw [hu] at hp; cases hp
    · rename_i hu; rw [hu] at hp; cases hp
    · rename_i e hu
      rw [hu]
      exact ⟨[.sl []], ⟨[], rfl, by simp, by simp⟩, .one (.slnil _ _ (by simp [maxLen]))⟩
    · rename_i e a len cap hu
      rw [hu] at hp ⊢
      simp only [Bool.and_eq_true, bne_iff_ne, ne_eq] at hp
      obtain ⟨hp1, hp2⟩ := hp
      split at h
      · rename_i hc
        obtain ⟨_, hlc, hcm⟩ := hc
        cases hm : (List.range len).mapM (fun i => (w.cells? 0 (a.add (i * P.cellsOf e)) (P.cellsOf e)).bind (DataW.trod enc P w 0 spare held fuel e)) with
        | none => dsimp only at h; rw [hm] at h; cases h
        | some elems =>
          have hel : ∀ i, i < len → ∃ ci xi, w.cells? 0 (a.add (i * P.cellsOf e)) (P.cellsOf e) = some ci ∧ Typ P k e xi ∧ Reads w ci xi := by
            intro i hi
            obtain ⟨y, h1, _⟩ := mapM_range_get hm i hi
            cases hcs : w.cells? 0 (a.add (i * P.cellsOf e)) (P.cellsOf e) with
            | none => rw [hcs] at h1; cases h1
            | some ci =>
              rw [hcs] at h1
              obtain ⟨xi, h2, h3⟩ := IH e ci y h1 hp1
              exact ⟨ci, xi, rfl, h2, h3⟩
          have hch : ∃ (cf : Nat → List Value) (xf : Nat → List C), ∀ i, i < len → w.cells? 0 (a.add (i * P.cellsOf e)) (P.cellsOf e) = some (cf i) ∧ Typ P k e (xf i) ∧ Reads w (cf i) (xf i) := by
            refine ⟨fun i => if h : i < len then (hel i h).choose else [], fun i => if h : i < len then (hel i h).choose_spec.choose else [], fun i hi => ?_⟩
            simp only [dif_pos hi]
            exact (hel i hi).choose_spec.choose_spec
          obtain ⟨cf, xf, hf⟩ := hch
          have hlen : ∀ i, i < len → (cf i).length = P.cellsOf e ∧ ∀ j, j < P.cellsOf e → w.cell? ((a.add (i * P.cellsOf e)).add j) = (cf i)[j]? := by
            intro i hi
            have h1 := (hf i hi).1
            unfold World.cells? at h1
            rw [if_pos (Nat.zero_le _)] at h1
            refine ⟨by have := mapM_len h1; simpa using this, fun j hj => ?_⟩
            obtain ⟨y, h2, h3⟩ := mapM_range_get h1 j hj
            rw [h2, h3]
          refine ⟨[.sl ((List.range len).map xf)], ⟨_, rfl, by simp; omega, fun x hx => ?_⟩, .one ?_⟩
          · obtain ⟨i, hi, rfl⟩ := List.mem_map.1 hx
            exact (hf i (by simpa using hi)).2.1
          · by_cases h0 : len = 0
            · subst h0; exact .slnil _ _ hcm
            · have h00 := (hlen 0 (by omega))
              have hpos : 0 < P.cellsOf e := by omega
              have hc0 := h00.2 0 hpos
              have hs : ∃ v, w.cell? a = some v := by
                have : (cf 0)[0]? = some ((cf 0)[0]'(by omega)) := List.getElem?_eq_getElem _
                rw [this] at hc0
                simp only [Nat.zero_mul, Addr.add, Nat.add_zero] at hc0
                exact ⟨_, hc0⟩
              obtain ⟨v0, hv0⟩ := hs
              have hspot : a.spot = none ∧ Cel w a.block := by
                unfold World.cell? at hv0
                split at hv0
                · rename_i c _ _ hb
                  split at hv0
                  · cases hv0
                  · rename_i hsp
                    exact ⟨by simpa using hsp, .of hb⟩
                · cases hv0
              obtain ⟨ab, ao, asp⟩ := a
              simp only at hspot
              obtain ⟨rfl, hb⟩ := hspot
              have he : len = ((List.range len).map xf).length := by simp
              have hget : ∀ (i : Nat) (x : List C), ((List.range len).map xf)[i]? = some x → i < len ∧ x = xf i := fun i x hx => by
                simp only [List.getElem?_map, Option.map_eq_some_iff] at hx
                obtain ⟨j, hj, rfl⟩ := hx
                have := List.getElem?_eq_some_iff.1 hj
                obtain ⟨h1, h2⟩ := this
                simp at h1 h2
                subst h2
                exact ⟨h1, rfl⟩
              conv => arg 3; rw [he]
              refine .sl ab ao cap (P.cellsOf e) _ (fun i j => (cf i).getD j .nilFunc) hb (by simpa using hlc) hcm (fun x hx => ?_) (fun i j x y hx hy => ?_) (fun i j x y hx hy => ?_)
              · obtain ⟨i, hi, rfl⟩ := List.mem_map.1 hx
                have hi : i < len := by simpa using hi
                rw [(hf i hi).2.2.1, (hlen i hi).1]
              · obtain ⟨hi, rfl⟩ := hget i x hx
                have hj : j < (cf i).length := by
                  rw [← (hf i hi).2.2.1]
                  exact (List.getElem?_eq_some_iff.1 hy).1
                have h1 := (hlen i hi).2 j (by rw [← (hlen i hi).1]; exact hj)
                rw [addr_add, addr_add] at h1
                rw [h1, List.getD_eq_getElem?_getD, List.getElem?_eq_getElem hj]
                rfl
              · obtain ⟨hi, rfl⟩ := hget i x hx
                have hj : j < (cf i).length := by
                  rw [← (hf i hi).2.2.1]
                  exact (List.getElem?_eq_some_iff.1 hy).1
                refine (hf i hi).2.2.2 j _ y ?_ hy
                rw [List.getD_eq_getElem?_getD, List.getElem?_eq_getElem hj]
                rfl
      · cases h
    · rename_i cs0 _ _ fs hu
      rw [hu] at hp ⊢
      split at h
      · rename_i hc
        simp only [beq_iff_eq] at hp
        rw [← hc] at hp
        cases hm : fs.toList.mapM (fun f => DataW.trod enc P w 0 spare held fuel f.type ((cs0.drop f.offset).take (P.cellsOf f.type))) with
        | none => rw [hm] at h; simp at h
        | some ys =>
          obtain ⟨xs, h1, h2⟩ := fields_conv IH fs.toList 0 ys hp hm
          exact ⟨xs, h1, by simpa using h2⟩
      · cases h
    · rename_i cs0 _ _ n e hu
      rw [hu] at hp ⊢
      simp only [Bool.and_eq_true, beq_iff_eq] at hp
      split at h
      · rename_i hc
        cases hm : (List.range n).mapM (fun i => DataW.trod enc P w 0 spare held fuel e ((cs0.drop (i * P.cellsOf e)).take (P.cellsOf e))) with
        | none => rw [hm] at h; simp at h
        | some ys =>
          obtain ⟨xs, h1, h2⟩ := array_conv (n := n) (sz := P.cellsOf e) (cs := cs0) IH hp.1 n 0 (by omega) (by rw [hp.2, hc]) (fun i hi => by
            obtain ⟨y, h3, _⟩ := mapM_range_get hm i hi
            exact ⟨y, h3⟩)
          exact ⟨xs, h1, by simpa using h2⟩
      · cases h
    all_goals (rename_i hu; first | (rw [hu] at hp; cases hp; done) | (cases h; done) | skip)

def one1 : List C → D
  | [x] => .c x
  | _ => .undef
/-- An argument, as the abstract machine takes it. -/
def argD (P : Program) (t : TypeId) (xs : List C) : D := match P.underlying t with
  | some (.struct _) => .agg (xs.map .c)
  | some (.array _ _) => .agg (xs.map .c)
  | _ => one1 xs
theorem Reads.agg {cs : Array Value} {xs : List C} (h : Reads w cs.toList xs) : VRel (G0 (below w)) w (.agg cs) (.agg (xs.map .c)) := by
  refine .agg cs _ (by simpa using h.1.symm) fun i v d hv hd => ?_
  simp only [List.getElem?_map, Option.map_eq_some_iff] at hd
  obtain ⟨y, hy, rfl⟩ := hd
  exact .c _ _ (h.2 i v y (by simpa using hv) hy)
theorem arg_conv {r : Reach} {base k : Nat} {t : TypeId} {v : Value} {d : DataW H} {ps : List MemPlace} (hv : Value.okWide P w r base t v) (h : DataW.Trod enc P w 0 spare held t v d ps) (hp : plain P k t = true) :
    ∃ xs, Typ P k t xs ∧ VRel (G0 (below w)) w v (argD P t xs) := by
  obtain ⟨fuel, h⟩ := h
  obtain ⟨xs, h1, h2⟩ := trod_conv fuel k t _ _ h hp
  refine ⟨xs, h1, ?_⟩
  have one : ∀ (hc : v.cells = #[v]), VRel (G0 (below w)) w v (one1 xs) := by
    intro hc
    rw [hc] at h2
    match xs, h2 with
    | [], _ => exact .undef _
    | [x], h2 => exact .c _ _ (h2.2 0 v x rfl rfl)
    | _ :: _ :: _, _ => exact .undef _
  unfold argD
  unfold Value.okWide at hv
  split
  · rename_i fs hu
    rw [hu] at hv
    obtain ⟨cs, rfl, _⟩ := hv
    exact h2.agg
  · rename_i n e hu
    rw [hu] at hv
    obtain ⟨cs, rfl, _⟩ := hv
    exact h2.agg
  · rename_i hn1 hn2
    refine one ?_
    cases v <;> try rfl
    rename_i cs
    exfalso
    cases k with
    | zero => cases hp
    | succ k =>
      simp only [plain] at hp
      split at hv
      · rename_i fs hu; exact hn1 fs hu
      · rename_i n e hu; exact hn2 n e hu
      · unfold Cell.okWide at hv
        split at hp <;> rename_i hu <;> first | (rw [hu] at hv; simp [Cell.ok, hu] at hv; done) | (exact absurd hu (hn1 _)) | (exact absurd hu (hn2 _ _)) | cases hp
theorem below_of (w w' : World) (h : Ext w w') : RowKit.Below w.heap.size w w' := ⟨h.2.2.os, h.2.2.tape, h.2.2.out, h.1, h.2.1⟩
end
end Dm
namespace Dm
open Go Go.Proofs
theorem wf_u64 {n : Int} (h : (Lit.int .u64 n).wf = true) : 0 ≤ n ∧ n ≤ 18446744073709551615 := by
  simp [Lit.wf, IntKind.min, IntKind.max, IntKind.bits, IntKind.signed] at h
  omega
theorem wf_u8 {n : Int} (h : (Lit.int .u8 n).wf = true) : 0 ≤ n ∧ n ≤ 255 := by
  simp [Lit.wf, IntKind.min, IntKind.max, IntKind.bits, IntKind.signed] at h
  omega
theorem wf_i64 {n : Int} (h : (Lit.int .i64 n).wf = true) : -9223372036854775808 ≤ n ∧ n ≤ 9223372036854775807 := by
  simp [Lit.wf, IntKind.min, IntKind.max, IntKind.bits, IntKind.signed] at h
  omega
theorem typ22 {k : Nat} {xs : List C} (h : Typ Try.prog (k + 1) 22 xs) : ∃ n : Nat, xs = [.int .u64 (n : Int)] ∧ n ≤ 18446744073709551615 := by
  simp only [Typ, Try.underlying22] at h
  obtain ⟨n, rfl, h1⟩ := h
  have := wf_u64 h1
  exact ⟨n.toNat, by rw [Int.toNat_of_nonneg (by omega)], by omega⟩
theorem typ24 {k : Nat} {xs : List C} (h : Typ Try.prog (k + 2) 24 xs) : ∃ l, xs = [.sl (u64s l)] ∧ ∀ e ∈ l, e ≤ 18446744073709551615 := by
  simp only [Typ, Try.underlying24] at h
  obtain ⟨els, rfl, _, h2⟩ := h
  have h3 := fun x hx => typ22 (k := k) (h2 x hx)
  have : ∀ els : List (List C), (∀ x ∈ els, Typ Try.prog (k + 1) 22 x) → ∃ l : List Nat, els = u64s l ∧ ∀ e ∈ l, e ≤ 18446744073709551615 := by
    intro els
    induction els with
    | nil => exact fun _ => ⟨[], rfl, by simp⟩
    | cons x t ih =>
      intro h3
      obtain ⟨l, h4, h5⟩ := ih (fun y hy => h3 y (List.mem_cons_of_mem _ hy))
      obtain ⟨n, rfl, h6⟩ := typ22 (k := k) (h3 x (List.mem_cons_self ..))
      subst h4
      exact ⟨n :: l, rfl, fun e he => (List.mem_cons.1 he).elim (fun h => by rw [h]; exact h6) (h5 e)⟩
  obtain ⟨l, rfl, h⟩ := this els h2
  exact ⟨l, rfl, h⟩
def Cv.rng (e : Cv) : Prop := (-9223372036854775808 ≤ e.kind ∧ e.kind ≤ 9223372036854775807) ∧ e.a ≤ 18446744073709551615 ∧ e.b ≤ 18446744073709551615
theorem typ27 {k : Nat} {xs : List C} (h : Typ Try.prog (k + 2) 27 xs) : (Cv.dec xs).enc = xs ∧ (Cv.dec xs).rng := by
  simp only [Typ, Try.underlying27, TypFs, Try.underlying3, Try.underlying22] at h
  obtain ⟨_, _, rfl, ⟨s0, rfl, h0⟩, _, _, rfl, ⟨s1, rfl, h1⟩, _, _, rfl, ⟨s2, rfl, h2⟩, rfl⟩ := h
  have q0 := wf_i64 h0
  have q1 := wf_u64 h1
  have q2 := wf_u64 h2
  simp only [List.cons_append, List.nil_append, List.append_nil]
  refine ⟨by simp [Cv.dec, Cv.enc, Int.toNat_of_nonneg q1.1, Int.toNat_of_nonneg q2.1], ?_⟩
  simp only [Cv.dec, Cv.rng]
  exact ⟨⟨by omega, by omega⟩, by omega, by omega⟩
theorem cvs_dcvs {els : List (List C)} (h : ∀ x ∈ els, (Cv.dec x).enc = x) : cvs (dcvs els) = els := by
  simp only [cvs, dcvs, List.map_map]
  refine (List.map_congr_left fun x hx => ?_).trans (List.map_id _)
  exact h x hx
theorem typ23 {k : Nat} {xs : List C} (h : Typ Try.prog (k + 3) 23 xs) : ∃ l, xs = [.sl (cvs l)] ∧ ∀ e ∈ l, e.rng := by
  simp only [Typ, Try.underlying23] at h
  obtain ⟨els, rfl, _, h2⟩ := h
  have h3 : ∀ x ∈ els, (Cv.dec x).enc = x ∧ (Cv.dec x).rng := fun x hx => typ27 (k := k) (h2 x hx)
  refine ⟨dcvs els, by rw [cvs_dcvs fun x hx => (h3 x hx).1], fun e he => ?_⟩
  obtain ⟨x, hx, rfl⟩ := List.mem_map.1 he
  exact (h3 x hx).2
def Ct.rng (e : Ct) : Prop := e.root ≤ 18446744073709551615 ∧ e.b ≤ 18446744073709551615 ∧ e.n ≤ 18446744073709551615
theorem typ48 {k : Nat} {xs : List C} (h : Typ Try.prog (k + 2) 48 xs) : (Ct.dec xs).enc = xs ∧ (Ct.dec xs).rng := by
  simp only [Typ, Try.underlying48, TypFs, Try.underlying22] at h
  obtain ⟨_, _, rfl, ⟨s0, rfl, h0⟩, _, _, rfl, ⟨s1, rfl, h1⟩, _, _, rfl, ⟨s2, rfl, h2⟩, rfl⟩ := h
  have q0 := wf_u64 h0
  have q1 := wf_u64 h1
  have q2 := wf_u64 h2
  simp only [List.cons_append, List.nil_append, List.append_nil]
  refine ⟨by simp [Ct.dec, Ct.enc, Int.toNat_of_nonneg q0.1, Int.toNat_of_nonneg q1.1, Int.toNat_of_nonneg q2.1], ?_⟩
  simp only [Ct.dec, Ct.rng]
  exact ⟨by omega, by omega, by omega⟩
theorem cts_dcts {els : List (List C)} (h : ∀ x ∈ els, (Ct.dec x).enc = x) : cts (dcts els) = els := by
  simp only [cts, dcts, List.map_map]
  refine (List.map_congr_left fun x hx => ?_).trans (List.map_id _)
  exact h x hx
theorem typ28 {k : Nat} {xs : List C} (h : Typ Try.prog (k + 3) 28 xs) : ∃ l, xs = [.sl (cts l)] ∧ ∀ e ∈ l, e.rng := by
  simp only [Typ, Try.underlying28] at h
  obtain ⟨els, rfl, _, h2⟩ := h
  have h3 : ∀ x ∈ els, (Ct.dec x).enc = x ∧ (Ct.dec x).rng := fun x hx => typ48 (k := k) (h2 x hx)
  refine ⟨dcts els, by rw [cts_dcts fun x hx => (h3 x hx).1], fun e he => ?_⟩
  obtain ⟨x, hx, rfl⟩ := List.mem_map.1 he
  exact (h3 x hx).2
end Dm
namespace Dm
open Go Go.Proofs Go.IntWalk
@[go_sem] def rmon_r (l : List Nat) : D := .int .i64 (monS l)
@[go_sem] abbrev n_rmon : FuncId := 30
@[go_sem] def rmon_T : Tab := []
theorem rmon_T_ok : TabOk Try.prog rmon_T := TabOk.nil
set_option maxRecDepth 8000 in
set_option maxHeartbeats 1000000 in
theorem rmon_ok (l : List Nat)  : PureFn Try.prog 30 [.sl (u64s l)] (rmon_r l) := by
  refine .of (ac30 rmon_T_ok (Nat.le_of_ble_eq_true rfl) ?_)
  simp -implicitDefEqProofs only [cd_t, cd_f, cd_dec, cd_not, cd_and, cd_or, grd_tt, grd_ff, grd_tf, grd_ft, grd_dt, grd_df, grd_nt, grd_nf, go_sem, Go.Proofs.Try.f30, reduceIte, reduceCtorEq, Nat.reduceEqDiff, Nat.reduceAdd, Nat.reduceLeDiff, Nat.reduceSub, Nat.reduceMul, Nat.reduceLT, Nat.reduceShiftRight, Nat.reduceMod, Int.reduceLE, Int.reduceLT, Int.reduceToNat, decide_true, Bool.and_self, Bool.true_and, Ob.map.injEq, Ob.it.injEq, List.cons.injEq, true_and, and_true]
  refine fun hl => SWp.loop (ι := { i : Nat // i ≤ l.length ∧ ∀ j, j < i → l.getD j default ≤ 4611686018427387904 }) (fun i => ⟨[(5, .sl (u64s l)), (6, .int .i64 l.length), (7, .int .i64 i.1)], [], 0⟩) (fun i => l.length - i.1) ⟨0, by simp⟩ ?_ ?_
  · simp [go_sem]
  · rintro ⟨i, hi, hall⟩
    refine awp_sound rmon_T_ok.toS lv30 _ _ _ rfl ?_
    simp -implicitDefEqProofs only [cd_t, cd_f, cd_dec, cd_not, cd_and, cd_or, grd_tt, grd_ff, grd_tf, grd_ft, grd_dt, grd_df, grd_nt, grd_nf, go_sem, reduceIte, reduceCtorEq, Nat.reduceEqDiff, Nat.reduceAdd, Nat.reduceLeDiff, Nat.reduceSub, Nat.reduceMul, Nat.reduceLT, Nat.reduceShiftRight, Nat.reduceMod, Int.reduceLE, Int.reduceLT, Int.reduceToNat, decide_true, Bool.and_self, Bool.true_and, Ob.map.injEq, Ob.it.injEq, List.cons.injEq, true_and, and_true]
    refine ⟨fun h => ⟨by omega, fun h1 => ?_, fun h1 => ⟨⟨i + 1, by omega, fun j hj => ?_⟩, by dsimp only; omega, i64_in _ (by omega)⟩⟩, fun h => ?_⟩
    · rw [monS, if_neg]
      intro h2
      have := List.all_eq_true.1 h2 _ (mem_getD.2 ⟨i, by omega, rfl⟩)
      simp only [decide_eq_true_eq] at this
      omega
    · by_cases hji : j = i
      · subst hji; omega
      · exact hall j (by omega)
    · rw [monS, if_pos]
      refine List.all_eq_true.2 fun x hx => ?_
      obtain ⟨j, hj, rfl⟩ := mem_getD.1 hx
      simpa using hall j (by omega)
def sp_rmon : List D → Option (Prop × D × Fr)
  | [.c (.sl z1)] => some (z1 = u64s (du64s z1), rmon_r (du64s z1), [])
  | _ => none
attribute [go_sem] sp_rmon
theorem sp_rmon_ok : ∀ rs p r fr, sp_rmon rs = some (p, r, fr) → p → FnOk Try.prog 30 rs r fr := by
  intro rs p r fr h hp
  unfold sp_rmon at h
  split at h <;> cases h
  have hc0 := hp
  rename_i z1
  obtain ⟨z1, rfl⟩ : ∃ m, z1 = u64s m := ⟨_, hc0⟩
  simp only [du64s_u64s]
  exact rmon_ok z1
@[go_sem] def rcav_r (c : Cv) : D := .int .i64 (cavS c)
@[go_sem] abbrev n_rcav : FuncId := 41
@[go_sem] def rcav_T : Tab := []
theorem rcav_T_ok : TabOk Try.prog rcav_T := TabOk.nil
set_option maxRecDepth 8000 in
set_option maxHeartbeats 1000000 in
theorem rcav_ok (c : Cv)  : PureFn Try.prog 41 [.agg [.c (.int .i64 c.kind), .c (.int .u64 (c.a : Int)), .c (.int .u64 (c.b : Int))]] (rcav_r c) := by
  refine .of (ac41 rcav_T_ok (Nat.le_of_ble_eq_true rfl) ?_)
  simp -implicitDefEqProofs only [cd_t, cd_f, cd_dec, cd_not, cd_and, cd_or, grd_tt, grd_ff, grd_tf, grd_ft, grd_dt, grd_df, grd_nt, grd_nf, go_sem, Go.Proofs.Try.f41, reduceIte, reduceCtorEq, Nat.reduceEqDiff, Nat.reduceAdd, Nat.reduceLeDiff, Nat.reduceSub, Nat.reduceMul, Nat.reduceLT, Nat.reduceShiftRight, Nat.reduceMod, Int.reduceLE, Int.reduceLT, Int.reduceToNat, decide_true, Bool.and_self, Bool.true_and, Ob.map.injEq, Ob.it.injEq, List.cons.injEq, true_and, and_true]
  unfold cavS
  split <;> simp <;> omega
def sp_rcav : List D → Option (Prop × D × Fr)
  | [.agg [.c (.int .i64 z3), .c (.int .u64 z4), .c (.int .u64 z5)]] => some (z4 = (z4.toNat : Int) ∧ z5 = (z5.toNat : Int), rcav_r (⟨z3, z4.toNat, z5.toNat⟩ : Cv), [])
  | _ => none
attribute [go_sem] sp_rcav
theorem sp_rcav_ok : ∀ rs p r fr, sp_rcav rs = some (p, r, fr) → p → FnOk Try.prog 41 rs r fr := by
  intro rs p r fr h hp
  unfold sp_rcav at h
  split at h <;> cases h
  obtain ⟨hc0, hc1⟩ := hp
  rename_i z3 z4 z5
  obtain ⟨z4, rfl⟩ : ∃ m : Nat, z4 = m := ⟨_, hc0⟩
  obtain ⟨z5, rfl⟩ : ∃ m : Nat, z5 = m := ⟨_, hc1⟩
  simp only [Int.toNat_natCast]
  exact rcav_ok ⟨z3, z4, z5⟩
@[go_sem] def rfew_r (l : List Cv) : D := .bool (decide (l.length ≤ 16 ∧ l.all (fun c => decide (cavS c = 0)) = true))
@[go_sem] abbrev n_rfew : FuncId := 29
@[go_sem] def rfew_T : Tab := [(41, sp_rcav)]
theorem rfew_T_ok : TabOk Try.prog rfew_T := (TabOk.cons sp_rcav_ok TabOk.nil)
set_option maxRecDepth 8000 in
set_option maxHeartbeats 1000000 in
theorem rfew_ok (l : List Cv)  : PureFn Try.prog 29 [.sl (cvs l)] (rfew_r l) := by
  refine .of (ac29 rfew_T_ok (Nat.le_of_ble_eq_true rfl) ?_)
  simp -implicitDefEqProofs only [cd_t, cd_f, cd_dec, cd_not, cd_and, cd_or, grd_tt, grd_ff, grd_tf, grd_ft, grd_dt, grd_df, grd_nt, grd_nf, go_sem, Go.Proofs.Try.f29, reduceIte, reduceCtorEq, Nat.reduceEqDiff, Nat.reduceAdd, Nat.reduceLeDiff, Nat.reduceSub, Nat.reduceMul, Nat.reduceLT, Nat.reduceShiftRight, Nat.reduceMod, Int.reduceLE, Int.reduceLT, Int.reduceToNat, decide_true, Bool.and_self, Bool.true_and, Ob.map.injEq, Ob.it.injEq, List.cons.injEq, true_and, and_true]
  refine fun hl => SWp.loop (ι := { i : Nat // i ≤ l.length ∧ ∀ j, j < i → cavS (l.getD j default) = 0 }) (fun i => ⟨[(0, .sl (cvs l)), (5, .sl (cvs l)), (6, .int .i64 l.length), (7, .int .i64 i.1)], [], 0⟩) (fun i => l.length - i.1) ⟨0, by simp⟩ ?_ ?_
  · simp [go_sem]
  · rintro ⟨i, hi, hall⟩
    refine awp_sound rfew_T_ok.toS lv29 _ _ _ rfl ?_
    simp -implicitDefEqProofs only [cd_t, cd_f, cd_dec, cd_not, cd_and, cd_or, grd_tt, grd_ff, grd_tf, grd_ft, grd_dt, grd_df, grd_nt, grd_nf, go_sem, reduceIte, reduceCtorEq, Nat.reduceEqDiff, Nat.reduceAdd, Nat.reduceLeDiff, Nat.reduceSub, Nat.reduceMul, Nat.reduceLT, Nat.reduceShiftRight, Nat.reduceMod, Int.reduceLE, Int.reduceLT, Int.reduceToNat, decide_true, Bool.and_self, Bool.true_and, Ob.map.injEq, Ob.it.injEq, List.cons.injEq, true_and, and_true]
    refine ⟨fun h => ⟨by omega, fun h1 => ⟨⟨i + 1, by omega, fun j hj => ?_⟩, by dsimp only; omega, i64_in _ (by omega)⟩, fun h1 => ?_⟩, fun h _ => ?_⟩
    · by_cases hji : j = i
      · subst hji; exact h1
      · exact hall j (by omega)
    · rw [eq_comm, decide_eq_false_iff_not]
      rintro ⟨_, h2⟩
      have := List.all_eq_true.1 h2 _ (mem_getD.2 ⟨i, by omega, rfl⟩)
      exact h1 (by simpa using this)
    · refine decide_eq_decide.2 ⟨fun h => ⟨by omega, List.all_eq_true.2 fun x hx => ?_⟩, fun h => by omega⟩
      obtain ⟨j, hj, rfl⟩ := mem_getD.1 hx
      simpa using hall j (by omega)
def sp_rfew : List D → Option (Prop × D × Fr)
  | [.c (.sl z6)] => some (z6 = cvs (dcvs z6), rfew_r (dcvs z6), [])
  | _ => none
attribute [go_sem] sp_rfew
theorem sp_rfew_ok : ∀ rs p r fr, sp_rfew rs = some (p, r, fr) → p → FnOk Try.prog 29 rs r fr := by
  intro rs p r fr h hp
  unfold sp_rfew at h
  split at h <;> cases h
  have hc0 := hp
  rename_i z6
  obtain ⟨z6, rfl⟩ : ∃ m, z6 = cvs m := ⟨_, hc0⟩
  simp only [dcvs_cvs]
  exact rfew_ok z6
@[go_sem] def rless_r (a : Ct) (b : Ct) : D := .bool (decide (ltC a.key b.key))
@[go_sem] abbrev n_rless : FuncId := 33
@[go_sem] def rless_T : Tab := []
theorem rless_T_ok : TabOk Try.prog rless_T := TabOk.nil
set_option maxRecDepth 8000 in
set_option maxHeartbeats 1000000 in
theorem rless_ok (a : Ct) (b : Ct)  : PureFn Try.prog 33 [.agg [.c (.int .u64 (a.root : Int)), .c (.int .u64 (a.b : Int)), .c (.int .u64 (a.n : Int))], .agg [.c (.int .u64 (b.root : Int)), .c (.int .u64 (b.b : Int)), .c (.int .u64 (b.n : Int))]] (rless_r a b) := by
  refine .of (ac33 rless_T_ok (Nat.le_of_ble_eq_true rfl) ?_)
  simp -implicitDefEqProofs only [cd_t, cd_f, cd_dec, cd_not, cd_and, cd_or, grd_tt, grd_ff, grd_tf, grd_ft, grd_dt, grd_df, grd_nt, grd_nf, go_sem, Go.Proofs.Try.f33, reduceIte, reduceCtorEq, Nat.reduceEqDiff, Nat.reduceAdd, Nat.reduceLeDiff, Nat.reduceSub, Nat.reduceMul, Nat.reduceLT, Nat.reduceShiftRight, Nat.reduceMod, Int.reduceLE, Int.reduceLT, Int.reduceToNat, decide_true, Bool.and_self, Bool.true_and, Ob.map.injEq, Ob.it.injEq, List.cons.injEq, true_and, and_true]
  have hk : ltC a.key b.key ↔ a.root < b.root ∨ (a.root = b.root ∧ a.b < b.b) := Iff.rfl
  refine ⟨fun h => ⟨fun h1 => decide_eq_decide.2 (by rw [hk]; omega), fun h1 => ?_⟩, fun h => ?_⟩
  · rw [decide_eq_false (by rw [hk]; omega)]
  · rw [decide_eq_true (by rw [hk]; omega)]
def sp_rless : List D → Option (Prop × D × Fr)
  | [.agg [.c (.int .u64 z8), .c (.int .u64 z9), .c (.int .u64 z10)], .agg [.c (.int .u64 z12), .c (.int .u64 z13), .c (.int .u64 z14)]] => some (z8 = (z8.toNat : Int) ∧ z9 = (z9.toNat : Int) ∧ z10 = (z10.toNat : Int) ∧ z12 = (z12.toNat : Int) ∧ z13 = (z13.toNat : Int) ∧ z14 = (z14.toNat : Int), rless_r (⟨z8.toNat, z9.toNat, z10.toNat⟩ : Ct) (⟨z12.toNat, z13.toNat, z14.toNat⟩ : Ct), [])
  | _ => none
attribute [go_sem] sp_rless
theorem sp_rless_ok : ∀ rs p r fr, sp_rless rs = some (p, r, fr) → p → FnOk Try.prog 33 rs r fr := by
  intro rs p r fr h hp
  unfold sp_rless at h
  split at h <;> cases h
  obtain ⟨hc0, hc1, hc2, hc3, hc4, hc5⟩ := hp
  rename_i z8 z9 z10 z12 z13 z14
  obtain ⟨z8, rfl⟩ : ∃ m : Nat, z8 = m := ⟨_, hc0⟩
  obtain ⟨z9, rfl⟩ : ∃ m : Nat, z9 = m := ⟨_, hc1⟩
  obtain ⟨z10, rfl⟩ : ∃ m : Nat, z10 = m := ⟨_, hc2⟩
  obtain ⟨z12, rfl⟩ : ∃ m : Nat, z12 = m := ⟨_, hc3⟩
  obtain ⟨z13, rfl⟩ : ∃ m : Nat, z13 = m := ⟨_, hc4⟩
  obtain ⟨z14, rfl⟩ : ∃ m : Nat, z14 = m := ⟨_, hc5⟩
  simp only [Int.toNat_natCast]
  exact rless_ok ⟨z8, z9, z10⟩ ⟨z12, z13, z14⟩
@[go_sem] def rcheck_r (l : List Ct) : D := .int .i64 (chkC l)
@[go_sem] abbrev n_rcheck : FuncId := 20
@[go_sem] def rcheck_T : Tab := [(33, sp_rless), (30, sp_rmon)]
theorem rcheck_T_ok : TabOk Try.prog rcheck_T := (TabOk.cons sp_rless_ok (TabOk.cons sp_rmon_ok TabOk.nil))
set_option maxRecDepth 8000 in
set_option maxHeartbeats 1000000 in
theorem rcheck_ok (l : List Ct)  : PureFn Try.prog 20 [.sl (cts l)] (rcheck_r l) := by
  refine .of (ac20 rcheck_T_ok (Nat.le_of_ble_eq_true rfl) ?_)
  simp -implicitDefEqProofs only [cd_t, cd_f, cd_dec, cd_not, cd_and, cd_or, grd_tt, grd_ff, grd_tf, grd_ft, grd_dt, grd_df, grd_nt, grd_nf, go_sem, Go.Proofs.Try.f20, reduceIte, reduceCtorEq, Nat.reduceEqDiff, Nat.reduceAdd, Nat.reduceLeDiff, Nat.reduceSub, Nat.reduceMul, Nat.reduceLT, Nat.reduceShiftRight, Nat.reduceMod, Int.reduceLE, Int.reduceLT, Int.reduceToNat, decide_true, Bool.and_self, Bool.true_and, Ob.map.injEq, Ob.it.injEq, List.cons.injEq, true_and, and_true]
  refine fun hl => ⟨fun h1 => ?_, fun h1 _ => ?_⟩
  · rw [chkC, if_neg (by omega)]
  · refine SWp.loop (ι := { i : Nat // i ≤ l.length ∧ ∀ j, j < i → (0 < j → ltC (l.getD (j - 1) default).key (l.getD j default).key) ∧ ¬ (l.getD j default).n = 0 ∧ (l.getD j default).n ≤ 4611686018427387904 }) (fun i => ⟨[(0, .sl (cts l)), (8, .sl (cts l)), (9, .int .i64 l.length), (10, .int .i64 i.1)], [], 0⟩) (fun i => l.length - i.1) ⟨0, by simp⟩ ?_ ?_
    · simp [go_sem]
    · rintro ⟨i, hi, hall⟩
      refine awp_sound rcheck_T_ok.toS lv20 _ _ _ rfl ?_
      simp -implicitDefEqProofs only [cd_t, cd_f, cd_dec, cd_not, cd_and, cd_or, grd_tt, grd_ff, grd_tf, grd_ft, grd_dt, grd_df, grd_nt, grd_nf, go_sem, reduceIte, reduceCtorEq, Nat.reduceEqDiff, Nat.reduceAdd, Nat.reduceLeDiff, Nat.reduceSub, Nat.reduceMul, Nat.reduceLT, Nat.reduceShiftRight, Nat.reduceMod, Int.reduceLE, Int.reduceLT, Int.reduceToNat, decide_true, Bool.and_self, Bool.true_and, Ob.map.injEq, Ob.it.injEq, List.cons.injEq, true_and, and_true]
      refine ⟨fun h => ⟨by omega, ?_⟩, fun h => ?_⟩
      · have hi' : i < l.length := by omega
        refine ADraw.run us20_6 rcheck_T_ok follows_mixed (by kernel_rfl) (by kernel_rfl) ?_
        simp -implicitDefEqProofs only [cd_t, cd_f, cd_dec, cd_not, cd_and, cd_or, grd_tt, grd_ff, grd_tf, grd_ft, grd_dt, grd_df, grd_nt, grd_nf, go_sem, reduceIte, reduceCtorEq, Nat.reduceEqDiff, Nat.reduceAdd, Nat.reduceLeDiff, Nat.reduceSub, Nat.reduceMul, Nat.reduceLT, Nat.reduceShiftRight, Nat.reduceMod, Int.reduceLE, Int.reduceLT, Int.reduceToNat, decide_true, Bool.and_self, Bool.true_and, Ob.map.injEq, Ob.it.injEq, List.cons.injEq, true_and, and_true]
        have hbad : ¬ ((0 < i → ltC (l.getD (i - 1) default).key (l.getD i default).key) ∧ ¬ (l.getD i default).n = 0 ∧ (l.getD i default).n ≤ 4611686018427387904) → 1 = chkC l := fun hb => by
          rw [chkC, if_neg]
          rintro ⟨_, h2, h3⟩
          exact hb ⟨fun h0 => h2 i hi' h0, h3 _ (mem_getD.2 ⟨i, hi', rfl⟩)⟩
        have hnext : (0 < i → ltC (l.getD (i - 1) default).key (l.getD i default).key) → ¬ (l.getD i default).n = 0 ∧ (l.getD i default).n ≤ 4611686018427387904 → ∃ i_1 : { i : Nat // i ≤ l.length ∧ ∀ j, j < i → (0 < j → ltC (l.getD (j - 1) default).key (l.getD j default).key) ∧ ¬ (l.getD j default).n = 0 ∧ (l.getD j default).n ≤ 4611686018427387904 }, l.length - i_1.val < l.length - i ∧ IntKind.i64.wrap (↑i + 1) = ↑i_1.val := fun ha hb =>
          ⟨⟨i + 1, hi', fun j hj => by
            by_cases hji : j = i
            · subst hji; exact ⟨ha, hb⟩
            · exact hall j (by omega)⟩, by dsimp only; omega, i64_in _ (by omega)⟩
        rw [mon1_0]
        have hin : ltC (l.getD (i - 1) default).key (l.getD i default).key ∨ ¬ 0 < i → (¬ ((l.getD i default).n : Int) = 0 → ((l.getD i default).n ≤ 4611686018427387904 → ∃ i_1 : { i : Nat // i ≤ l.length ∧ ∀ j, j < i → (0 < j → ltC (l.getD (j - 1) default).key (l.getD j default).key) ∧ ¬ (l.getD j default).n = 0 ∧ (l.getD j default).n ≤ 4611686018427387904 }, l.length - i_1.val < l.length - i ∧ IntKind.i64.wrap (↑i + 1) = ↑i_1.val) ∧ (¬ (l.getD i default).n ≤ 4611686018427387904 → 1 = chkC l)) ∧ (((l.getD i default).n : Int) = 0 → 1 = chkC l) := fun hlt =>
          ⟨fun h2 => ⟨fun h3 => hnext (fun h0 => hlt.resolve_right fun h => h h0) ⟨by omega, h3⟩, fun h3 => hbad fun h => h3 h.2.2⟩, fun h2 => hbad fun h => h.2.1 (by omega)⟩
        refine ⟨fun h2 => ?_, fun h2 => hin (.inr (by omega))⟩
        rw [i64_in _ (by omega), show ((i : Int) - 1).toNat = i - 1 by omega]
        exact ⟨by omega, fun h3 => hin (.inl h3), fun h3 => hbad fun h => h3 (h.1 (by omega))⟩
      · have hi' : i = l.length := by omega
        subst hi'
        rw [chkC, if_pos]
        refine ⟨by omega, fun j hj h0 => (hall j hj).1 h0, fun c hc => ?_⟩
        obtain ⟨j, hj, rfl⟩ := mem_getD.1 hc
        exact (hall j hj).2
def sp_rcheck : List D → Option (Prop × D × Fr)
  | [.c (.sl z15)] => some (z15 = cts (dcts z15), rcheck_r (dcts z15), [])
  | _ => none
attribute [go_sem] sp_rcheck
theorem sp_rcheck_ok : ∀ rs p r fr, sp_rcheck rs = some (p, r, fr) → p → FnOk Try.prog 20 rs r fr := by
  intro rs p r fr h hp
  unfold sp_rcheck at h
  split at h <;> cases h
  have hc0 := hp
  rename_i z15
  obtain ⟨z15, rfl⟩ : ∃ m, z15 = cts m := ⟨_, hc0⟩
  simp only [dcts_cts]
  exact rcheck_ok z15
@[go_sem] def rsame_r (a : List Ct) (b : List Ct) : D := .bool (decide (a = b))
@[go_sem] abbrev n_rsame : FuncId := 19
@[go_sem] def rsame_T : Tab := []
theorem rsame_T_ok : TabOk Try.prog rsame_T := TabOk.nil
set_option maxRecDepth 8000 in
set_option maxHeartbeats 1000000 in
theorem rsame_ok (a : List Ct) (b : List Ct)  : PureFn Try.prog 19 [.sl (cts a), .sl (cts b)] (rsame_r a b) := by
  refine .of (ac19 rsame_T_ok (Nat.le_of_ble_eq_true rfl) ?_)
  simp -implicitDefEqProofs only [cd_t, cd_f, cd_dec, cd_not, cd_and, cd_or, grd_tt, grd_ff, grd_tf, grd_ft, grd_dt, grd_df, grd_nt, grd_nf, go_sem, Go.Proofs.Try.f19, reduceIte, reduceCtorEq, Nat.reduceEqDiff, Nat.reduceAdd, Nat.reduceLeDiff, Nat.reduceSub, Nat.reduceMul, Nat.reduceLT, Nat.reduceShiftRight, Nat.reduceMod, Int.reduceLE, Int.reduceLT, Int.reduceToNat, decide_true, Bool.and_self, Bool.true_and, Ob.map.injEq, Ob.it.injEq, List.cons.injEq, true_and, and_true]
  refine fun ha hb => ⟨fun hl _ => ?_, fun h => ?_⟩
  · refine SWp.loop (ι := { i : Nat // i ≤ a.length ∧ a.take i = b.take i }) (fun i => ⟨[(0, .sl (cts a)), (1, .sl (cts b)), (12, .int .i64 a.length), (13, .int .i64 i.1)], [], 0⟩) (fun i => a.length - i.1) ⟨0, by simp⟩ ?_ ?_
    · simp [go_sem]
    · rintro ⟨i, hi, hab⟩
      refine awp_sound rsame_T_ok.toS lv19 _ _ _ rfl ?_
      simp -implicitDefEqProofs only [cd_t, cd_f, cd_dec, cd_not, cd_and, cd_or, grd_tt, grd_ff, grd_tf, grd_ft, grd_dt, grd_df, grd_nt, grd_nf, go_sem, reduceIte, reduceCtorEq, Nat.reduceEqDiff, Nat.reduceAdd, Nat.reduceLeDiff, Nat.reduceSub, Nat.reduceMul, Nat.reduceLT, Nat.reduceShiftRight, Nat.reduceMod, Int.reduceLE, Int.reduceLT, Int.reduceToNat, decide_true, Bool.and_self, Bool.true_and, Ob.map.injEq, Ob.it.injEq, List.cons.injEq, true_and, and_true]
      refine ⟨fun h => ?_, fun h => ?_⟩
      · refine ADraw.run us19_6 rsame_T_ok follows_mixed (by kernel_rfl) (by kernel_rfl) ?_
        simp -implicitDefEqProofs only [cd_t, cd_f, cd_dec, cd_not, cd_and, cd_or, grd_tt, grd_ff, grd_tf, grd_ft, grd_dt, grd_df, grd_nt, grd_nf, go_sem, reduceIte, reduceCtorEq, Nat.reduceEqDiff, Nat.reduceAdd, Nat.reduceLeDiff, Nat.reduceSub, Nat.reduceMul, Nat.reduceLT, Nat.reduceShiftRight, Nat.reduceMod, Int.reduceLE, Int.reduceLT, Int.reduceToNat, decide_true, Bool.and_self, Bool.true_and, Ob.map.injEq, Ob.it.injEq, List.cons.injEq, true_and, and_true]
        have h1 : i < a.length := by omega
        have h2 : i < b.length := by omega
        have ht := take_succ_iff h1 h2 hab
        refine ⟨by omega, by omega, fun he => ⟨⟨i + 1, h1, ht.2 he⟩, by dsimp only; omega, i64_in _ (by omega)⟩, fun he => ?_⟩
        rw [eq_comm, decide_eq_false_iff_not]
        rintro rfl
        exact he rfl
      · have e : i = a.length := by omega
        have : a = b := by
          rw [e, List.take_length] at hab
          rw [hab, List.take_of_length_le (by omega)]
        simp [this]
  · have : a ≠ b := by rintro rfl; exact h rfl
    simp [this]
def sp_rsame : List D → Option (Prop × D × Fr)
  | [.c (.sl z16), .c (.sl z17)] => some (z16 = cts (dcts z16) ∧ z17 = cts (dcts z17), rsame_r (dcts z16) (dcts z17), [])
  | _ => none
attribute [go_sem] sp_rsame
theorem sp_rsame_ok : ∀ rs p r fr, sp_rsame rs = some (p, r, fr) → p → FnOk Try.prog 19 rs r fr := by
  intro rs p r fr h hp
  unfold sp_rsame at h
  split at h <;> cases h
  obtain ⟨hc0, hc1⟩ := hp
  rename_i z16 z17
  obtain ⟨z16, rfl⟩ : ∃ m, z16 = cts m := ⟨_, hc0⟩
  obtain ⟨z17, rfl⟩ : ∃ m, z17 = cts m := ⟨_, hc1⟩
  simp only [dcts_cts]
  exact rsame_ok z16 z17
theorem was_at {l : List Ct} (hu : Srt.Up Ct.key ltC l) {i : Nat} (hi : i < l.length) {root b : Nat} (h : (l.getD i default).root = root ∧ (l.getD i default).b = b) : was l root b = (l.getD i default).n := by
  rw [was, (Srt.fnd_some totC hu (x := l.getD i default)).2 ⟨mem_getD.2 ⟨i, hi, rfl⟩, by rw [Ct.key, h.1, h.2]⟩]; rfl
theorem was_no {l : List Ct} {root b : Nat} (h : ∀ j, j < l.length → ¬ ((l.getD j default).root = root ∧ (l.getD j default).b = b)) : was l root b = 0 := by
  rw [was, Srt.fnd_none.2 fun x hx he => ?_]; rfl
  obtain ⟨j, hj, rfl⟩ := mem_getD.1 hx
  simp only [Ct.key, Prod.mk.injEq] at he
  exact h j hj he
@[go_sem] def rspent_r (l : List Ct) (root : Nat) (b : Nat) : D := .tup [.int .u64 ((spentS l root b).1 : Int), .int .i64 (spentS l root b).2]
@[go_sem] abbrev n_rspent : FuncId := 16
@[go_sem] def rspent_T : Tab := [(20, sp_rcheck)]
theorem rspent_T_ok : TabOk Try.prog rspent_T := (TabOk.cons sp_rcheck_ok TabOk.nil)
set_option maxRecDepth 8000 in
set_option maxHeartbeats 1000000 in
theorem rspent_ok (l : List Ct) (root : Nat) (b : Nat)  : PureFn Try.prog 16 [.sl (cts l), .c (.int .u64 (root : Int)), .c (.int .u64 (b : Int))] (rspent_r l root b) := by
  refine .of (ac16 rspent_T_ok (Nat.le_of_ble_eq_true rfl) ?_)
  simp -implicitDefEqProofs only [cd_t, cd_f, cd_dec, cd_not, cd_and, cd_or, grd_tt, grd_ff, grd_tf, grd_ft, grd_dt, grd_df, grd_nt, grd_nf, go_sem, Go.Proofs.Try.f16, reduceIte, reduceCtorEq, Nat.reduceEqDiff, Nat.reduceAdd, Nat.reduceLeDiff, Nat.reduceSub, Nat.reduceMul, Nat.reduceLT, Nat.reduceShiftRight, Nat.reduceMod, Int.reduceLE, Int.reduceLT, Int.reduceToNat, decide_true, Bool.and_self, Bool.true_and, Ob.map.injEq, Ob.it.injEq, List.cons.injEq, true_and, and_true]
  refine ⟨fun hc hl => ?_, fun h => ?_⟩
  · rw [spentS_ok hc]
    have hu := (chkC_0 hc).2.1
    refine SWp.loop (ι := { i : Nat // i ≤ l.length ∧ ∀ j, j < i → ¬ ((l.getD j default).root = root ∧ (l.getD j default).b = b) }) (fun i => ⟨[(1, .int .u64 root), (2, .int .u64 b), (13, .sl (cts l)), (14, .int .i64 l.length), (15, .int .i64 i.1)], [], 0⟩) (fun i => l.length - i.1) ⟨0, by simp⟩ ?_ ?_
    · simp [go_sem]
    · rintro ⟨i, hi, hall⟩
      refine awp_sound rspent_T_ok.toS lv16 _ _ _ rfl ?_
      simp -implicitDefEqProofs only [cd_t, cd_f, cd_dec, cd_not, cd_and, cd_or, grd_tt, grd_ff, grd_tf, grd_ft, grd_dt, grd_df, grd_nt, grd_nf, go_sem, reduceIte, reduceCtorEq, Nat.reduceEqDiff, Nat.reduceAdd, Nat.reduceLeDiff, Nat.reduceSub, Nat.reduceMul, Nat.reduceLT, Nat.reduceShiftRight, Nat.reduceMod, Int.reduceLE, Int.reduceLT, Int.reduceToNat, decide_true, Bool.and_self, Bool.true_and, Ob.map.injEq, Ob.it.injEq, List.cons.injEq, true_and, and_true]
      have hnext : ¬ ((l.getD i default).root = root ∧ (l.getD i default).b = b) → i < l.length → ∃ i_1 : { i : Nat // i ≤ l.length ∧ ∀ j, j < i → ¬ ((l.getD j default).root = root ∧ (l.getD j default).b = b) }, l.length - i_1.val < l.length - i ∧ IntKind.i64.wrap (↑i + 1) = ↑i_1.val := fun hn hi' =>
        ⟨⟨i + 1, hi', fun j hj => by
          by_cases hji : j = i
          · subst hji; exact hn
          · exact hall j (by omega)⟩, by dsimp only; omega, i64_in _ (by omega)⟩
      refine ⟨fun h => ⟨by omega, fun h1 => ⟨fun h2 => ?_, fun h2 => hnext (fun h => h2 (by omega)) (by omega)⟩, fun h1 => hnext (fun h => h1 (by omega)) (by omega)⟩, fun h => ?_⟩
      · rw [was_at hu (i := i) (by omega) ⟨by omega, by omega⟩]
      · rw [was_no fun j hj => hall j (by omega)]; rfl
  · rw [spentS, if_neg h]; exact ⟨rfl, rfl⟩
def sp_rspent : List D → Option (Prop × D × Fr)
  | [.c (.sl z18), .c (.int .u64 z19), .c (.int .u64 z20)] => some (z18 = cts (dcts z18) ∧ z19 = (z19.toNat : Int) ∧ z20 = (z20.toNat : Int), rspent_r (dcts z18) z19.toNat z20.toNat, [])
  | _ => none
attribute [go_sem] sp_rspent
theorem sp_rspent_ok : ∀ rs p r fr, sp_rspent rs = some (p, r, fr) → p → FnOk Try.prog 16 rs r fr := by
  intro rs p r fr h hp
  unfold sp_rspent at h
  split at h <;> cases h
  obtain ⟨hc0, hc1, hc2⟩ := hp
  rename_i z18 z19 z20
  obtain ⟨z18, rfl⟩ : ∃ m, z18 = cts m := ⟨_, hc0⟩
  obtain ⟨z19, rfl⟩ : ∃ m : Nat, z19 = m := ⟨_, hc1⟩
  obtain ⟨z20, rfl⟩ : ∃ m : Nat, z20 = m := ⟨_, hc2⟩
  simp only [Int.toNat_natCast, dcts_cts]
  exact rspent_ok z18 z19 z20
@[go_sem] def rmay_r (l : List Ct) (root : Nat) (cav : List Cv) (n : Nat) : D := .tup [.bool (mayS l root cav n).1, .int .i64 (mayS l root cav n).2]
@[go_sem] abbrev n_rmay : FuncId := 17
@[go_sem] def rmay_T : Tab := [(20, sp_rcheck), (29, sp_rfew), (30, sp_rmon), (16, sp_rspent)]
theorem rmay_T_ok : TabOk Try.prog rmay_T := (TabOk.cons sp_rcheck_ok (TabOk.cons sp_rfew_ok (TabOk.cons sp_rmon_ok (TabOk.cons sp_rspent_ok TabOk.nil))))
set_option maxRecDepth 8000 in
set_option maxHeartbeats 1000000 in
theorem rmay_ok (l : List Ct) (root : Nat) (cav : List Cv) (n : Nat)  : PureFn Try.prog 17 [.sl (cts l), .c (.int .u64 (root : Int)), .sl (cvs cav), .c (.int .u64 (n : Int))] (rmay_r l root cav n) := by
  refine .of (ac17 rmay_T_ok (Nat.le_of_ble_eq_true rfl) ?_)
  simp -implicitDefEqProofs only [cd_t, cd_f, cd_dec, cd_not, cd_and, cd_or, grd_tt, grd_ff, grd_tf, grd_ft, grd_dt, grd_df, grd_nt, grd_nf, go_sem, Go.Proofs.Try.f17, reduceIte, reduceCtorEq, Nat.reduceEqDiff, Nat.reduceAdd, Nat.reduceLeDiff, Nat.reduceSub, Nat.reduceMul, Nat.reduceLT, Nat.reduceShiftRight, Nat.reduceMod, Int.reduceLE, Int.reduceLT, Int.reduceToNat, decide_true, Bool.and_self, Bool.true_and, Ob.map.injEq, Ob.it.injEq, List.cons.injEq, true_and, and_true]
  rw [← caps_iff, mon1_0]
  have hno : ¬ ((capS cav).2 = 0 ∧ chkC l = 0 ∧ n ≤ 4611686018427387904) → mayS l root cav n = (false, 1) := fun h => by
    have : (sumsS l root cav n).2 = 1 := by rw [sumsS, if_neg h]
    simp [mayS, this]
  refine ⟨fun h1 => ⟨fun h2 => ⟨fun h3 hl => ?_, fun h3 => ?_⟩, fun h2 => ?_⟩, fun h1 => ?_⟩
  · have hs := sums_ref (l := l) (root := root) h2 h1 h3
    have hmay : (sumsS l root cav n).2 = 0 → mayS l root cav n = (true, 0) := fun h => by simp [mayS, h]
    have hover : ¬ (sumsS l root cav n).2 = 0 → mayS l root cav n = (false, 0) := fun h => by
      have : (sumsS l root cav n).2 = 8 := by
        rw [sumsS, if_pos ⟨h2, h1, h3⟩] at h ⊢
        split at h
        · exact absurd rfl h
        · rename_i hx; rw [if_neg hx]
      simp [mayS, this]
    refine SWp.loop (ι := { i : Nat // i ≤ cav.length ∧ ∀ j, j < i → (cav.getD j default).kind = 4 → (was l root (cav.getD j default).b : Int) + n ≤ 4611686018427387904 ∧ (was l root (cav.getD j default).b : Int) + n ≤ (cav.getD j default).a }) (fun i => ⟨[(0, .sl (cts l)), (1, .int .u64 root), (3, .int .u64 n), (28, .sl (cvs cav)), (29, .int .i64 cav.length), (30, .int .i64 i.1)], [], 0⟩) (fun i => cav.length - i.1) ⟨0, by simp⟩ ?_ ?_
    · simp [go_sem]
    · rintro ⟨i, hi, hall⟩
      refine awp_sound rmay_T_ok.toS lv17 _ _ _ rfl ?_
      simp -implicitDefEqProofs only [cd_t, cd_f, cd_dec, cd_not, cd_and, cd_or, grd_tt, grd_ff, grd_tf, grd_ft, grd_dt, grd_df, grd_nt, grd_nf, go_sem, reduceIte, reduceCtorEq, Nat.reduceEqDiff, Nat.reduceAdd, Nat.reduceLeDiff, Nat.reduceSub, Nat.reduceMul, Nat.reduceLT, Nat.reduceShiftRight, Nat.reduceMod, Int.reduceLE, Int.reduceLT, Int.reduceToNat, decide_true, Bool.and_self, Bool.true_and, Ob.map.injEq, Ob.it.injEq, List.cons.injEq, true_and, and_true]
      rw [spentS_ok h1]
      have hw := was_le h1 root (cav.getD i default).b
      have hnext : i < cav.length → ((cav.getD i default).kind = 4 → (was l root (cav.getD i default).b : Int) + n ≤ 4611686018427387904 ∧ (was l root (cav.getD i default).b : Int) + n ≤ (cav.getD i default).a) → ∃ i_1 : { i : Nat // i ≤ cav.length ∧ ∀ j, j < i → (cav.getD j default).kind = 4 → (was l root (cav.getD j default).b : Int) + n ≤ 4611686018427387904 ∧ (was l root (cav.getD j default).b : Int) + n ≤ (cav.getD j default).a }, cav.length - i_1.val < cav.length - i ∧ IntKind.i64.wrap (↑i + 1) = ↑i_1.val := fun hi' hn =>
        ⟨⟨i + 1, hi', fun j hj => by
          by_cases hji : j = i
          · subst hji; exact hn
          · exact hall j (by omega)⟩, by dsimp only; omega, i64_in _ (by omega)⟩
      have hbad : i < cav.length → (cav.getD i default).kind = 4 → ¬ ((was l root (cav.getD i default).b : Int) + n ≤ 4611686018427387904 ∧ (was l root (cav.getD i default).b : Int) + n ≤ (cav.getD i default).a) → mayS l root cav n = (false, 0) := fun hi' hk hn =>
        hover fun h => hn (hs.1 h _ (mem_getD.2 ⟨i, hi', rfl⟩) hk)
      dsimp only
      rw [u64_in (4611686018427387904 - _) (by omega)]
      refine ⟨fun h => ⟨by omega, fun hk => ⟨fun h5 => ?_, fun h5 => ?_⟩, fun hk => hnext (by omega) fun h => absurd h hk⟩, fun h => ?_⟩
      · rw [u64_in _ (by omega)]
        refine ⟨fun h6 => ?_, fun h6 => hnext (by omega) fun _ => ⟨by omega, by omega⟩⟩
        rw [hbad (by omega) hk (by omega)]; exact ⟨rfl, rfl⟩
      · rw [hbad (by omega) hk (by omega)]; exact ⟨rfl, rfl⟩
      · rw [hmay (hs.2 fun c hc hk => by obtain ⟨j, hj, rfl⟩ := mem_getD.1 hc; exact hall j (by omega) hk)]; exact ⟨rfl, rfl⟩
  · rw [hno (fun h => h3 h.2.2)]; exact ⟨rfl, rfl⟩
  · rw [hno (fun h => h2 h.1)]; exact ⟨rfl, rfl⟩
  · rw [hno (fun h => h1 h.2.1)]; exact ⟨rfl, rfl⟩
def sp_rmay : List D → Option (Prop × D × Fr)
  | [.c (.sl z21), .c (.int .u64 z22), .c (.sl z23), .c (.int .u64 z24)] => some (z21 = cts (dcts z21) ∧ z22 = (z22.toNat : Int) ∧ z23 = cvs (dcvs z23) ∧ z24 = (z24.toNat : Int), rmay_r (dcts z21) z22.toNat (dcvs z23) z24.toNat, [])
  | _ => none
attribute [go_sem] sp_rmay
theorem sp_rmay_ok : ∀ rs p r fr, sp_rmay rs = some (p, r, fr) → p → FnOk Try.prog 17 rs r fr := by
  intro rs p r fr h hp
  unfold sp_rmay at h
  split at h <;> cases h
  obtain ⟨hc0, hc1, hc2, hc3⟩ := hp
  rename_i z21 z22 z23 z24
  obtain ⟨z21, rfl⟩ : ∃ m, z21 = cts m := ⟨_, hc0⟩
  obtain ⟨z22, rfl⟩ : ∃ m : Nat, z22 = m := ⟨_, hc1⟩
  obtain ⟨z23, rfl⟩ : ∃ m, z23 = cvs m := ⟨_, hc2⟩
  obtain ⟨z24, rfl⟩ : ∃ m : Nat, z24 = m := ⟨_, hc3⟩
  simp only [Int.toNat_natCast, dcts_cts, dcvs_cvs]
  exact rmay_ok z21 z22 z23 z24
theorem filt_succ {p : Ct → Bool} {B : List Ct} {i : Nat} (hi : i < B.length) : (B.take (i + 1)).filter p = (B.take i).filter p ++ (if p (B.getD i default) = true then [B.getD i default] else []) := by
  rw [take_succ hi, List.filter_append]
  congr 1
  generalize B.getD i default = x
  by_cases h : p x = true <;> simp [h]
@[go_sem] def rwith_r (l : List Ct) (c : Ct) : D := .sl (cts (l.filter (fun e => decide (ltC e.key c.key)) ++ c :: l.filter (fun e => decide (ltC c.key e.key))))
@[go_sem] abbrev n_rwith : FuncId := 32
@[go_sem] def rwith_T : Tab := [(33, sp_rless)]
theorem rwith_T_ok : TabOk Try.prog rwith_T := (TabOk.cons sp_rless_ok TabOk.nil)
set_option maxRecDepth 8000 in
set_option maxHeartbeats 1000000 in
theorem rwith_ok (l : List Ct) (c : Ct) (hl : l.length ≤ 1000000) : PureFn Try.prog 32 [.sl (cts l), .agg [.c (.int .u64 (c.root : Int)), .c (.int .u64 (c.b : Int)), .c (.int .u64 (c.n : Int))]] (rwith_r l c) := by
  refine .of (ac32 rwith_T_ok (Nat.le_of_ble_eq_true rfl) ?_)
  simp -implicitDefEqProofs only [cd_t, cd_f, cd_dec, cd_not, cd_and, cd_or, grd_tt, grd_ff, grd_tf, grd_ft, grd_dt, grd_df, grd_nt, grd_nf, go_sem, Go.Proofs.Try.f32, reduceIte, reduceCtorEq, Nat.reduceEqDiff, Nat.reduceAdd, Nat.reduceLeDiff, Nat.reduceSub, Nat.reduceMul, Nat.reduceLT, Nat.reduceShiftRight, Nat.reduceMod, Int.reduceLE, Int.reduceLT, Int.reduceToNat, decide_true, Bool.and_self, Bool.true_and, Ob.map.injEq, Ob.it.injEq, List.cons.injEq, true_and, and_true]
  refine fun _ => SWp.nilvec 5 3 48 rfl (Nat.zero_le _) ?_
  refine SWp.loop (ι := { i : Nat // i ≤ l.length }) (fun i => ⟨[(0, .sl (cts l)), (3, .ref 0 0), (5, .vec 1 ((l.take i.1).filter fun e => decide (ltC e.key c.key)).length), (10, .sl (cts l)), (11, .int .i64 l.length), (12, .int .i64 i.1)],
    [(1, .vec true 3 48 (cts ((l.take i.1).filter fun e => decide (ltC e.key c.key)))), (0, .box [.int .u64 c.root, .int .u64 c.b, .int .u64 c.n])], 2⟩) (fun i => l.length - i.1) ⟨0, by omega⟩ ?_ ?_
  · simp [go_sem, cts]
  · rintro ⟨i, hi⟩
    refine awp_sound rwith_T_ok.toS lv32 _ _ _ rfl ?_
    simp -implicitDefEqProofs only [cd_t, cd_f, cd_dec, cd_not, cd_and, cd_or, grd_tt, grd_ff, grd_tf, grd_ft, grd_dt, grd_df, grd_nt, grd_nf, go_sem, reduceIte, reduceCtorEq, Nat.reduceEqDiff, Nat.reduceAdd, Nat.reduceLeDiff, Nat.reduceSub, Nat.reduceMul, Nat.reduceLT, Nat.reduceShiftRight, Nat.reduceMod, Int.reduceLE, Int.reduceLT, Int.reduceToNat, decide_true, Bool.and_self, Bool.true_and, Ob.map.injEq, Ob.it.injEq, List.cons.injEq, true_and, and_true]
    have hfl := List.length_filter_le (fun e : Ct => decide (ltC e.key c.key)) (l.take i)
    rw [List.length_take] at hfl
    refine ⟨fun h => ?_, fun h => ⟨by omega, fun _ => ?_⟩⟩
    · have hi' : i < l.length := by omega
      have hs := filt_succ (p := fun e => decide (ltC e.key c.key)) hi'
      refine ⟨by omega, fun h1 => ⟨by omega, ⟨i + 1, hi'⟩, by dsimp only; omega, ?_⟩, fun h1 => ⟨⟨i + 1, hi'⟩, by dsimp only; omega, ?_⟩⟩
      · rw [if_pos (by simpa using h1)] at hs
        simp [hs, i64_in ((i : Int) + 1) (by omega)]
      · rw [if_neg (by simpa using h1), List.append_nil] at hs
        simp [hs, i64_in ((i : Int) + 1) (by omega)]
    · have hi' : i = l.length := by omega
      subst hi'
      rw [List.take_length] at hfl ⊢
      refine SWp.loop (ι := { i : Nat // i ≤ l.length }) (fun i => ⟨[(3, .ref 0 0), (5, .vec 1 (l.filter (fun e => decide (ltC e.key c.key)) ++ c :: (l.take i.1).filter fun e => decide (ltC c.key e.key)).length), (28, .sl (cts l)), (29, .int .i64 l.length), (30, .int .i64 i.1)],
        [(1, .vec true 3 48 (cts (l.filter (fun e => decide (ltC e.key c.key)) ++ c :: (l.take i.1).filter fun e => decide (ltC c.key e.key)))), (0, .box [.int .u64 c.root, .int .u64 c.b, .int .u64 c.n])], 3⟩) (fun i => l.length - i.1) ⟨0, by omega⟩ ?_ ?_
      · simp [go_sem]
      · rintro ⟨j, hj⟩
        refine awp_sound rwith_T_ok.toS lv32 _ _ _ rfl ?_
        simp -implicitDefEqProofs only [cd_t, cd_f, cd_dec, cd_not, cd_and, cd_or, grd_tt, grd_ff, grd_tf, grd_ft, grd_dt, grd_df, grd_nt, grd_nf, go_sem, reduceIte, reduceCtorEq, Nat.reduceEqDiff, Nat.reduceAdd, Nat.reduceLeDiff, Nat.reduceSub, Nat.reduceMul, Nat.reduceLT, Nat.reduceShiftRight, Nat.reduceMod, Int.reduceLE, Int.reduceLT, Int.reduceToNat, decide_true, Bool.and_self, Bool.true_and, Ob.map.injEq, Ob.it.injEq, List.cons.injEq, true_and, and_true]
        have hfl2 := List.length_filter_le (fun e : Ct => decide (ltC c.key e.key)) (l.take j)
        rw [List.length_take] at hfl2
        refine ⟨fun h2 => ?_, fun h2 => ?_⟩
        · have hj' : j < l.length := by omega
          have hs := filt_succ (p := fun e => decide (ltC c.key e.key)) hj'
          refine ⟨by omega, fun h3 => ⟨by omega, ⟨j + 1, hj'⟩, by dsimp only; omega, ?_⟩, fun h3 => ⟨⟨j + 1, hj'⟩, by dsimp only; omega, ?_⟩⟩
          · rw [if_pos (by simpa using h3)] at hs
            simp [hs, i64_in ((j : Int) + 1) (by omega)]
            try omega
          · rw [if_neg (by simpa using h3), List.append_nil] at hs
            simp [hs, i64_in ((j : Int) + 1) (by omega)]
        · have hj' : j = l.length := by omega
          subst hj'
          rw [List.take_length]
          exact ⟨rfl, _, _, _, rfl⟩
@[go_sem] def rwith_p (l : List Ct) (c : Ct) : Prop := (l.length ≤ 1000000)
def sp_rwith : List D → Option (Prop × D × Fr)
  | [.c (.sl z25), .agg [.c (.int .u64 z27), .c (.int .u64 z28), .c (.int .u64 z29)]] => some (z25 = cts (dcts z25) ∧ z27 = (z27.toNat : Int) ∧ z28 = (z28.toNat : Int) ∧ z29 = (z29.toNat : Int) ∧ rwith_p (dcts z25) (⟨z27.toNat, z28.toNat, z29.toNat⟩ : Ct), rwith_r (dcts z25) (⟨z27.toNat, z28.toNat, z29.toNat⟩ : Ct), [])
  | _ => none
attribute [go_sem] sp_rwith
theorem sp_rwith_ok : ∀ rs p r fr, sp_rwith rs = some (p, r, fr) → p → FnOk Try.prog 32 rs r fr := by
  intro rs p r fr h hp
  unfold sp_rwith at h
  split at h <;> cases h
  obtain ⟨hc0, hc1, hc2, hc3, hp⟩ := hp
  rename_i z25 z27 z28 z29
  obtain ⟨z25, rfl⟩ : ∃ m, z25 = cts m := ⟨_, hc0⟩
  obtain ⟨z27, rfl⟩ : ∃ m : Nat, z27 = m := ⟨_, hc1⟩
  obtain ⟨z28, rfl⟩ : ∃ m : Nat, z28 = m := ⟨_, hc2⟩
  obtain ⟨z29, rfl⟩ : ∃ m : Nat, z29 = m := ⟨_, hc3⟩
  simp only [Int.toNat_natCast, dcts_cts]
  simp only [Int.toNat_natCast, dcts_cts, rwith_p] at hp
  exact rwith_ok z25 ⟨z27, z28, z29⟩ hp
@[go_sem] def rahead_r (l : List Cv) (i : Int) : D := .bool ((l.take i.toNat).any fun c => decide (c.kind = 4 ∧ c.b = (l.getD i.toNat default).b))
@[go_sem] abbrev n_rahead : FuncId := 31
@[go_sem] def rahead_T : Tab := []
theorem rahead_T_ok : TabOk Try.prog rahead_T := TabOk.nil
set_option maxRecDepth 8000 in
set_option maxHeartbeats 1000000 in
theorem rahead_ok (l : List Cv) (i : Int) (h : 0 ≤ i ∧ i < l.length) : PureFn Try.prog 31 [.sl (cvs l), .c (.int .i64 i)] (rahead_r l i) := by
  refine .of (ac31 rahead_T_ok (Nat.le_of_ble_eq_true rfl) ?_)
  simp -implicitDefEqProofs only [cd_t, cd_f, cd_dec, cd_not, cd_and, cd_or, grd_tt, grd_ff, grd_tf, grd_ft, grd_dt, grd_df, grd_nt, grd_nf, go_sem, Go.Proofs.Try.f31, reduceIte, reduceCtorEq, Nat.reduceEqDiff, Nat.reduceAdd, Nat.reduceLeDiff, Nat.reduceSub, Nat.reduceMul, Nat.reduceLT, Nat.reduceShiftRight, Nat.reduceMod, Int.reduceLE, Int.reduceLT, Int.reduceToNat, decide_true, Bool.and_self, Bool.true_and, Ob.map.injEq, Ob.it.injEq, List.cons.injEq, true_and, and_true]
  refine ⟨by omega, fun hl => ?_⟩
  refine SWp.loop (ι := { j : Nat // j ≤ (l.take i.toNat).length ∧ ∀ k, k < j → ¬ (((l.take i.toNat).getD k default).kind = 4 ∧ ((l.take i.toNat).getD k default).b = (l.getD i.toNat default).b) }) (fun j => ⟨[(0, .sl (cvs l)), (1, .int .i64 i), (9, .sl (cvs (l.take i.toNat))), (10, .int .i64 (l.take i.toNat).length), (11, .int .i64 j.1)], [], 0⟩) (fun j => (l.take i.toNat).length - j.1) ⟨0, by simp⟩ ?_ ?_
  · simp [go_sem]
  · rintro ⟨j, hj, hall⟩
    refine awp_sound rahead_T_ok.toS lv31 _ _ _ rfl ?_
    simp -implicitDefEqProofs only [cd_t, cd_f, cd_dec, cd_not, cd_and, cd_or, grd_tt, grd_ff, grd_tf, grd_ft, grd_dt, grd_df, grd_nt, grd_nf, go_sem, reduceIte, reduceCtorEq, Nat.reduceEqDiff, Nat.reduceAdd, Nat.reduceLeDiff, Nat.reduceSub, Nat.reduceMul, Nat.reduceLT, Nat.reduceShiftRight, Nat.reduceMod, Int.reduceLE, Int.reduceLT, Int.reduceToNat, decide_true, Bool.and_self, Bool.true_and, Ob.map.injEq, Ob.it.injEq, List.cons.injEq, true_and, and_true]
    refine ⟨fun h1 => ⟨by omega, ?_⟩, fun h1 => ?_⟩
    · refine ADraw.run us31_4 rahead_T_ok follows_mixed (by kernel_rfl) (by kernel_rfl) ?_
      simp -implicitDefEqProofs only [cd_t, cd_f, cd_dec, cd_not, cd_and, cd_or, grd_tt, grd_ff, grd_tf, grd_ft, grd_dt, grd_df, grd_nt, grd_nf, go_sem, reduceIte, reduceCtorEq, Nat.reduceEqDiff, Nat.reduceAdd, Nat.reduceLeDiff, Nat.reduceSub, Nat.reduceMul, Nat.reduceLT, Nat.reduceShiftRight, Nat.reduceMod, Int.reduceLE, Int.reduceLT, Int.reduceToNat, decide_true, Bool.and_self, Bool.true_and, Ob.map.injEq, Ob.it.injEq, List.cons.injEq, true_and, and_true]
      generalize hQ : List.take i.toNat l = Q at *
      have hnext : ¬ ((Q.getD j default).kind = 4 ∧ (Q.getD j default).b = (l.getD i.toNat default).b) → ∃ i_1 : { j : Nat // j ≤ Q.length ∧ ∀ k, k < j → ¬ ((Q.getD k default).kind = 4 ∧ (Q.getD k default).b = (l.getD i.toNat default).b) }, Q.length - i_1.val < Q.length - j ∧ IntKind.i64.wrap (↑j + 1) = ↑i_1.val := fun hn =>
        ⟨⟨j + 1, by omega, fun k hk => by
          by_cases hkj : k = j
          · subst hkj; exact hn
          · exact hall k (by omega)⟩, by dsimp only; omega, i64_in _ (by omega)⟩
      refine ⟨fun hk => ⟨h, fun hb => ?_, fun hb => hnext fun h => hb (by rw [h.2])⟩, fun hk => hnext fun h => hk h.1⟩
      exact (List.any_eq_true.2 ⟨Q.getD j default, mem_getD.2 ⟨j, by omega, rfl⟩, by rw [decide_eq_true_iff]; exact ⟨hk, by omega⟩⟩).symm
    · rw [eq_comm, Bool.eq_false_iff]
      intro h2
      obtain ⟨c, hc, h3⟩ := List.any_eq_true.1 h2
      obtain ⟨k, hk, rfl⟩ := mem_getD.1 hc
      exact hall k (by omega) (by simpa using h3)
@[go_sem] def rahead_p (l : List Cv) (i : Int) : Prop := (0 ≤ i ∧ i < l.length)
def sp_rahead : List D → Option (Prop × D × Fr)
  | [.c (.sl z30), .c (.int .i64 z31)] => some (z30 = cvs (dcvs z30) ∧ rahead_p (dcvs z30) z31, rahead_r (dcvs z30) z31, [])
  | _ => none
attribute [go_sem] sp_rahead
theorem sp_rahead_ok : ∀ rs p r fr, sp_rahead rs = some (p, r, fr) → p → FnOk Try.prog 31 rs r fr := by
  intro rs p r fr h hp
  unfold sp_rahead at h
  split at h <;> cases h
  obtain ⟨hc0, hp⟩ := hp
  rename_i z30 z31
  obtain ⟨z30, rfl⟩ : ∃ m, z30 = cvs m := ⟨_, hc0⟩
  simp only [dcvs_cvs]
  simp only [dcvs_cvs, rahead_p] at hp
  exact rahead_ok z30 z31 hp
@[go_sem] def radd_r (l : List Ct) (root : Nat) (cav : List Cv) (n : Nat) : D := .tup [.sl (cts (addC l root cav n).1), .int .i64 (addC l root cav n).2]
@[go_sem] abbrev n_radd : FuncId := 18
@[go_sem] def radd_T : Tab := [(17, sp_rmay), (16, sp_rspent), (32, sp_rwith), (31, sp_rahead)]
theorem radd_T_ok : TabOk Try.prog radd_T := (TabOk.cons sp_rmay_ok (TabOk.cons sp_rspent_ok (TabOk.cons sp_rwith_ok (TabOk.cons sp_rahead_ok TabOk.nil))))
set_option maxRecDepth 8000 in
set_option maxHeartbeats 1000000 in
theorem radd_ok (l : List Ct) (root : Nat) (cav : List Cv) (n : Nat)  : PureFn Try.prog 18 [.sl (cts l), .c (.int .u64 (root : Int)), .sl (cvs cav), .c (.int .u64 (n : Int))] (radd_r l root cav n) := by
  refine .of (ac18 radd_T_ok (Nat.le_of_ble_eq_true rfl) ?_)
  simp -implicitDefEqProofs only [cd_t, cd_f, cd_dec, cd_not, cd_and, cd_or, grd_tt, grd_ff, grd_tf, grd_ft, grd_dt, grd_df, grd_nt, grd_nf, go_sem, Go.Proofs.Try.f18, reduceIte, reduceCtorEq, Nat.reduceEqDiff, Nat.reduceAdd, Nat.reduceLeDiff, Nat.reduceSub, Nat.reduceMul, Nat.reduceLT, Nat.reduceShiftRight, Nat.reduceMod, Int.reduceLE, Int.reduceLT, Int.reduceToNat, decide_true, Bool.and_self, Bool.true_and, Ob.map.injEq, Ob.it.injEq, List.cons.injEq, true_and, and_true]
  refine ⟨fun h1 => ⟨fun h2 => ?_, fun h2 => ?_⟩, fun h1 => ?_⟩
  · have hs : (sumsS l root cav n).2 = 0 := by
      rcases may_law (l := l) (root := root) (cav := cav) (n := n) with h | h | h
      · exact h.1
      · rw [h.2] at h2; cases h2
      · rw [h.2] at h2; cases h2
    have hq := sums_0 hs
    have hc := chkC_0 hq.2.1
    have hcl : cav.length ≤ 16 := (caps_iff.1 hq.1).1
    refine ⟨by omega, fun hl => ?_⟩
    refine SWp.frz1 12 rfl rfl (cts_length _).symm ?_
    refine SWp.loop (ι := { x : Nat × List Ct // x.1 ≤ cav.length ∧ x.2 = if n = 0 then l else refF l root n ((cav.take x.1).foldl capF []) }) (fun x => ⟨[(0, .sl (cts l)), (1, .int .u64 root), (2, .sl (cvs cav)), (3, .int .u64 n), (12, .sl (cts x.1.2)), (32, .sl (cvs cav)), (33, .int .i64 cav.length), (34, .int .i64 x.1.1)], [], 1⟩) (fun x => cav.length - x.1.1) ⟨(0, l), by simp [refF]⟩ ?_ ?_
    · simp [go_sem]
    · rintro ⟨⟨i, L⟩, hi, hL⟩
      dsimp only at hi hL
      refine awp_sound radd_T_ok.toS lv18 _ _ _ rfl ?_
      simp -implicitDefEqProofs only [cd_t, cd_f, cd_dec, cd_not, cd_and, cd_or, grd_tt, grd_ff, grd_tf, grd_ft, grd_dt, grd_df, grd_nt, grd_nf, go_sem, reduceIte, reduceCtorEq, Nat.reduceEqDiff, Nat.reduceAdd, Nat.reduceLeDiff, Nat.reduceSub, Nat.reduceMul, Nat.reduceLT, Nat.reduceShiftRight, Nat.reduceMod, Int.reduceLE, Int.reduceLT, Int.reduceToNat, decide_true, Bool.and_self, Bool.true_and, Ob.map.injEq, Ob.it.injEq, List.cons.injEq, true_and, and_true]
      have hst : i < cav.length → refF l root n ((cav.take (i + 1)).foldl capF []) = if (cav.getD i default).kind = 4 ∧ nlk (cav.getD i default).b ((cav.take i).foldl capF []) = none then putC root (refF l root n ((cav.take i).foldl capF [])) ((cav.getD i default).b, (was l root (cav.getD i default).b : Int) + n) else refF l root n ((cav.take i).foldl capF []) := fun hi' => by
        rw [take_succ hi', List.foldl_append]
        exact ref_step
      have hsame : i < cav.length → (n = 0 ∨ ¬ ((cav.getD i default).kind = 4 ∧ nlk (cav.getD i default).b ((cav.take i).foldl capF []) = none)) → ∃ i_1 : { x : Nat × List Ct // x.1 ≤ cav.length ∧ x.2 = if n = 0 then l else refF l root n ((cav.take x.1).foldl capF []) }, cav.length - i_1.val.1 < cav.length - i ∧ cts L = cts i_1.val.2 ∧ IntKind.i64.wrap (↑i + 1) = ↑i_1.val.1 := fun hi' hn =>
        ⟨⟨(i + 1, L), by dsimp only; omega, by
          dsimp only
          rw [hL, hst hi']
          rcases hn with hn | hn
          · rw [if_pos hn, if_pos hn]
          · rw [if_neg hn]⟩, by dsimp only; omega, rfl, i64_in _ (by omega)⟩
      have hLu : Srt.Up Ct.key ltC L := by
        rw [hL]; split
        · exact hc.2.1
        · exact refF_up hc.2.1
      have hLl : L.length ≤ 128 + 16 := by
        rw [hL]
        split
        · omega
        · have h5 := fold_len (root := root) (sn := ((cav.take i).foldl capF []).map fun x => (x.1, (was l root x.1 : Int) + n)) (l := l)
          have h6 : ((cav.take i).foldl capF []).length ≤ 16 := by
            have : ∀ (l : List Cv) (m : List (Nat × Int)), (l.foldl capF m).length ≤ m.length + l.length := by
              intro l
              induction l with
              | nil => simp
              | cons c l ih =>
                intro m
                have h1 := ih (capF m c)
                have h2 : (capF m c).length ≤ m.length + 1 := by
                  unfold capF
                  split
                  · split
                    · split
                      · exact nset_len
                      · omega
                    · exact nset_len
                  · omega
                rw [List.foldl_cons, List.length_cons]; omega
            have := this (cav.take i) []
            rw [List.length_take] at this
            simp at this; omega
          rw [List.length_map] at h5
          unfold refF; omega
      rw [spentS_ok hq.2.1]
      dsimp only
      refine ⟨fun h => ⟨by omega, fun hk => ⟨fun hn => ⟨by omega, fun ha => ?_, fun ha => ?_⟩, fun hn => hsame (by omega) (.inl (by omega))⟩, fun hk => hsame (by omega) (.inr fun h => hk h.1)⟩, fun h hLen => ?_⟩
      · exact hsame (by omega) (.inr fun h => ahead_iff.1 ha h.2)
      · have hi' : i < cav.length := by omega
        have hsum := (sums_ref (l := l) (root := root) hq.1 hq.2.1 hq.2.2.1).1 hs _ (mem_getD.2 ⟨i, hi', rfl⟩) hk
        have hnone : nlk (cav.getD i default).b ((cav.take i).foldl capF []) = none := by
          refine Classical.byContradiction fun hx => ?_
          rw [ahead_iff.2 hx] at ha; cases ha
        rw [u64_in _ (by omega), Srt.put_filter totC (x := ⟨root, (cav.getD i default).b, ((was l root (cav.getD i default).b : Int) + n).toNat⟩) hLu]
        refine ⟨⟨by omega, by omega⟩, ⟨(i + 1, _), by dsimp only; omega, ?_⟩, by dsimp only; omega, rfl, i64_in _ (by omega)⟩
        dsimp only
        rw [if_neg (by omega), hst hi', if_pos ⟨hk, hnone⟩, hL, if_neg (by omega)]
        rfl
      · have hi' : i = cav.length := by omega
        subst hi'
        rw [List.take_length] at hL
        have hF : L = addF l root cav n := by
          rw [hL]
          split
          · rename_i hn; rw [addF, if_pos hn]
          · rename_i hn; exact refF_end hs hn
        rw [hF, addC_eq hs]
        refine ⟨fun h => ?_, fun h => ?_⟩
        · rw [if_neg (by omega)]; exact ⟨rfl, rfl⟩
        · rw [if_pos (by omega)]; exact ⟨rfl, rfl⟩
  · have : (sumsS l root cav n).2 = 8 := by
      rcases may_law (l := l) (root := root) (cav := cav) (n := n) with h | h | h
      · rw [h.2] at h2; cases h2
      · exact h.1
      · rw [h.2] at h1; cases h1
    rw [addC_no (by rw [this]; decide), this]; exact ⟨rfl, rfl⟩
  · have : (sumsS l root cav n).2 = 1 ∧ (mayS l root cav n).2 = 1 := by
      rcases may_law (l := l) (root := root) (cav := cav) (n := n) with h | h | h
      · rw [h.2] at h1; exact absurd rfl h1
      · rw [h.2] at h1; exact absurd rfl h1
      · exact ⟨h.1, by rw [h.2]⟩
    rw [addC_no (by rw [this.1]; decide), this.1, this.2]; exact ⟨rfl, rfl⟩
def sp_radd : List D → Option (Prop × D × Fr)
  | [.c (.sl z32), .c (.int .u64 z33), .c (.sl z34), .c (.int .u64 z35)] => some (z32 = cts (dcts z32) ∧ z33 = (z33.toNat : Int) ∧ z34 = cvs (dcvs z34) ∧ z35 = (z35.toNat : Int), radd_r (dcts z32) z33.toNat (dcvs z34) z35.toNat, [])
  | _ => none
attribute [go_sem] sp_radd
theorem sp_radd_ok : ∀ rs p r fr, sp_radd rs = some (p, r, fr) → p → FnOk Try.prog 18 rs r fr := by
  intro rs p r fr h hp
  unfold sp_radd at h
  split at h <;> cases h
  obtain ⟨hc0, hc1, hc2, hc3⟩ := hp
  rename_i z32 z33 z34 z35
  obtain ⟨z32, rfl⟩ : ∃ m, z32 = cts m := ⟨_, hc0⟩
  obtain ⟨z33, rfl⟩ : ∃ m : Nat, z33 = m := ⟨_, hc1⟩
  obtain ⟨z34, rfl⟩ : ∃ m, z34 = cvs m := ⟨_, hc2⟩
  obtain ⟨z35, rfl⟩ : ∃ m : Nat, z35 = m := ⟨_, hc3⟩
  simp only [Int.toNat_natCast, dcts_cts, dcvs_cvs]
  exact radd_ok z32 z33 z34 z35
@[go_sem] def SpendDoes_r (l : List Ct) (o : List Ct) (root : Nat) (b : Nat) (cav : List Cv) (n : Nat) : D := .bool true
@[go_sem] abbrev n_SpendDoes : FuncId := 7
@[go_sem] def SpendDoes_T : Tab := [(8, sp_live), (12, sp_few), (10, sp_Spent), (16, sp_rspent), (13, sp_May), (17, sp_rmay), (9, sp_Add), (3000000009, fun _ => none), (18, sp_radd), (19, sp_rsame), (11, sp_scheck), (20, sp_rcheck), (15, sp_Same)]
theorem SpendDoes_T_ok : TabOk Try.prog SpendDoes_T := (TabOk.cons sp_live_ok (TabOk.cons sp_few_ok (TabOk.cons sp_Spent_ok (TabOk.cons sp_rspent_ok (TabOk.cons sp_May_ok (TabOk.cons sp_rmay_ok (TabOk.cons sp_Add_ok (TabOk.cons (lend_ok 9) (TabOk.cons sp_radd_ok (TabOk.cons sp_rsame_ok (TabOk.cons sp_scheck_ok (TabOk.cons sp_rcheck_ok (TabOk.cons sp_Same_ok TabOk.nil)))))))))))))
set_option maxRecDepth 8000 in
set_option maxHeartbeats 1000000 in
theorem SpendDoes_ok (l : List Ct) (o : List Ct) (root : Nat) (b : Nat) (cav : List Cv) (n : Nat)  : PureFn Try.prog 7 [.sl (cts l), .sl (cts o), .c (.int .u64 (root : Int)), .c (.int .u64 (b : Int)), .sl (cvs cav), .c (.int .u64 (n : Int))] (SpendDoes_r l o root b cav n) := by
  refine .of (ac7 SpendDoes_T_ok (Nat.le_of_ble_eq_true rfl) ?_)
  simp -implicitDefEqProofs only [cd_t, cd_f, cd_dec, cd_not, cd_and, cd_or, grd_tt, grd_ff, grd_tf, grd_ft, grd_dt, grd_df, grd_nt, grd_nf, go_sem, Go.Proofs.Try.f7, reduceIte, reduceCtorEq, Nat.reduceEqDiff, Nat.reduceAdd, Nat.reduceLeDiff, Nat.reduceSub, Nat.reduceMul, Nat.reduceLT, Nat.reduceShiftRight, Nat.reduceMod, Int.reduceLE, Int.reduceLT, Int.reduceToNat, decide_true, Bool.and_self, Bool.true_and, Ob.map.injEq, Ob.it.injEq, List.cons.injEq, true_and, and_true]
  have hb : ∀ x : Bool, (x == x) = true := fun x => by cases x <;> rfl
  refine ⟨fun h1 => ⟨rfl, fun h2 => ⟨by omega, ?_⟩, fun _ => trivial⟩, fun _ => trivial⟩
  simp -implicitDefEqProofs only [hb, true_implies, reduceCtorEq, false_implies, and_true]
  intro h3
  generalize addC l root cav n = A at *
  refine SWp.loop (ι := { x : Nat × List Ct // x.1 ≤ A.1.length ∧ x.2.length = A.1.length }) (fun x => ⟨[(0, .sl (cts l)), (13, .vec 0 l.length), (22, .vec 1 A.1.length), (26, .bool true), (132, .int .i64 A.1.length), (133, .int .i64 x.1.1)],
    [(1, .vec true 3 48 (cts x.1.2)), (0, .vec true 3 48 (cts l))], 2⟩) (fun x => A.1.length - x.1.1) ⟨(0, A.1), by simp⟩ ?_ ?_
  · simp [go_sem]
  · rintro ⟨⟨j, X⟩, hj, hX⟩
    dsimp only at hj hX
    refine awp_sound SpendDoes_T_ok.toS lv7 _ _ _ rfl ?_
    simp -implicitDefEqProofs only [cd_t, cd_f, cd_dec, cd_not, cd_and, cd_or, grd_tt, grd_ff, grd_tf, grd_ft, grd_dt, grd_df, grd_nt, grd_nf, go_sem, reduceIte, reduceCtorEq, Nat.reduceEqDiff, Nat.reduceAdd, Nat.reduceLeDiff, Nat.reduceSub, Nat.reduceMul, Nat.reduceLT, Nat.reduceShiftRight, Nat.reduceMod, Int.reduceLE, Int.reduceLT, Int.reduceToNat, decide_true, Bool.and_self, Bool.true_and, Ob.map.injEq, Ob.it.injEq, List.cons.injEq, true_and, and_true]
    refine ⟨fun h => ?_, fun _ => trivial⟩
    refine ⟨h, ⟨hX.symm, by omega⟩, h, ⟨hX.symm, by omega⟩, ⟨(j + 1, X.set j ⟨(X.getD j default).root, (X.getD j default).b, (IntKind.u64.wrap (↑(X.getD j default).n + 1)).toNat⟩), by dsimp only; omega, by dsimp only; rw [List.length_set]; exact hX⟩, by dsimp only; omega, i64_in _ (by omega), rfl⟩
def sp_SpendDoes : List D → Option (Prop × D × Fr)
  | [.c (.sl z36), .c (.sl z37), .c (.int .u64 z38), .c (.int .u64 z39), .c (.sl z40), .c (.int .u64 z41)] => some (z36 = cts (dcts z36) ∧ z37 = cts (dcts z37) ∧ z38 = (z38.toNat : Int) ∧ z39 = (z39.toNat : Int) ∧ z40 = cvs (dcvs z40) ∧ z41 = (z41.toNat : Int), SpendDoes_r (dcts z36) (dcts z37) z38.toNat z39.toNat (dcvs z40) z41.toNat, [])
  | _ => none
attribute [go_sem] sp_SpendDoes
theorem sp_SpendDoes_ok : ∀ rs p r fr, sp_SpendDoes rs = some (p, r, fr) → p → FnOk Try.prog 7 rs r fr := by
  intro rs p r fr h hp
  unfold sp_SpendDoes at h
  split at h <;> cases h
  obtain ⟨hc0, hc1, hc2, hc3, hc4, hc5⟩ := hp
  rename_i z36 z37 z38 z39 z40 z41
  obtain ⟨z36, rfl⟩ : ∃ m, z36 = cts m := ⟨_, hc0⟩
  obtain ⟨z37, rfl⟩ : ∃ m, z37 = cts m := ⟨_, hc1⟩
  obtain ⟨z38, rfl⟩ : ∃ m : Nat, z38 = m := ⟨_, hc2⟩
  obtain ⟨z39, rfl⟩ : ∃ m : Nat, z39 = m := ⟨_, hc3⟩
  obtain ⟨z40, rfl⟩ : ∃ m, z40 = cvs m := ⟨_, hc4⟩
  obtain ⟨z41, rfl⟩ : ∃ m : Nat, z41 = m := ⟨_, hc5⟩
  simp only [Int.toNat_natCast, dcts_cts, dcvs_cvs]
  exact SpendDoes_ok z36 z37 z38 z39 z40 z41
end Dm

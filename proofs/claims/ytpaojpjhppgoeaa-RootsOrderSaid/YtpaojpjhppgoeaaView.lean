import Derived.Test.YtpaojpjhppgoeaaGive
import Derived.Lib.AppendZerosOnto
import Derived.Lib.Overlaps
set_option linter.unusedSimpArgs false
set_option linter.unusedVariables false
/-! Views: slices of one's own whose room is known. -/
namespace Dm
open Go
section
variable {δ : List Deferred} {P : Program} {g g' : G} {s s' : St} {a : Act} {w w' : World}

theorem fit_length (c sz : Nat) (els : List (List C)) : (fit c sz els).length = c := by
  simp only [fit, List.length_take, List.length_append, List.length_replicate]
  omega
theorem fit_get {c sz i : Nat} {els : List (List C)} : (fit c sz els)[i]? = if i < c then (if i < els.length then els[i]? else some (List.replicate sz .junk)) else none := by
  simp only [fit, List.getElem?_take]
  by_cases h : i < c
  · rw [if_pos h, if_pos h]
    by_cases h2 : i < els.length
    · rw [if_pos h2, List.getElem?_append_left h2]
    · rw [if_neg h2, List.getElem?_append_right (by omega), List.getElem?_replicate, if_pos (by omega)]
  · rw [if_neg h, if_neg h]
theorem fit_wide {c sz : Nat} {els : List (List C)} (h : Wide sz els) : Wide sz (fit c sz els) := fun x hx => by
  rcases List.mem_append.1 (List.mem_of_mem_take hx) with h1 | h1
  · exact h x h1
  · rw [(List.mem_replicate.1 h1).2, List.length_replicate]
theorem fit_eq {c sz : Nat} {els : List (List C)} (h : els.length = c) : fit c sz els = els := by
  rw [fit, h, Nat.sub_self, List.replicate_zero, List.append_nil, ← h, List.take_length]
theorem ok_fit {I : Nat → Prop} {cells : Array Value} {off c sz : Nat} {els : List (List C)} (hfit : off + c * sz ≤ cells.size) (h1 : ∀ v ∈ cells.toList, v.oneCell' = true)
    (h : ∀ (i j : Nat) (x : List C) (y : C), i < c → els[i]? = some x → x[j]? = some y → ∃ u, cells[off + i * sz + j]? = some u ∧ CRel I w u y) :
    ∃ vs : Nat → Nat → Value, ∀ (i j : Nat) (x : List C) (y : C), (fit c sz els)[i]? = some x → x[j]? = some y → cells[off + i * sz + j]? = some (vs i j) ∧ CRel I w (vs i j) y := by
  refine ⟨fun i j => cells.getD (off + i * sz + j) .nilFunc, fun i j x y hx hy => ?_⟩
  rw [fit_get] at hx
  have key : ∀ u, cells[off + i * sz + j]? = some u → CRel I w u y → cells[off + i * sz + j]? = some (cells.getD (off + i * sz + j) .nilFunc) ∧ CRel I w (cells.getD (off + i * sz + j) .nilFunc) y := fun u hu hr => by
    simp only [Array.getD_eq_getD_getElem?, hu, Option.getD_some]
    exact ⟨trivial, hr⟩
  split at hx
  · rename_i hi
    split at hx
    · obtain ⟨u, hu, hr⟩ := h i j x y hi hx hy
      exact key u hu hr
    · cases hx
      rw [List.getElem?_replicate] at hy
      split at hy
      · rename_i hj
        cases hy
        have : (i + 1) * sz ≤ c * sz := Nat.mul_le_mul_right _ hi
        rw [Nat.add_mul] at this
        have hlt : off + i * sz + j < cells.size := by omega
        have ho := h1 (cells[off + i * sz + j]) (by simp)
        refine key _ (Array.getElem?_eq_getElem hlt) (.junk _ ho ?_)
        revert ho
        generalize cells[off + i * sz + j] = v
        intro ho
        cases v <;> first | rfl | (simp [Value.oneCell'] at ho)
      · cases hy
  · cases hx

theorem setAt_get {els new : List (List C)} {lo p : Nat} (h : lo + new.length ≤ els.length) : (setAt els lo new)[p]? = if lo ≤ p ∧ p < lo + new.length then new[p - lo]? else els[p]? := by
  have h1 : (els.take lo).length = lo := by rw [List.length_take]; omega
  rw [setAt, List.append_assoc]
  rcases Nat.lt_or_ge p lo with h2 | h2
  · rw [List.getElem?_append_left (by omega), List.getElem?_take_of_lt h2, if_neg (by omega)]
  · rw [List.getElem?_append_right (by omega), h1]
    rcases Nat.lt_or_ge p (lo + new.length) with h3 | h3
    · rw [List.getElem?_append_left (by omega), if_pos ⟨h2, h3⟩]
    · rw [List.getElem?_append_right (by omega), List.getElem?_drop, if_neg (by omega)]
      congr 1
      omega

/-- The elements of an object of one's own whose block was written at some elements. -/
theorem put_sound (hr : Rel δ g s a w) {id c z lo : Nat} {hd : Bool} {e : TypeId} {els new : List (List C)} {xs : List Value} (ho : lk id s.os = some (.vec hd z e els)) (hc : c = els.length) {b off : Nat} {cells : Array Value} {vs : Nat → Nat → Value}
    (hk : g.κ id = some (some ⟨b, off, none⟩, c, c)) (hm : c ≤ maxLen) (hb : w.heap[b]? = some (.cells cells e (0, 0))) (hfit : off + c * z ≤ cells.size) (hcl : (hd = true → off = 0 ∧ cells.size = c * z) ∧ ∀ v ∈ cells.toList, v.oneCell' = true)
    (hrd : ∀ (i j : Nat) (x : List C) (y : C), els[i]? = some x → x[j]? = some y → cells[off + i * z + j]? = some (vs i j) ∧ CRel g.I w (vs i j) y) (hw : Wide z els) (hwn : Wide z new) (hf : Flat g.I w z new xs) (hz : z ≠ 0) (hle : lo + new.length ≤ c) :
    (storeCells ⟨b, off + lo * z, none⟩ xs).run P w = .ok () (w.setRow b (cells.toList.take (off + lo * z) ++ xs ++ cells.toList.drop (off + lo * z + xs.length)).toArray) ∧
    RelO g ⟨s.tm, upd id (.vec hd z e (fit c z (setAt els lo new))) s.os, s.nx⟩ (w.setRow b (cells.toList.take (off + lo * z) ++ xs ++ cells.toList.drop (off + lo * z + xs.length)).toArray) ∧
    Step g s w g ⟨s.tm, upd id (.vec hd z e (fit c z (setAt els lo new))) s.os, s.nx⟩ (w.setRow b (cells.toList.take (off + lo * z) ++ xs ++ cells.toList.drop (off + lo * z + xs.length)).toArray) := by
  have h1 : xs.length = new.length * z := hf.1
  have h2 : (lo + new.length) * z ≤ c * z := Nat.mul_le_mul_right _ hle
  rw [Nat.add_mul] at h2
  have hone := hf.one hwn hz
  have hrun := run_storeCells_at P b (off + lo * z) e xs 0 cells w hb (by omega) hone
  rw [Nat.add_zero] at hrun
  have hblk : g.blk id (.vec hd z e els) = some b := by simp [G.blk, hk]
  have hsl := fun k => seg_get (vs := cells) (us := xs.toArray) (off := off + lo * z) (i := k) (by simp only [List.size_toArray]; omega)
  simp only [List.size_toArray] at hsl
  have hsz2 : (cells.toList.take (off + lo * z) ++ xs ++ cells.toList.drop (off + lo * z + xs.length)).toArray.size = cells.size := by
    have e1 : cells.toList.length = cells.size := Array.length_toList
    simp only [List.size_toArray, List.length_append, List.length_take, List.length_drop]
    omega
  have hkp : Keeps g.I w (w.setRow b (cells.toList.take (off + lo * z) ++ xs ++ cells.toList.drop (off + lo * z + xs.length)).toArray) := fun k hk => setRow_other w b k _ (fun e => (hr.o.imm k hk).2 ⟨id, _, ho, by rw [e]; exact hblk⟩)
  have hone2 : ∀ v ∈ (cells.toList.take (off + lo * z) ++ xs ++ cells.toList.drop (off + lo * z + xs.length)).toArray.toList, v.oneCell' = true := fun v hv => by
    simp only [List.append_assoc, List.mem_append] at hv
    rcases hv with hv | hv
    · exact hcl.2 v (List.mem_of_mem_take hv)
    · rcases hv with hv | hv
      · exact hone v hv
      · exact hcl.2 v (List.mem_of_mem_drop hv)
  obtain ⟨h12, h13⟩ := hr.o.replace ho (.vec hd z e (fit c z (setAt els lo new))) s.tm (.refl g) (fun b hb => hb) (fun _ _ => rfl) (fun _ _ => rfl) (w' := w.setRow b (cells.toList.take (off + lo * z) ++ xs ++ cells.toList.drop (off + lo * z + xs.length)).toArray) (by simp)
    (fun k _ hne => setRow_other w b k _ (fun e => hne (by rw [e]; exact hblk)))
    (by
      obtain ⟨vs2, h3⟩ := ok_fit (I := g.I) (w := w.setRow b (cells.toList.take (off + lo * z) ++ xs ++ cells.toList.drop (off + lo * z + xs.length)).toArray) (cells := (cells.toList.take (off + lo * z) ++ xs ++ cells.toList.drop (off + lo * z + xs.length)).toArray) (off := off) (c := c) (sz := z) (els := setAt els lo new) (by rw [hsz2]; exact hfit) hone2 (fun i j x y hi hx hy => by
        rw [setAt_get (by omega)] at hx
        have hj : j < z := by
          have hwx : x.length = z := by
            split at hx
            · exact hwn x (List.mem_of_getElem? hx)
            · exact hw x (List.mem_of_getElem? hx)
          rcases Nat.lt_or_ge j x.length with h | h
          · omega
          · rw [List.getElem?_eq_none h] at hy; cases hy
        rw [List.getElem?_toArray, hsl]
        split at hx
        · rename_i hp
          obtain ⟨u, h4, h5⟩ := hf.2 (i - lo) j x y hx hy
          have e1 : i * z = lo * z + (i - lo) * z := by rw [← Nat.add_mul]; congr 1; omega
          have e2 : (i - lo + 1) * z ≤ new.length * z := Nat.mul_le_mul_right _ (by omega)
          rw [Nat.add_mul] at e2
          rw [if_pos (by omega), show off + i * z + j - (off + lo * z) = (i - lo) * z + j by omega]
          exact ⟨u, by simpa using h4, h5.mono hkp fun b hb => hb⟩
        · rename_i hp
          rw [if_neg (by
            rcases Nat.lt_or_ge i lo with h6 | h6
            · have : (i + 1) * z ≤ lo * z := Nat.mul_le_mul_right _ h6
              rw [Nat.add_mul] at this
              omega
            · have : (lo + new.length) * z ≤ i * z := Nat.mul_le_mul_right _ (by omega)
              rw [Nat.add_mul] at this
              omega)]
          exact ⟨_, (hrd i j x y hx hy).1, (hrd i j x y hx hy).2.mono hkp fun b hb => hb⟩)
      refine ⟨_, c, by rw [fit_length]; exact hk, by rw [fit_length]; exact Nat.le_refl _, hm, fit_wide (fun x hx => ?_), .inr ⟨b, off, _, vs2, rfl, setRow_heap w b cells _ e _ hb, by rw [hsz2]; exact hfit, ⟨by rw [hsz2]; exact hcl.1, hone2⟩, h3⟩⟩
      obtain ⟨p, hp, rfl⟩ := List.getElem_of_mem hx
      have hpp := List.getElem?_eq_getElem hp
      rw [setAt_get (by omega)] at hpp
      split at hpp
      · exact hwn _ (List.mem_of_getElem? hpp)
      · exact hw _ (List.mem_of_getElem? hpp))
    (fun k hk' => .inl (by simpa [G.blk, hk] using hk'))
  exact ⟨hrun, h12, h13⟩
theorem Flat.take {I : Nat → Prop} {z k : Nat} {els : List (List C)} {xs : List Value} (h : Flat I w z els xs) (hw : Wide z els) : Flat I w z (els.take k) (xs.take (k * z)) := by
  refine ⟨?_, fun i j x y hx hy => ?_⟩
  · rw [List.length_take, List.length_take, h.1]
    rcases Nat.le_total k els.length with h1 | h1
    · have := Nat.mul_le_mul_right z h1
      rw [Nat.min_eq_left h1]
      omega
    · have := Nat.mul_le_mul_right z h1
      rw [Nat.min_eq_right h1]
      omega
  · rw [List.getElem?_take] at hx
    split at hx
    · rename_i hi
      obtain ⟨u, h1, h2⟩ := h.2 i j x y hx hy
      obtain ⟨_, h3, _⟩ := idx_lt hw hx hy
      have : (i + 1) * z ≤ k * z := Nat.mul_le_mul_right _ hi
      rw [Nat.add_mul] at this
      exact ⟨u, by rw [List.getElem?_take_of_lt (by omega)]; exact h1, h2⟩
    · cases hx
theorem cpy_sound (hr : Rel δ g s a w) {t u ty : TypeId} {x y d : D} {v v' : Value} (hv : VRel g w v x) (hu : VRel g w v' y) {C0 : Prop} (h : cpyD P s t x y = some (C0, d, s')) (hc : C0) :
    ∃ r w' g', (Builtin.copy_ #[t, u] ty #[v, v']).run P w = .ok r w' ∧ VRel g' w' r d ∧ Rel δ g' s' a w' ∧ Step g s w g' s' w' ∧ s'.tm = s.tm := by
  unfold cpyD lay at h
  split at h <;> try cases h
  rename_i id c sz lo hi
  split at h <;> try cases h
  rename_i e0 z y0 hd sz' e els new hel hlk hnew
  obtain ⟨hc1, rfl, rfl, hz, hw⟩ := hc
  obtain ⟨hul, i, hinf, his, hib⟩ := elOf_spec hel
  simp only at hul hinf his
  obtain ⟨a0, a', rfl, hl, hh, hm, hw0, hk, hcase⟩ := view_spec hr hv hlk hc1 rfl
  obtain ⟨ad, cap, xs, rfl, hf, hsrc⟩ := src_spec hr hu hnew hw hz
  have hmin : Nat.min new.length (hi - lo) = (new.take (hi - lo)).length := by rw [List.length_take]; simp only [Nat.min_def]; split <;> split <;> omega
  have hft := hf.take (k := hi - lo) hw
  have hload : ∀ W : World, W = w → (Builtin.firstCells sz' (Nat.min new.length (hi - lo)) (.slice ad new.length cap)).run P W = .ok (xs.take ((hi - lo) * sz')).toArray W := by
    intro W hW
    subst hW
    by_cases h0 : new = []
    · subst h0
      have hx : xs = [] := List.eq_nil_of_length_eq_zero (by rw [hf.1]; simp)
      subst hx
      cases ad <;> simp [Builtin.firstCells, loadCells, loadCellsFrom, Nat.min_def]
    · rcases hsrc with h1 | ⟨b, o, rfl, h2⟩
      · exact absurd h1 h0
      · have := run_loadCells_list (P := P) W ⟨b, o, none⟩ (xs.take ((hi - lo) * sz')) (fun j u hj => by
          rw [List.getElem?_take] at hj
          split at hj
          · exact h2 j u hj
          · cases hj)
        rw [hft.1, ← hmin] at this
        exact this
  rcases hcase with ⟨rfl, h0, rfl⟩ | ⟨b, off, cells, vs, rfl, hb, hfit, hcl, hrd, had, o', had'⟩
  · have e1 : hi - lo = 0 := by omega
    have e2 : Nat.min new.length (hi - lo) = 0 := by rw [e1]; simp [Nat.min_def]
    have e0 : els = [] := List.eq_nil_of_length_eq_zero (by omega)
    have hnil : fit c sz' (setAt els lo (new.take (hi - lo))) = els := by rw [e1, e0, h0]; simp [fit]
    rw [hnil]
    have hupd : ∀ os : List (Nat × Ob), lk id os = some (.vec hd sz' e els) → upd id (.vec hd sz' e els) os = os := by
      intro os
      induction os with
      | nil => intro _; rfl
      | cons p l ih =>
        obtain ⟨m, o⟩ := p
        intro hq
        simp only [lk_cons] at hq
        simp only [upd]
        split at hq
        · rename_i he
          cases hq
          rw [if_pos he]
        · rename_i he
          rw [if_neg he, ih hq]
    rw [hupd _ hlk]
    have hrun : (Builtin.copy_ #[t, u] ty #[.slice none (hi - lo) (c - lo), .slice ad new.length cap]).run P w = .ok (goInt 0) w := by
      have := hload w rfl
      rw [e2] at this
      simp [Builtin.copy_, Go.run_underlying hul, Builtin.lenOf, Go.sizeOf, typeInfo, hinf, his, this, e2]
    refine ⟨_, w, g, hrun, ?_, hr, .refl _ _ _, rfl⟩
    rw [e1, Nat.min_zero]
    exact .c _ _ (.int _ _)
  · have hle : lo + (new.take (hi - lo)).length ≤ c := by rw [List.length_take]; omega
    obtain ⟨h1, h2, h3⟩ := put_sound (P := P) hr hlk hc1 hk hm hb hfit hcl hrd hw0 (fun x hx => hw x (List.mem_of_mem_take hx)) hft hz hle
    generalize hW : w.setRow b (cells.toList.take (off + lo * sz') ++ xs.take ((hi - lo) * sz') ++ cells.toList.drop (off + lo * sz' + (xs.take ((hi - lo) * sz')).length)).toArray = W at h1 h2 h3
    refine ⟨goInt ((min new.length (hi - lo) : Nat) : Int), _, g, ?_, .c _ _ (.int _ _), hr.of h2 h3.tm rfl, h3, rfl⟩
    have hld := hload w rfl
    rcases Nat.lt_or_ge lo c with hlc | hlc
    · rw [had (.inl hlc)]
      simp [Builtin.copy_, Go.run_underlying hul, Builtin.lenOf, Go.sizeOf, typeInfo, hinf, his, hld, h1]
    · have e1 : hi - lo = 0 := by omega
      rw [e1, Nat.zero_mul, List.take_zero] at h1 hld
      rw [show Nat.min new.length 0 = 0 by simp [Nat.min_def]] at hld
      rw [e1]
      have hst : ∀ W : World, (storeCells ⟨b, o', none⟩ [] 0).run P W = .ok () W := fun _ => rfl
      have hw1 : ∀ W : World, (storeCells ⟨b, off + lo * sz', none⟩ [] 0).run P W = .ok () W := fun _ => rfl
      rw [hw1] at h1
      injection h1 with _ h1
      rw [had', ← h1]
      simp [Builtin.copy_, Go.run_underlying hul, Builtin.lenOf, Go.sizeOf, typeInfo, hinf, his, hld, hst, Nat.min_def]

/-- A part of a view. -/
theorem view_cut (hr : Rel δ g s a w) {v : Value} {id c sz lo hi sz' : Nat} {hd : Bool} {e : TypeId} {els : List (List C)} (hv : VRel g w v (.view id c sz lo hi)) (ho : lk id s.os = some (.vec hd sz' e els)) (hc : c = els.length) (hsz : sz = sz') :
    ∃ a' : Option Addr, v = .slice a' (hi - lo) (c - lo) ∧ lo ≤ hi ∧ hi ≤ c ∧ ∀ l h : Nat, l ≤ h → lo + h ≤ c → VRel g w (sliced a' l h (c - lo) sz') (.view id c sz (lo + l) (lo + h)) := by
  obtain ⟨a0, a', rfl, hl, hh, hm, hw0, hk, hcase⟩ := view_spec hr hv ho hc hsz
  subst hsz
  refine ⟨a', rfl, hl, hh, fun l h h1 h2 => ?_⟩
  have e1 : h - l = lo + h - (lo + l) := by omega
  rw [sliced, e1]
  refine .view _ _ _ _ _ _ _ a0 c c hk (Nat.le_refl _) (by omega) h2 hm fun _ => ⟨rfl, by omega, fun h0 => ?_, fun b o hb => ?_⟩
  · rcases hcase with ⟨_, _, rfl⟩ | ⟨b, off, _, _, rfl, _⟩
    · split <;> rfl
    · cases h0
  · rcases hcase with ⟨rfl, _, _⟩ | ⟨b', off, cells, vs, rfl, h3, h4, h5, h6, h7, o', h8⟩
    · cases hb
    · cases hb
      refine ⟨fun h9 => ?_, ?_⟩
      · rw [h7 (by omega)]
        split
        · rw [show l = 0 by omega, Nat.add_zero]
        · rw [Option.map_some, addr_add, Nat.add_mul, Nat.add_assoc]
      · rw [h8]
        split
        · exact ⟨o', rfl⟩
        · exact ⟨o' + l * sz, by rw [Option.map_some, addr_add]⟩
theorem cap_sound (hr : Rel δ g s a w) (t ty : TypeId) (ht : (elOf P t).isSome = true) {x d : D} {v : Value} (hv : VRel g w v x) {C0 : Prop} (h : capD s x = some (C0, d)) (hc : C0) :
    ∃ r, (Builtin.cap_ #[t] ty #[v]).run P w = .ok r w ∧ VRel g w r d := by
  obtain ⟨x0, hx0⟩ := Option.isSome_iff_exists.1 ht
  obtain ⟨hu, _⟩ := elOf_spec hx0
  unfold capD at h
  split at h <;> try cases h
  split at h <;> cases h
  rename_i ho
  cases hv with
  | view a' cap' _ _ _ lo hi a0 len cap hk hle hl hh hm hvv =>
    obtain ⟨a1, cap1, h1, h2, h3, h4, h5⟩ := hr.o.ok _ _ ho
    rw [hk] at h1; cases h1
    obtain ⟨_, rfl, _⟩ := hvv hc
    exact ⟨_, by simp [Builtin.cap_, Go.underlying, hu, goInt], .c _ _ (.int _ _)⟩
/-- 'append' of a make to a view that has no room. -/
theorem apm_sound (hr : Rel δ g s a w) {t u ty : TypeId} {x y : D} {v v' : Value} (hv : VRel g w v x) (hu : VRel g w v' y) (dst : Option Tmp) (hd : ∀ x, dst = some x → x < a.tmps.size) {C0 : Prop} {n z : Nat} {e : TypeId} {els : List (List C)}
    (h : appM P s t u x y = some (C0, n, z, e, els)) (hc : C0) :
    ∃ r w' g' c, (Builtin.append_ #[t, u] ty #[v, v']).run P w = .ok r w' ∧ n ≤ c ∧ c ≤ 9223372036854775807 ∧ Rel δ g' (s.vw dst z e c n els) (a.put dst r) w' ∧ Step g s w g' (s.vw dst z e c n els) w' := by
  unfold appM at h
  split at h <;> try cases h
  rename_i id c sz lo hi
  split at h <;> try cases h
  rename_i kk k e0 z0 bytes kd hd0 sz' e' els0 hel hin hlk
  split at h <;> cases h
  rename_i zc hzc
  obtain ⟨hc1, rfl, rfl, hz1, hz2, hz3, hk0, hk1, hb⟩ := hc
  obtain ⟨hul, i, hinf, his, hib⟩ := elOf_spec hel
  obtain ⟨i', zv, hi', hzv, hzs, hzr⟩ := zcOf_spec hzc
  simp only at hul hinf his hib
  rw [hinf] at hi'; cases hi'
  obtain rfl := hu.int_inv
  obtain ⟨a0, a', rfl, hl, hh, hm, hw0, hk, hcase⟩ := view_spec hr hv hlk hc1 rfl
  obtain ⟨k, rfl⟩ := Int.eq_ofNat_of_zero_le hk0
  rw [Int.toNat_natCast]
  have hin' : ∃ kn, P.underlying u = some (.int kn) := by
    unfold inOf at hin
    split at hin
    · exact ⟨_, by assumption⟩
    · cases hin
  obtain ⟨kn, hun⟩ := hin'
  have hbn : (hi - lo + k) * bytes ≤ 140737488355328 := by
    have : (((hi - lo + k) * bytes : Nat) : Int) = (((hi - lo : Nat) : Int) + (k : Int)) * (bytes : Int) := by rw [Int.natCast_mul, Int.natCast_add]
    omega
  have hb1 : (hi - lo + k) * 1 ≤ (hi - lo + k) * bytes := Nat.mul_le_mul_left _ (by omega)
  have hsub : s.els (.view id c sz' lo hi) = some ((els0.take hi).drop lo) := by simp [St.els, hlk, hc1]
  have hwo : Wide sz' ((els0.take hi).drop lo) := fun x hx => hw0 x (List.mem_of_mem_take (List.mem_of_mem_drop hx))
  obtain ⟨ad, cap, xs, hq, hf, hsrc⟩ := src_spec hr hv hsub hwo hz2
  have hlen : ((els0.take hi).drop lo).length = hi - lo := by simp only [List.length_drop, List.length_take]; omega
  injection hq with q1 q2 q3
  subst q1
  have hold : (Builtin.firstCells i.size (hi - lo) (.slice a' (hi - lo) (c - lo))).run P w.drew = .ok xs.toArray w.drew := by
    rcases hsrc with h0 | ⟨b, o, rfl, h2⟩
    · have e1 : hi - lo = 0 := by rw [← hlen, h0]; rfl
      have hx : xs = [] := List.eq_nil_of_length_eq_zero (by rw [hf.1, h0]; simp)
      subst hx
      rw [e1]
      cases a' <;> simp [Builtin.firstCells, loadCells, loadCellsFrom]
    · have := run_loadCells_list (P := P) w.drew ⟨b, o, none⟩ xs (fun j u hj => h2 j u hj)
      rw [hf.1, hlen, ← his] at this
      exact this
  have hkb : k * i.bytes ≤ (hi - lo + k) * bytes := by rw [hib]; exact Nat.mul_le_mul_right _ (by omega)
  have hrun := Lib.run_append_grow_zeros (P := P) w t u ty e i zv kk kn hul hun hinf hzv a' (hi - lo) (c - lo) xs hold k (by omega) (by omega) (by omega) (by omega) (by omega) (growslice_fits (by omega) (by rw [hib]; exact hbn))
  have hzf := zero_flat (g := g) (w := w) hzs (hzr g w) (by omega) k
  rw [hz1] at hzf
  have hzo := zc_one hzs hzr
  have hwn : Wide sz' ((els0.take hi).drop lo ++ List.replicate k zc) := fun x hx => by
    rcases List.mem_append.1 hx with h | h
    · exact hwo x h
    · rw [(List.mem_replicate.1 h).2]; exact hz1
  have hff := hf.append hzf
  have hge := grownCap_ge w (hi - lo + k) (c - lo) e
  have hmx := grownCap_le_maxLen w (hi - lo + k) (c - lo) e (by simp only [maxLen]; omega)
  generalize hG : grownCap w (hi - lo + k) (c - lo) e = GC at *
  have hzc2 : Builtin.zeroCells zv.cells k = (Array.range (k * sz')).map (zv.cells[· % zv.cells.size]!) := by rw [Builtin.zeroCells, hzs, hz1]
  have hsz2 : (xs.toArray ++ Builtin.zeroCells zv.cells k ++ Builtin.zeroCells zv.cells (GC - (hi - lo + k))).size = GC * sz' := by
    simp only [Array.size_append, List.size_toArray, size_zero, hzs, hz1, hf.1, hlen, ← Nat.add_mul]
    congr 1
    omega
  have hone : ∀ v ∈ (xs.toArray ++ Builtin.zeroCells zv.cells k ++ Builtin.zeroCells zv.cells (GC - (hi - lo + k))).toList, v.oneCell' = true := fun v hv => by
    simp only [Array.toList_append, List.append_assoc, List.mem_append] at hv
    rcases hv with hv | hv
    · exact hf.one hwo hz2 v hv
    · rcases hv with hv | hv
      · exact zeroCells_one hzo _ v hv
      · exact zeroCells_one hzo _ v hv
  obtain ⟨vs, hvs⟩ := ok_fit (I := g.I) (w := w) (cells := xs.toArray ++ Builtin.zeroCells zv.cells k ++ Builtin.zeroCells zv.cells (GC - (hi - lo + k))) (off := 0) (c := GC) (sz := sz') (els := (els0.take hi).drop lo ++ List.replicate k zc) (by omega) hone (fun p j x y hp hx hy => by
    obtain ⟨u, h1, h2⟩ := hff.2 p j x y hx hy
    refine ⟨u, ?_, h2⟩
    rw [Nat.zero_add, hzc2]
    rw [← Array.getElem?_toList, Array.toList_append, Array.toList_append, List.getElem?_append_left]
    · exact h1
    · have := (List.getElem?_eq_some_iff.1 h1).1
      simpa using this)
  have hfl := fit_length GC sz' ((els0.take hi).drop lo ++ List.replicate k zc)
  obtain ⟨h6, h7⟩ := vec_sound' hr (w.drew.alloc (.cells (xs.toArray ++ Builtin.zeroCells zv.cells k ++ Builtin.zeroCells zv.cells (GC - (hi - lo + k))) e)) (by rw [size_alloc, size_drew]; omega) (fun b hb => drew_old _ _ _ hb) (sz := sz') (e := e) (els := fit GC sz' ((els0.take hi).drop lo ++ List.replicate k zc)) (a0 := some ⟨w.heap.size, 0, none⟩) (cap := GC)
    (by omega) hmx (fit_wide hwn) (.inr ⟨w.heap.size, _, vs, rfl, Nat.le_refl _, heap_alloc_new w.drew _, ⟨hsz2, hone⟩, fun p j x y hx hy => by
      have := hvs p j x y hx hy
      rw [Nat.zero_add] at this
      exact this⟩) none (fun x hx => by cases hx)
  rw [hfl] at h6 h7
  have h8 := h6.put dst (v := .slice (some ⟨w.heap.size, 0, none⟩) (hi - lo + k) GC) (d := .view s.nx GC sz' 0 (hi - lo + k)) (by
    have := VRel.view (g := g.vec s.nx (some ⟨w.heap.size, 0, none⟩, GC, GC)) (w := w.drew.alloc (.cells (xs.toArray ++ Builtin.zeroCells zv.cells k ++ Builtin.zeroCells zv.cells (GC - (hi - lo + k))) e)) (some ⟨w.heap.size, 0, none⟩) GC s.nx GC sz' 0 (hi - lo + k) (some ⟨w.heap.size, 0, none⟩) GC GC (by simp [G.vec]) (Nat.le_refl _) (Nat.zero_le _) hge hmx (fun _ => ⟨rfl, rfl, fun h => (by cases h), fun b o hb => by cases hb; exact ⟨fun _ => by rw [Nat.zero_mul], _, rfl⟩⟩)
    exact this) hd
  refine ⟨_, _, g.vec s.nx (some ⟨w.heap.size, 0, none⟩, GC, GC), GC, hrun, hge, hmx, ?_, ?_⟩
  · cases dst <;> exact h8
  · cases dst <;> exact h7.tm
theorem ov_zero (w : World) (tS tR e : TypeId) (ht : P.underlying tS = some (.slice e)) (size : Nat) (hz : ∀ w, (Go.sizeOf e).run P w = .ok size w) (a b : Option Addr) (la ca lb cb : Nat) (h0 : la = 0 ∨ lb = 0) :
    (Extern.SlicesOverlaps.overlaps #[tS, tS] #[tR] #[.slice a la ca, .slice b lb cb]).run P w = .ok (.bool false) w := by
  have h1 : la = 0 ∨ lb = 0 ∨ size = 0 := by omega
  show Sem.run P (bind (underlying tS) _) w = _
  rw [Sem.run_bind, run_underlying ht]
  show Sem.run P (bind (Go.sizeOf e) _) w = _
  rw [Sem.run_bind, hz]
  cases a <;> cases b <;> simp [h1]
/-- Two of one's own have nothing in common. -/
theorem ovo_spec (hr : Rel δ g s a w) {x : D} {v : Value} (hv : VRel g w v x) {i : Nat} (h : ovO s.os x = some i) : ∃ a' n cap, v = .slice a' n cap ∧ (n = 0 ∨ ∃ (b : Nat) (o : Ob) (e : TypeId) (cells : Array Value) (o' : Nat), a' = some ⟨b, o', none⟩ ∧ lk i s.os = some o ∧ g.blk i o = some b ∧ w.heap[b]? = some (.cells cells e (0, 0)) ∧ cells.size ≠ 0) := by
  unfold ovO at h
  split at h
  · rename_i id n
    split at h
    · rename_i hd sz e els ho
      split at h
      · rename_i hc
        cases h
        obtain ⟨rfl, hz⟩ := hc
        cases hv with
        | vec a' cap' _ _ a0 len cap hk hle hm ha hvv =>
          refine ⟨a', _, cap', rfl, ?_⟩
          rcases Nat.eq_zero_or_pos els.length with h0 | h0
          · exact .inl h0
          · obtain ⟨a1, cap1, h1, h2, h3, h4, h5⟩ := hr.o.ok _ _ ho
            rw [hk] at h1; cases h1
            obtain ⟨rfl, rfl⟩ := hvv rfl
            rcases h5 with ⟨rfl, h5⟩ | ⟨b, off, cells, vs, rfl, h8, h9, h10, h11⟩
            · omega
            · have : 1 * 1 ≤ cap' * sz := Nat.mul_le_mul (by omega) (by omega)
              exact .inr ⟨b, _, e, cells, off, rfl, ho, by simp [G.blk, hk], h8, by omega⟩
      · cases h
    · cases h
  · rename_i id c sz' lo hi
    split at h
    · rename_i hd sz e els ho
      split at h
      · rename_i hc
        cases h
        obtain ⟨hc, hsz, hz⟩ := hc
        obtain ⟨a0, a', rfl, hl, hh, hm, hw0, hk, hcase⟩ := view_spec hr hv ho hc hsz
        refine ⟨a', _, _, rfl, ?_⟩
        rcases hcase with ⟨_, h0, _⟩ | ⟨b, off, cells, vs, rfl, h8, h9, h10, h11, h12, o', h13⟩
        · exact .inl (by omega)
        · rcases Nat.eq_zero_or_pos c with h0 | h0
          · exact .inl (by omega)
          · have : 1 * 1 ≤ c * sz := Nat.mul_le_mul h0 (by omega)
            exact .inr ⟨b, _, e, cells, o', h13, ho, by simp [G.blk, hk], h8, by omega⟩
      · cases h
    · cases h
  · cases h
theorem ov_sound (hr : Rel δ g s a w) {f : FuncId} {ds : List D} {vs : Array Value} (h : ovC P f s.os ds) (hsz : vs.size = ds.length) (hv : ∀ (i : Nat) (v : Value) (d : D), vs[i]? = some v → ds[i]? = some d → VRel g w v d) :
    (callFunc f vs).run P w = .ok (.value (.bool false)) w := by
  unfold ovC at h
  split at h
  · rename_i x y
    split at h
    · rename_i i j hi hj
      obtain ⟨hne, fn, t, r, e, h1, h2, h3, h4, h5, h6⟩ := h
      simp only [List.length_cons, List.length_nil] at hsz
      obtain ⟨v1, v2, rfl⟩ : ∃ v1 v2, vs = #[v1, v2] := by
        obtain ⟨l⟩ := vs
        match l, hsz with
        | [v1, v2], _ => exact ⟨v1, v2, rfl⟩
      obtain ⟨a1, n1, c1, rfl, hq1⟩ := ovo_spec hr (hv 0 v1 x rfl rfl) hi
      obtain ⟨a2, n2, c2, rfl, hq2⟩ := ovo_spec hr (hv 1 v2 y rfl rfl) hj
      obtain ⟨hu, _⟩ := elOf_spec h6
      have hs := elOf_size h6
      rw [run_callFunc_extern h1 h2 h3 (by simpa using h4) h5]
      have hrun : (Extern.SlicesOverlaps.overlaps #[t, t] #[r] #[.slice a1 n1 c1, .slice a2 n2 c2]).run P w = .ok (.bool false) w := by
        rcases hq1 with h0 | ⟨b1, o1, e1, cl1, k1, rfl, hl1, hb1, hh1, hc1⟩
        · exact ov_zero w t r e.1 hu e.2.1 (fun w => elOf_size h6 w) _ _ _ _ _ _ (.inl h0)
        · rcases hq2 with h0 | ⟨b2, o2, e2, cl2, k2, rfl, hl2, hb2, hh2, hc2⟩
          · exact ov_zero w t r e.1 hu e.2.1 (fun w => elOf_size h6 w) _ _ _ _ _ _ (.inr h0)
          · refine Lib.run_overlaps_apart w t r e.1 hu e.2.1 (fun w => elOf_size h6 w) _ _ n1 c1 n2 c2 ?_ e1 e2 cl1.size cl2.size ?_ ?_ hc2 ?_ ?_
            · intro hbb
              simp only at hbb
              subst hbb
              exact hne (hr.o.apart _ _ _ _ _ hl1 hl2 hb1 hb2)
            · simp [World.shape?, hh1]
            · simp [World.shape?, hh2]
            · simp [World.frozen?, hh1]
            · simp [World.frozen?, hh1]
      rw [hrun]
      rfl
    · cases h
  · cases h
end
end Dm

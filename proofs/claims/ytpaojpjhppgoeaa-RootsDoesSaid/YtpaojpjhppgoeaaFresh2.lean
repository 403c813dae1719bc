import Derived.Test.YtpaojpjhppgoeaaFresh
set_option linter.unusedSimpArgs false
set_option linter.unusedVariables false
/-! Contracts that hand back new slices, out of the function's code; tables of contracts. -/
namespace Dm
open Go

/-- What is handed back: of the slices named in 'ids' the caller becomes the owner. -/
def fre1 (ids : List (Option Nat)) (os : List (Nat × Ob)) : D → D → Prop
  | .vec id n, .vec j m => ids[j]? = some (some id) ∧ n = m
  | .nil, .vec j m => ids[j]? = some none ∧ m = 0
  | .vec id n, r => ids.contains (some id) = false ∧ pur1 os (.vec id n) r
  | .ref id n, r => ids.contains (some id) = false ∧ pur1 os (.ref id n) r
  | d, r => pur1 os d r
def fre2 (ids : List (Option Nat)) (os : List (Nat × Ob)) : D → D → Prop
  | .agg l, .agg l' => pw (fre1 ids os) l l'
  | d, r => fre1 ids os d r
def fre3 (ids : List (Option Nat)) (os : List (Nat × Ob)) : D → D → Prop
  | .tup l, .tup l' => pw (fre2 ids os) l l'
  | d, r => fre2 ids os d r
def freO (os : List (Nat × Ob)) : List (Option Nat) → Fr → Prop
  | [], [] => True
  | some i :: l, (z, e, b, els) :: l' => lk i os = some (.vec b z e els) ∧ l.contains (some i) = false ∧ freO os l l'
  | none :: l, (_, _, _, els) :: l' => els = [] ∧ freO os l l'
  | _, _ => False

/-- Behind a function that hands back new slices. -/
def FR (r : D) (fr : Fr) : D → List (Nat × Ob) → Nat → Prop := fun d os _ => ∃ ids, freO os ids fr ∧ fre3 ids os d r

section
variable {P : Program} {g g' : G} {s s' : St} {a : Act} {w w' : World} {n N : Nat}

theorem freO_get {os : List (Nat × Ob)} : ∀ {ids : List (Option Nat)} {fr : Fr}, freO os ids fr → ids.length = fr.length ∧ (∀ (i j id : Nat), ids[i]? = some (some id) → ids[j]? = some (some id) → i = j) ∧
    (∀ (j id : Nat) (x : Nat × TypeId × Bool × List (List C)), ids[j]? = some (some id) → fr[j]? = some x → lk id os = some (Fr.ob x)) ∧ ∀ (j : Nat) (x : Nat × TypeId × Bool × List (List C)), ids[j]? = some none → fr[j]? = some x → x.2.2.2 = []
  | [], [], _ => ⟨rfl, fun i j id h => by simp at h, fun j id x h => by simp at h, fun j x h => by simp at h⟩
  | some i :: l, (z, e, b, els) :: l', h => by
    obtain ⟨h1, h2, h3⟩ := h
    obtain ⟨h4, h5, h6, h7⟩ := freO_get h3
    have hnot : ∀ j : Nat, l[j]? ≠ some (some i) := fun j hj => by
      have := List.mem_of_getElem? hj
      simp at h2
      exact h2 this
    refine ⟨by simp [h4], fun a b id ha hb => ?_, fun j id x hj hx => ?_, fun j x hj hx => ?_⟩
    · cases a <;> cases b
      · rfl
      · simp at ha hb; subst ha; exact absurd hb (hnot _)
      · simp at ha hb; subst hb; exact absurd ha (hnot _)
      · rename_i a b
        have := h5 a b id (by simpa using ha) (by simpa using hb)
        rw [this]
    · cases j with
      | zero => simp at hj hx; subst hj; subst hx; exact h1
      | succ j => exact h6 j id x (by simpa using hj) (by simpa using hx)
    · cases j with
      | zero => simp at hj
      | succ j => exact h7 j x (by simpa using hj) (by simpa using hx)
  | none :: l, (z, e, b, els) :: l', h => by
    obtain ⟨h1, h3⟩ := h
    obtain ⟨h4, h5, h6, h7⟩ := freO_get h3
    refine ⟨by simp [h4], fun a b id ha hb => ?_, fun j id x hj hx => ?_, fun j x hj hx => ?_⟩
    · cases a with
      | zero => simp at ha
      | succ a =>
        cases b with
        | zero => simp at hb
        | succ b =>
          have := h5 a b id (by simpa using ha) (by simpa using hb)
          rw [this]
    · cases j with
      | zero => simp at hj
      | succ j => exact h6 j id x (by simpa using hj) (by simpa using hx)
    · cases j with
      | zero => simp at hx; subst hx; exact h1
      | succ j => exact h7 j x (by simpa using hj) (by simpa using hx)
  | [], _ :: _, h => h.elim
  | some _ :: _, [], h => h.elim
  | none :: _, [], h => h.elim

/-- The ghost that sees the slices named alone; all else of one's own is never written again. -/
def G.sel (g : G) (os : List (Nat × Ob)) (ids : List (Option Nat)) : G := ⟨fun _ => none, fun j => match ids[j]? with
  | some (some id) => g.κ id
  | some none => some (none, 0, 0)
  | none => none, fun b => g.I b ∨ ∃ id, ids.contains (some id) = false ∧ ∃ o, lk id os = some o ∧ g.blk id o = some b⟩

theorem fre1_sound {ids : List (Option Nat)} (ho : RelO g s w) {v : Value} {d r : D} (hv : VRel g w v d) (h : fre1 ids s.os d r) : VRel (g.sel s.os ids) w v r := by
  have hI : ∀ b, g.I b → (g.sel s.os ids).I b := fun b hb => .inl hb
  have hp : ∀ {d r : D}, (∀ id ∈ vid1 d, ids.contains (some id) = false) → VRel g w v d → pur1 s.os d r → VRel (g.sel s.os ids) w v r := fun hid hv h =>
    (pur1_give ho rfl hI (fun id hi b o h1 h2 => .inr ⟨id, hid id hi, o, h1, h2⟩) hv h).of0 fun b hb => hb
  unfold fre1 at h
  split at h
  · obtain ⟨h1, rfl⟩ := h
    cases hv with
    | vec a' cap' _ _ a0 len cap hk hn hm ha hv => exact .vec _ _ _ _ a0 len cap (by simp [G.sel, h1, hk]) hn hm ha hv
  · obtain ⟨h1, rfl⟩ := h
    cases hv
    exact .vec _ _ _ _ none 0 0 (by simp [G.sel, h1]) (Nat.le_refl _) (Nat.zero_le _) (.inl rfl) fun _ => ⟨rfl, rfl⟩
  · exact hp (fun id hid => by simp only [vid1, List.mem_singleton] at hid; subst hid; exact h.1) hv h.2
  · exact hp (fun id hid => by simp only [vid1, List.mem_singleton] at hid; subst hid; exact h.1) hv h.2
  · rename_i h1 h2 h3 h4
    refine hp (fun id hid => ?_) hv h
    cases d <;> first | (cases hid; done) | (first | exact (h4 _ _ rfl).elim | exact (h3 _ _ rfl).elim | exact (h2 _ _ rfl).elim | exact (h1 _ _ rfl).elim)
theorem fre2_sound {ids : List (Option Nat)} (ho : RelO g s w) {v : Value} {d r : D} (hv : VRel g w v d) (h : fre2 ids s.os d r) : VRel (g.sel s.os ids) w v r := by
  unfold fre2 at h
  split at h
  · obtain ⟨h1, h2⟩ := pw_get h
    cases hv with
    | agg vs _ hl hp =>
      refine .agg vs _ (by omega) fun i u e hu he => ?_
      have hi : i < vs.size := by
        rcases Nat.lt_or_ge i vs.size with h | h
        · exact h
        · rw [Array.getElem?_eq_none h] at hu; cases hu
      have hd := List.getElem?_eq_getElem (l := _) (i := i) (by rw [← hl]; exact hi)
      exact fre1_sound ho (hp i u _ hu hd) (h2 i _ e hd he)
  · exact fre1_sound ho hv h
theorem fre3_sound {ids : List (Option Nat)} (ho : RelO g s w) {v : Value} {d r : D} (hv : VRel g w v d) (h : fre3 ids s.os d r) : VRel (g.sel s.os ids) w v r := by
  unfold fre3 at h
  split at h
  · obtain ⟨h1, h2⟩ := pw_get h
    cases hv with
    | tup vs _ hl hp =>
      refine .tup vs _ (by omega) fun i u e hu he => ?_
      have hi : i < vs.size := by
        rcases Nat.lt_or_ge i vs.size with h | h
        · exact h
        · rw [Array.getElem?_eq_none h] at hu; cases hu
      have hd := List.getElem?_eq_getElem (l := _) (i := i) (by rw [← hl]; exact hi)
      exact fre2_sound ho (hp i u _ hu hd) (h2 i _ e hd he)
  · exact fre2_sound ho hv h

theorem RelO.sel (ho : RelO g s w) {ids : List (Option Nat)} {fr : Fr} (h : freO s.os ids fr) : RelO (g.sel s.os ids) ⟨[], news 0 fr [], fr.length⟩ w ∧ ∀ b, Own (g.sel s.os ids) ⟨[], news 0 fr [], fr.length⟩ b → Own g s b := by
  obtain ⟨h1, h2, h3, h3'⟩ := freO_get h
  have hcase : ∀ j o, lk j (news 0 fr []) = some o → ∃ x, fr[j]? = some x ∧ o = Fr.ob x ∧ ((∃ id, ids[j]? = some (some id) ∧ lk id s.os = some o) ∨ (ids[j]? = some Option.none ∧ x.2.2.2 = [])) := by
    intro j o hj
    rw [lk_news] at hj
    simp only [Nat.zero_le, if_true, Nat.sub_zero] at hj
    split at hj
    · rename_i x hx
      cases hj
      have hlt : j < ids.length := by rw [h1]; exact (List.getElem?_eq_some_iff.1 hx).1
      refine ⟨x, hx, rfl, ?_⟩
      have hg := List.getElem?_eq_getElem hlt
      cases hid : ids[j] with
      | none => rw [hid] at hg; exact .inr ⟨hg, h3' j x hg hx⟩
      | some id => rw [hid] at hg; exact .inl ⟨id, hg, h3 j id x hg hx⟩
    · cases hj
  have hblk : ∀ j id x, ids[j]? = some (some id) → (g.sel s.os ids).blk j (Fr.ob x) = g.blk id (Fr.ob x) := fun j id x hj => by simp [Fr.ob, G.blk, G.sel, hj]
  have hblk0 : ∀ j x, ids[j]? = some Option.none → (g.sel s.os ids).blk j (Fr.ob x) = Option.none := fun j x hj => by simp [Fr.ob, G.blk, G.sel, hj]
  have hown : ∀ j o b, lk j (news 0 fr []) = some o → (g.sel s.os ids).blk j o = some b → ∃ id, ids[j]? = some (some id) ∧ lk id s.os = some o ∧ g.blk id o = some b := by
    intro j o b h4 h5
    obtain ⟨x, h6, rfl, h7⟩ := hcase j o h4
    rcases h7 with ⟨id, h7, h8⟩ | ⟨h7, _⟩
    · rw [hblk j id x h7] at h5
      exact ⟨id, h7, h8, h5⟩
    · rw [hblk0 j x h7] at h5; cases h5
  refine ⟨⟨fun j o hj => ?_, fun j o j' o' b h4 h5 h6 h7 => ?_, fun j hj => ⟨rfl, ?_⟩, fun b hb => ?_, fun b hb => hb.elim (ho.cel b) fun ⟨id, _, o, h4, h5⟩ => Own.cel ho ⟨id, o, h4, h5⟩⟩, fun b hb => ?_⟩
  · obtain ⟨x, h6, rfl, h7⟩ := hcase j o hj
    rcases h7 with ⟨id, h7, h8⟩ | ⟨h7, h8⟩
    · obtain ⟨a, cap, h9, h10, h11, h12, h13⟩ := ho.ok id _ h8
      refine ⟨a, cap, by simp [G.sel, h7, h9], h10, h11, h12, ?_⟩
      rcases h13 with h13 | ⟨b, off, cells, vs, h14, h15, h16, h17, h18⟩
      · exact .inl h13
      · exact .inr ⟨b, off, cells, vs, h14, h15, h16, h17, fun i k y z hy hz => ⟨(h18 i k y z hy hz).1, (h18 i k y z hy hz).2.mono (fun _ _ => rfl) fun b hb => .inl hb⟩⟩
    · refine ⟨Option.none, 0, by simp [G.sel, h7, h8], by simp [h8], Nat.zero_le _, by simp [h8], .inl ⟨rfl, rfl⟩⟩
  · obtain ⟨id, h8, h9, h10⟩ := hown j o b h4 h6
    obtain ⟨id', h11, h12, h13⟩ := hown j' o' b h5 h7
    have := ho.apart _ _ _ _ b h9 h12 h10 h13
    subst this
    exact h2 j j' id h8 h11
  · have : ids[j]? = Option.none := List.getElem?_eq_none (by rw [h1]; exact hj)
    simp [G.sel, this]
  · rcases hb with hb | ⟨id, hid, o, h4, h5⟩
    · refine ⟨(ho.imm b hb).1, fun ⟨j, o, h6, h7⟩ => ?_⟩
      obtain ⟨id, _, h8, h9⟩ := hown j o b h6 h7
      exact (ho.imm b hb).2 ⟨id, o, h8, h9⟩
    · refine ⟨Own.lt ho ⟨id, o, h4, h5⟩, fun ⟨j, o', h6, h7⟩ => ?_⟩
      obtain ⟨id', h8, h9, h10⟩ := hown j o' b h6 h7
      have := ho.apart _ _ _ _ b h4 h9 h5 h10
      subst this
      have := List.mem_of_getElem? h8
      simp only [List.contains_eq_mem, decide_eq_false_iff_not] at hid
      exact hid this
  · obtain ⟨j, o, h6, h7⟩ := hb
    obtain ⟨id, _, h8, h9⟩ := hown j o b h6 h7
    exact ⟨id, o, h8, h9⟩

/-- Such a contract, out of the function's code. -/
theorem FreshFn.of {f : FuncId} {rs : List D} {r : D} {fr : Fr} (h : ACall P f rs [] 0 (FR r fr)) : FreshFn P f rs r fr := by
  refine ⟨h.1, fun I w vs hI hsz hv => (h.2 (G0 I) w vs (RelO.none I w hI) hsz hv).mono ?_⟩
  rintro e w' ⟨v, d, g', os', nx', he, ⟨ids, h1, h2⟩, hro, hvr, hst⟩
  have hno : ∀ b, ¬ Own (G0 I) ⟨[], [], 0⟩ b := fun b ⟨id, o, h, _⟩ => by cases h
  obtain ⟨h3, h4⟩ := hro.sel h1
  refine ⟨v, _, he, h3, fre3_sound hro hvr h2, ⟨hst.size, fun b hb => hst.same b hb (hno b), hst.env⟩, fun b hb => .inl (hst.le.I b hb), fun b hb h => ?_, fun b hb h => hst.own b hb (hno b) (h4 b h)⟩
  rcases h with h | ⟨id, _, o, h5, h6⟩
  · exact hst.imm b hb (hno b) h
  · exact absurd ⟨id, o, h5, h6⟩ (hst.own b hb (hno b))

/-- What a table's row says. -/
def FnOk (P : Program) (f : FuncId) (rs : List D) (r : D) : Fr → Prop
  | [] => PureFn P f rs r
  | x :: l => r.scal = false ∧ FreshFn P f rs r (x :: l)
/-- The table's contracts: each holds of whatever fits. -/
def TabOk (P : Program) (T : Tab) : Prop := ∀ f sp rs p r fr, lk f T = some sp → sp rs = some (p, r, fr) → p → FnOk P f rs r fr
theorem TabOk.nil : TabOk P [] := fun f sp rs p r fr h => by cases h
theorem TabOk.cons {f : FuncId} {sp : List D → Option (Prop × D × Fr)} {T : Tab} (h : ∀ rs p r fr, sp rs = some (p, r, fr) → p → FnOk P f rs r fr) (hT : TabOk P T) : TabOk P ((f, sp) :: T) := by
  intro f' sp' rs p r fr hl hs hp
  simp only [lk_cons] at hl
  split at hl
  · rename_i e
    subst e
    cases hl
    exact h rs p r fr hs hp
  · exact hT f' sp' rs p r fr hl hs hp
theorem TabOk.toS {T : Tab} (hT : TabOk P T) : TabS P T := by
  intro f ds os nx Q h
  unfold XCall at h
  split at h
  · rename_i p r os' nx' hl
    unfold look at hl
    split at hl
    · rename_i sp hsp
      split at hl
      · rename_i rs hrs
        split at hl
        · rename_i p' r' fr hs
          cases hl
          have hf := hT f sp rs _ _ _ hsp hs h.1
          cases fr with
          | nil =>
            have h2 := h.2
            simp only [news, shf, List.length_nil, Nat.add_zero] at h2
            split at h2
            · rename_i hsc
              exact hf.lend hsc (pures2_pur hrs) h2
            · exact hf.give (pures2_pur hrs) h2
          | cons x l =>
            obtain ⟨h3, h4⟩ := hf
            have h2 := h.2
            rw [if_neg (by rw [h3]; simp)] at h2
            exact h4.give (pures2_pur hrs) h2
        · cases hl
      · cases hl
    · cases hl
  · exact h
end
end Dm

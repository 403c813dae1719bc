import Derived.Test.YtpaojpjhppgoeaaD7
set_option linter.unusedSimpArgs false
set_option linter.unusedVariables false
/-! A slice of one's own, its room told; and the whole one again. -/
namespace Dm
open Go
section
variable {P : Program} {g g' : G} {w w' : World}

def opnD (id n c sz : Nat) : D → D
  | .vec i m => if i = id ∧ m = n then .view id c sz 0 n else .vec i m
  | d => d
def sealQ (Q : D → List (Nat × Ob) → Nat → Prop) (d : D) (os : List (Nat × Ob)) (nx : Nat) : Prop := match d with
  | .view id c sz lo n => match lk id os with
    | some (.vec hd sz' e els) => lo = 0 ∧ c = els.length ∧ sz = sz' ∧ Q (.vec nx n) ((nx, .vec hd sz' e (els.take n)) :: rmv os [id]) (nx + 1)
    | _ => False
  | d => Q d os nx
attribute [go_sem] opnD sealQ false_and and_false Int.zero_add Int.natCast_nonneg Nat.zero_add

theorem opn_rel {id sz : Nat} {hd : Bool} {e : TypeId} {els : List (List C)} {os : List (Nat × Ob)} {nx : Nat} (hr : RelO g ⟨[], os, nx⟩ w) (ho : lk id os = some (.vec hd sz e els)) :
    ∃ c g', els.length ≤ c ∧ c ≤ 9223372036854775807 ∧ RelO g' ⟨[], upd id (.vec hd sz e (fit c sz els)) os, nx⟩ w ∧ Step g ⟨[], os, nx⟩ w g' ⟨[], upd id (.vec hd sz e (fit c sz els)) os, nx⟩ w ∧
      ∀ v d, VRel g w v d → VRel g' w v (opnD id els.length c sz d) := by
  obtain ⟨a0, cap, h1, h2, h3, h4, h5⟩ := hr.ok id _ ho
  have hle : g.Le (g.vec id (a0, cap, cap)) := ⟨fun id b hb => hb, fun j x l c hj => by
    by_cases h : j = id
    · subst h
      rw [h1] at hj; cases hj
      exact ⟨a0, cap, cap, by simp [G.vec], h2, fun _ => ⟨rfl, rfl⟩⟩
    · exact ⟨x, l, c, by simp [G.vec, h, hj], Nat.le_refl _, fun _ => ⟨rfl, rfl⟩⟩, fun b hb => hb⟩
  obtain ⟨h6, h7⟩ := hr.replace ho (.vec hd sz e (fit cap sz els)) [] hle (fun b hb => hb) (fun i hi => rfl) (fun i hi => by simp [G.vec, hi]) (w' := w) (Nat.le_refl _) (fun _ _ _ => rfl)
    (by
      refine ⟨a0, cap, by rw [fit_length]; simp [G.vec], by rw [fit_length]; exact Nat.le_refl _, h3, fit_wide h4, ?_⟩
      rcases h5 with h5 | ⟨b, off, cells, vs, rfl, h8, h9, h10, h11⟩
      · exact .inl h5
      · obtain ⟨vs2, h12⟩ := ok_fit (I := g.I) (w := w) (c := cap) (els := els) h9 h10.2 (fun i j x y _ hx hy => ⟨_, (h11 i j x y hx hy).1, (h11 i j x y hx hy).2⟩)
        exact .inr ⟨b, off, cells, vs2, rfl, h8, h9, h10, h12⟩)
    (fun b hb => .inl (by
      simp only [G.blk, G.vec, if_true] at hb
      simp only [G.blk, h1]
      cases a0 <;> exact hb))
  refine ⟨cap, _, h2, h3, h6, h7, fun v d hv => ?_⟩
  have hm := hv.mono (fun _ _ => rfl) hle
  unfold opnD
  split
  · rename_i i m
    split
    · rename_i hc
      obtain ⟨rfl, rfl⟩ := hc
      cases hv with
      | vec a' cap' _ _ a1 len cap1 hk hn hm' ha hvv =>
        rw [h1] at hk; cases hk
        obtain ⟨rfl, rfl⟩ := hvv rfl
        refine .view a' cap' i cap' sz 0 els.length a' cap' cap' (by simp [G.vec]) (Nat.le_refl _) (Nat.zero_le _) h2 h3 fun _ => ⟨rfl, rfl, fun h => h, fun b o hb => ⟨fun _ => by rw [Nat.zero_mul]; exact hb, o, hb⟩⟩
    · exact hm
  · exact hm

/-- A function that is called with a slice of one's own may be told its room. -/
theorem ACall.opn {f : FuncId} {ds : List D} {os : List (Nat × Ob)} {nx : Nat} {Q : D → List (Nat × Ob) → Nat → Prop} (id : Nat) {hd : Bool} {sz : Nat} {e : TypeId} {els : List (List C)} (ho : lk id os = some (.vec hd sz e els)) (hl : els.length ≤ 9223372036854775807)
    (h : ∀ c, els.length ≤ c → c ≤ 9223372036854775807 → ACall P f (ds.map (opnD id els.length c sz)) (upd id (.vec hd sz e (fit c sz els)) os) nx Q) : ACall P f ds os nx Q := by
  refine ⟨(h _ (Nat.le_refl _) hl).1, fun g w vs hr hsz hv => ?_⟩
  obtain ⟨c, g', h1, h2, h3, h4, h5⟩ := opn_rel hr ho
  refine ((h c h1 h2).2 g' w vs h3 (by rw [List.length_map]; exact hsz) (fun i v d hvv hd => ?_)).mono fun e w' ⟨v, d, g2, os', nx', he, hq, hro, hvr, hst⟩ => ⟨v, d, g2, os', nx', he, hq, hro, hvr, h4.trans hst⟩
  rw [List.getElem?_map, Option.map_eq_some_iff] at hd
  obtain ⟨d0, hd0, rfl⟩ := hd
  exact h5 v d0 (hv i v d0 hvv hd0)

theorem seal_rel {id c sz n : Nat} {hd : Bool} {e : TypeId} {els : List (List C)} {os : List (Nat × Ob)} {nx : Nat} (ho : RelO g ⟨[], os, nx⟩ w) (hlk : lk id os = some (.vec hd sz e els)) (hc : c = els.length) {v : Value} (hv : VRel g w v (.view id c sz 0 n)) :
    ∃ g', RelO g' ⟨[], (nx, .vec hd sz e (els.take n)) :: rmv os [id], nx + 1⟩ w ∧ VRel g' w v (.vec nx n) ∧ Step g ⟨[], os, nx⟩ w g' ⟨[], (nx, .vec hd sz e (els.take n)) :: rmv os [id], nx + 1⟩ w := by
  obtain ⟨a1, cap1, h1, h2, h3, h4, h5⟩ := ho.ok id _ hlk
  cases hv with
  | view a' cap' _ _ _ _ _ a0 len cap hk hle hl hh hm hvv =>
  rw [hk] at h1; cases h1
  obtain ⟨rfl, rfl, h6, h7⟩ := hvv hc
  subst hc
  have haa : a' = a1 := by
    rcases h5 with ⟨rfl, _⟩ | ⟨b, off, _, _, rfl, _⟩
    · exact h6 rfl
    · have := (h7 b off rfl).1 (.inr rfl)
      rw [this, Nat.zero_mul, Nat.add_zero]
  subst haa
  have hfr := ho.fresh nx (Nat.le_refl _)
  have hdl : (els.take n).length = n := by rw [List.length_take]; omega
  have hne : ∀ i o, lk i os = some o → i ≠ nx := fun i o ho' hi => by
    subst hi
    have := ho.ok _ o ho'
    cases o with
    | box cs => obtain ⟨b, _, _, h, _⟩ := this; rw [hfr.1] at h; cases h
    | vec _ _ _ _ => obtain ⟨b, _, h, _⟩ := this; rw [hfr.2] at h; cases h
  have hidne := hne id _ hlk
  have hκ : ∀ i, i ≠ nx → (g.vec nx (a', n, els.length)).κ i = g.κ i := fun i hi => if_neg hi
  have hκ0 : (g.vec nx (a', n, els.length)).κ nx = some (a', n, els.length) := if_pos rfl
  have hgle : g.Le (g.vec nx (a', n, els.length)) := ⟨fun _ _ h => h, fun i x y z h => ⟨x, y, z, by
    have : i ≠ nx := fun hi => by rw [hi, hfr.2] at h; cases h
    rw [hκ i this]; exact h, Nat.le_refl _, fun _ => ⟨rfl, rfl⟩⟩, fun _ h => h⟩
  have hin : ∀ i o, lk i ((nx, Ob.vec hd sz e (els.take n)) :: rmv os [id]) = some o → (i = nx ∧ o = .vec hd sz e (els.take n)) ∨ (i ≠ nx ∧ i ≠ id ∧ lk i os = some o) := fun i o h => by
    simp only [lk_cons, lk_rmv] at h
    split at h
    · rename_i hi; cases h; exact .inl ⟨hi, rfl⟩
    · rename_i hi
      split at h
      · cases h
      · rename_i hi2; exact .inr ⟨hi, by simpa using hi2, h⟩
  have hblk : ∀ i o, i ≠ nx → (g.vec nx (a', n, els.length)).blk i o = g.blk i o := fun i o hi => by
    cases o with
    | box cs => rfl
    | vec _ _ _ _ => simp only [G.blk, hκ i hi]
  have hblk0 : ∀ b, (g.vec nx (a', n, els.length)).blk nx (.vec hd sz e (els.take n)) = some b → g.blk id (.vec hd sz e els) = some b := fun b hb => by
    simp only [G.blk, hκ0] at hb
    simp only [G.blk, hk]
    cases a' <;> exact hb
  have hown : ∀ b, Own (g.vec nx (a', n, els.length)) ⟨[], (nx, .vec hd sz e (els.take n)) :: rmv os [id], nx + 1⟩ b → Own g ⟨[], os, nx⟩ b := fun b ⟨i, o, h6, h7⟩ => by
    rcases hin i o h6 with ⟨rfl, rfl⟩ | ⟨h8, _, h9⟩
    · exact ⟨id, _, hlk, hblk0 b h7⟩
    · rw [hblk i o h8] at h7; exact ⟨i, o, h9, h7⟩
  have hst : Step g ⟨[], os, nx⟩ w (g.vec nx (a', n, els.length)) ⟨[], (nx, .vec hd sz e (els.take n)) :: rmv os [id], nx + 1⟩ w :=
    ⟨hgle, Nat.le_refl _, fun _ _ _ => rfl, fun b _ hno h => hno (hown b h), fun _ _ _ h => h, .refl w⟩
  refine ⟨g.vec nx (a', n, els.length), ⟨fun i o hi => ?_, fun i o i' o' b h6 h7 h8 h9 => ?_, fun i hi => ?_, fun b hb => ⟨(ho.imm b hb).1, fun h => (ho.imm b hb).2 (hown b h)⟩, ho.cel⟩, ?_, hst⟩
  · rcases hin i o hi with ⟨rfl, rfl⟩ | ⟨h8, _, h9⟩
    · refine ⟨_, _, hκ0.trans (by rw [hdl]), by rw [hdl]; omega, by omega, fun x hx => h4 x (List.mem_of_mem_take hx), ?_⟩
      rcases h5 with ⟨rfl, hc⟩ | ⟨b, off, cells, vs, rfl, h10, h11, h12, h13⟩
      · exact .inl ⟨rfl, hc⟩
      · refine .inr ⟨b, off, cells, vs, rfl, h10, h11, h12, fun i j x y hx hy => ?_⟩
        rw [List.getElem?_take] at hx
        split at hx
        · exact h13 i j x y hx hy
        · cases hx
    · exact (ho.ok i o h9).mono (fun _ _ => rfl) hgle (fun _ _ => rfl) (hκ i h8)
  · rcases hin i o h6 with ⟨rfl, rfl⟩ | ⟨h10, h11, h12⟩ <;> rcases hin i' o' h7 with ⟨rfl, rfl⟩ | ⟨h13, h14, h15⟩
    · rfl
    · rw [hblk i' o' h13] at h9
      exact absurd (ho.apart id _ i' o' b hlk h15 (hblk0 b h8) h9) (fun h => h14 h.symm)
    · rw [hblk i o h10] at h8
      exact absurd (ho.apart i o id _ b h12 hlk h8 (hblk0 b h9)) h11
    · rw [hblk i o h10] at h8
      rw [hblk i' o' h13] at h9
      exact ho.apart i o i' o' b h12 h15 h8 h9
  · have hi' : nx + 1 ≤ i := hi
    rw [hκ i (by omega)]
    exact ho.fresh i (Nat.le_of_succ_le hi')
  · refine .vec a' _ nx n a' n els.length hκ0 (Nat.le_refl _) (by omega) ?_ fun _ => ⟨rfl, rfl⟩
    rcases h5 with ⟨_, hc⟩ | ⟨b, off, _, _, rfl, _⟩
    · exact .inl (by omega)
    · exact .inr ⟨b, off, rfl⟩

/-- A result that is a view becomes a slice of one's own again. -/
theorem ACall.sld {f : FuncId} {ds : List D} {os : List (Nat × Ob)} {nx : Nat} {Q : D → List (Nat × Ob) → Nat → Prop} (h : ACall P f ds os nx (sealQ Q)) : ACall P f ds os nx Q := by
  refine ⟨h.1, fun g w vs hr hsz hv => (h.2 g w vs hr hsz hv).mono fun e w' ⟨v, d, g2, os', nx', he, hq, hro, hvr, hst⟩ => ?_⟩
  unfold sealQ at hq
  split at hq
  · split at hq
    · rename_i hlk
      obtain ⟨rfl, h1, rfl, h2⟩ := hq
      obtain ⟨g3, h3, h4, h5⟩ := seal_rel hro hlk h1 hvr
      exact ⟨v, _, g3, _, _, he, h2, h3, h4, hst.trans h5⟩
    · cases hq
  · exact ⟨v, d, g2, os', nx', he, hq, hro, hvr, hst⟩
end
end Dm

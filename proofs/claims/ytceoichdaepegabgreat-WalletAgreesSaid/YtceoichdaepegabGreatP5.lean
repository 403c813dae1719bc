import Derived.Test.YtceoichdaepegabGreatP4
import Derived.Below
import Derived.ChangeOld
import Derived.StillTail
set_option linter.unusedSimpArgs false
set_option linter.unusedVariables false
set_option linter.unusedSectionVars false
namespace Dm
open Go
def fzB (o : Option Ob) (id n t : Nat) (s : St) (K : St → Prop) : Prop := match o with
  | some (.vec _ _ _ els) => n = els.length ∧ K ⟨upd t (.c (.sl els)) s.tm, rmv s.os [id], s.nx⟩
  | _ => False
def fzA (x : Option D) (t : Nat) (s : St) (K : St → Prop) : Prop := match x with
  | some (.vec id n) => fzB (lk id s.os) id n t s K
  | some _ => K s
  | none => False
def fzK : List Nat → St → (St → Prop) → Prop
  | [], s, K => K s
  | t :: l, s, K => fzA (lk t s.tm) t s (fun s => fzK l s K)
section
variable {δ : List Deferred} {P : Program} {g g' : G} {s s' : St} {a : Act} {w w' : World} {n N : Nat} {K : St → Prop}
@[congr] theorem ubV {x x' : Option D} {t : Nat} (h : x = x') : fzA x t s K = fzA x' t s K := by rw [h]
@[congr] theorem vbM {x x' : Option Ob} {id n t : Nat} (h : x = x') : fzB x id n t s K = fzB x' id n t s K := by rw [h]
@[congr] theorem xbX {l : List Nat} (h : s = s') : fzK l s K = fzK l s' K := by rw [h]
@[go_sem] theorem vcC : fzK [] s K = K s := rfl
@[go_sem] theorem bcf {t : Nat} {l : List Nat} : fzK (t :: l) s K = fzA (lk t s.tm) t s (fun s => fzK l s K) := rfl
@[go_sem] theorem zcJ {id m t : Nat} : fzA (some (.vec id m)) t s K = fzB (lk id s.os) id m t s K := rfl
@[go_sem] theorem wdc {x : C} {t : Nat} : fzA (some (.c x)) t s K = K s := rfl
@[go_sem] theorem xcq {t : Nat} : fzA (some .nil) t s K = K s := rfl
@[go_sem] theorem bcO {id m t : Nat} {hd : Bool} {z : Nat} {e : TypeId} {els : List (List C)} : fzB (some (.vec hd z e els)) id m t s K = (m = els.length ∧ K ⟨upd t (.c (.sl els)) s.tm, rmv s.os [id], s.nx⟩) := rfl
def lpF {ι : Type} (fz : List Nat) (N : Nat) (S : ι → St) (μ : ι → Nat) (m : Nat) (Q : Exit → St → Prop) : Exit → St → Prop
  | .normal, s => fzK fz s fun s => ∃ i, μ i < m ∧ Sub N s (S i)
  | e, s => Q e s
variable {Q : Exit → St → Prop}
@[congr] theorem ub2 {ι : Type} {fz : List Nat} {S : ι → St} {μ : ι → Nat} {m : Nat} {e : Exit} (h' : s = s') : lpF fz N S μ m Q e s = lpF fz N S μ m Q e s' := by rw [h']
@[go_sem] theorem kdd {ι : Type} {fz : List Nat} {S : ι → St} {μ : ι → Nat} {m : Nat} : lpF fz N S μ m Q .normal s = fzK fz s fun s => ∃ i, μ i < m ∧ Sub N s (S i) := rfl
@[go_sem] theorem qdb {ι : Type} {fz : List Nat} {S : ι → St} {μ : ι → Nat} {m : Nat} : lpF fz N S μ m Q .ret s = Q .ret s := rfl
@[go_sem] theorem ydi {ι : Type} {fz : List Nat} {S : ι → St} {μ : ι → Nat} {m i : Nat} : lpF fz N S μ m Q (.exit i) s = Q (.exit i) s := rfl
end
end Dm
namespace Dm
open Go
section
variable {δ : List Deferred} {P : Program} {T : Tab} {g g' : G} {s s' r e : St} {a : Act} {w : World} {n N : Nat} {F F' : Nat → Prop} {all : Array Oper}
theorem jP {k : Nat} (hk : k < all.size) (hanc : ∀ j, j < k → Anc all j k) (hch : ∀ t, k < t → t < all.size → ∃ o ed, all[t]? = some o ∧ ed ∈ o.after ∧ Region.binds .any ed = true ∧ ed.on = t - 1) (hT : zaK P T) (hd : all.toList.all (wm n) = true) (hE : ∀ (i : Nat) o, all[i]? = some o → ∀ ed ∈ o.after, Region.binds .any ed = true → ed.on < i) {Q : Exit → Act → World → Prop} : ∀ (fuel : Nat) (listed : Array Bool) (l : List Ent) (g : G) (s : St) (a : Act) (w : World),
    l.length = fuel → listed.size = all.size → Down all listed → (∀ i, i < k → (listed.getD i true = false ↔ ∃ x ∈ l, x.i = i)) → (∀ i, k ≤ i → i < all.size → listed.getD i true = false) → (∀ x ∈ l, x.i < k ∧ all[x.i]? = some x.o) → l.Pairwise (Two all) → (∀ x ∈ l, x.r.nx ≤ e.nx ∧ x.B ≤ x.r.nx) →
    Tr P T all l s e → yQ (ycl l e) δ g s a w → a.tmps.size = n → (∀ g' (listed' : Array Bool) a' w', listed'.size = all.size → (∀ i, i < all.size → listed'.getD i true = decide (i < k)) → yQ (fun id => e.nx ≤ id) δ g' e a' w' → a'.tmps.size = n → Step g s w g' e w' → wpAny P .any all Q (all.size - k) listed' a' w') →
    wpAny P .any all Q (fuel + (all.size - k)) listed a w
  | 0, listed, l, g, s, a, w, hl, hsz, hdn, hli, hlk, ho, hp, hnx, htr, hr, hn, hQ => by
    have : l = [] := List.eq_nil_of_length_eq_zero hl
    subst this
    rw [Nat.zero_add]
    refine hQ g listed a w hsz (fun i hi => ?_) ((hr.eqv htr).less fun id hid => .inr hid) hn (Step.eqv htr.2)
    by_cases hik : i < k
    · have : listed.getD i true ≠ false := fun h => by
        obtain ⟨x, hx, _⟩ := (hli i hik).1 h
        cases hx
      rw [decide_eq_true hik]
      simpa using this
    · rw [decide_eq_false hik]; exact hlk i (by omega) hi
  | fuel + 1, listed, l, g, s, a, w, hl, hsz, hdn, hli, hlk, ho0, hp, hnx, htr, hr, hn, hQ => by
    have ho : ∀ x ∈ l, all[x.i]? = some x.o := fun x hx => (ho0 x hx).2
    have hlk' : ∀ x ∈ l, x.i < k := fun x hx => (ho0 x hx).1
    have hlt : ∀ x ∈ l, x.i < all.size := fun x hx => (Array.getElem?_eq_some_iff.1 (ho x hx)).1
    rw [show fuel + 1 + (all.size - k) = fuel + (all.size - k) + 1 by omega]
    refine ⟨fun h0 => ?_, fun i hi => ?_⟩
    · -- there is always one that may come up
      cases l with
      | nil => simp at hl
      | cons y l =>
        exfalso
        have hy := ho y (by simp)
        have hyl := hlt y (by simp)
        have : y.i ∈ Region.ready .any all listed := by
          rw [Region.ready, List.mem_filter]
          refine ⟨List.mem_range.2 hyl, ?_⟩
          have h1 : listed.getD y.i true = false := (hli y.i (hlk' y (by simp))).2 ⟨y, by simp, rfl⟩
          rw [h1, hy]
          simp only [Bool.not_false, Option.map_some, Option.getD_some, Bool.true_and, Array.all_eq_true_iff_forall_mem]
          intro ed hed
          by_cases hb : Region.binds .any ed = true
          · have h2 := hE y.i y.o hy ed hed hb
            have h3 : listed.getD ed.on true ≠ false := fun h => by
              obtain ⟨z, hz, hzi⟩ := (hli ed.on (by have := hlk' y (by simp); omega)).1 h
              rcases List.mem_cons.1 hz with rfl | hz
              · omega
              · have := (List.rel_of_pairwise_cons hp hz).1
                omega
            have h4 : ed.on < listed.size := by omega
            have h5 : listed.getD ed.on true = true := by simpa using h3
            have h6 : listed.getD ed.on false = true := by
              simp only [Array.getD, h4, dif_pos] at h5 ⊢
              exact h5
            simp [hb, h6]
          · simp [hb]
        rw [h0] at this
        cases this
    · rw [Region.ready, List.mem_filter] at hi
      obtain ⟨hi1, hi2⟩ := hi
      have hi1' := List.mem_range.1 hi1
      simp only [Bool.and_eq_true, Bool.not_eq_true'] at hi2
      obtain ⟨hi3, hi4⟩ := hi2
      have hik : i < k := by
        rcases Nat.lt_or_ge i k with h | h
        · exact h
        exfalso
        have hgo : ∀ o ed, all[i]? = some o → ed ∈ o.after → Region.binds .any ed = true → listed.getD ed.on false = true := fun o ed ho' hed hb => by
          rw [ho'] at hi4
          simp only [Option.map_some, Option.getD_some, Array.all_eq_true_iff_forall_mem] at hi4
          have := hi4 ed hed
          rw [hb] at this
          simpa using this
        rcases Nat.eq_or_lt_of_le h with h5 | h5
        · subst h5
          cases l with
          | nil => simp at hl
          | cons y l =>
            have h6 := hanc y.i (hlk' y (by simp))
            have h7 : listed.getD y.i false = true := by
              obtain ⟨o, ed, ho', he', hb, h⟩ := h6.inv
              rcases h with h | h
              · rw [← h]; exact hgo _ _ ho' he' hb
              · exact h.listed hdn (hgo _ _ ho' he' hb)
            have h8 : listed.getD y.i true = false := (hli y.i (hlk' y (by simp))).2 ⟨y, by simp, rfl⟩
            have h9 : y.i < listed.size := by rw [hsz]; exact hlt y (by simp)
            simp only [Array.getD, h9, dif_pos] at h7 h8
            rw [h7] at h8
            cases h8
        · obtain ⟨o, ed, ho', hed, hb, hon⟩ := hch i h5 hi1'
          have h6 := hgo o ed ho' hed hb
          rw [hon] at h6
          have h8 := hlk (i - 1) (by omega) (by omega)
          have h9 : i - 1 < listed.size := by omega
          simp only [Array.getD, h9, dif_pos] at h6 h8
          rw [h6] at h8
          cases h8
      obtain ⟨x, hx, rfl⟩ := (hli i hik).1 hi3
      have hxo := ho x hx
      rw [hxo] at hi4
      simp only [Option.map_some, Option.getD_some, Array.all_eq_true_iff_forall_mem] at hi4
      obtain ⟨pre, post, rfl⟩ := List.append_of_mem hx
      have hpp := List.pairwise_append.1 hp
      have hind : ∀ y ∈ pre, Ind all y x ∨ (cmB all y.o x.o = true ∧ y.r.nx = y.B) := fun y hy => by
        obtain ⟨h1, _, _, h2⟩ := hpp.2.2 y hy x (by simp)
        refine h2.resolve_left fun he => ?_
        have hgo : ∀ ed ∈ x.o.after, Region.binds .any ed = true → listed.getD ed.on false = true := fun ed hed hb => by
          have := hi4 ed hed
          rw [hb] at this
          simpa using this
        have h5 : listed.getD y.i false = true := by
          obtain ⟨o, ed, ho', he', hb, h⟩ := he.inv
          rw [hxo] at ho'; cases ho'
          rcases h with h | h
          · rw [← h]; exact hgo _ he' hb
          · exact h.listed hdn (hgo _ he' hb)
        have h6 : listed.getD y.i true = false := (hli y.i (hlk' y (by simp [hy]))).2 ⟨y, by simp [hy], rfl⟩
        have h7 : y.i < listed.size := by rw [hsz]; exact hlt y (by simp [hy])
        simp only [Array.getD, h7, dif_pos] at h5 h6
        rw [h5] at h6
        cases h6
      obtain ⟨hgx, pre', hsim, htr'⟩ := Tr.front (fun y hy => (hind y hy).imp_right (·.1)) htr
      have hn1 : ∀ y ∈ pre, ∀ id ∈ x.T, ¬ (y.B ≤ id ∧ id < y.r.nx) := fun y hy id hid => by
        rcases hind y hy with h | h
        · exact h.n1 id hid
        · omega
      have hsim2 : (pre' ++ post).map Ent.sh = (pre ++ post).map Ent.sh := by rw [List.map_append, List.map_append, hsim]
      have hback : ∀ y' ∈ pre' ++ post, ∃ y ∈ pre ++ post, y'.sh = y.sh := fun y' hy' => yaa hsim2 hy'
      have hpost : ∀ y ∈ post, x.r.nx ≤ y.B := fun y hy => (List.rel_of_pairwise_cons hpp.2.1 hy).2.1
      have hpre : ∀ y ∈ pre, y.r.nx ≤ x.B := fun y hy => (hpp.2.2 y hy x (by simp)).2.1
      have hxnx := hnx x (by simp)
      have hlow := hgx.facts.2.2
      unfold wpOp
      rw [hxo]
      refine qap (F' := ycl (pre' ++ post) e) hT hgx (List.all_eq_true.1 hd x.o (by simpa using Array.mem_of_getElem? hxo)) hr hn (fun id h1 h2 => .inl ⟨x, by simp, h1, h2⟩) (fun id hid => ?_) fun g' a' w' hr' hn' hst => ?_
      · rcases hid with ⟨y', hy', h1, h2⟩ | h1
        · obtain ⟨y, hy, hyy⟩ := hback y' hy'
          obtain ⟨_, _, _, _, a5, a6⟩ := bK hyy
          rw [a5] at h1
          rw [a6] at h2
          rcases List.mem_append.1 hy with hy | hy
          · have h3 := hpre y hy
            exact ⟨.inl ⟨y, by simp [hy], h1, h2⟩, .inl (by omega), fun hm => hn1 y hy id hm ⟨h1, h2⟩⟩
          · have h3 := hpost y hy
            exact ⟨.inl ⟨y, by simp [hy], h1, h2⟩, .inr (by omega), fun hm => by have := hlow id hm; omega⟩
        · exact ⟨.inr h1, .inr (by omega), fun hm => by have := hlow id hm; omega⟩
      · have hlen' : pre'.length = pre.length := by simpa using congrArg List.length hsim
        refine jP hk hanc hch hT hd hE fuel _ (pre' ++ post) g' _ a' w' (by simp at hl ⊢; omega) (by simpa using hsz) ?_ (fun i hi => ?_) (fun i h1 h2 => by rw [getD_set_ne true (by omega)]; exact hlk i h1 h2) (fun y' hy' => ?_) ?_ (fun y' hy' => ?_) htr' hr' hn'
          (fun g'' l'' a'' w'' h0 h0' h1 h2 h3 => hQ g'' l'' a'' w'' h0 h0' h1 h2 (hst.trans h3))
        · intro i o hi ho' ed hed hb
          have hset : ∀ k : Nat, listed.getD k false = true → (listed.setIfInBounds x.i true).getD k false = true := fun k hk => by
            by_cases hkx : k = x.i
            · subst hkx
              simp [Array.getD, hsz, hi1']
            · rw [getD_set_ne false (fun h => hkx h.symm)]; exact hk
          refine hset _ ?_
          by_cases hix : i = x.i
          · subst hix
            rw [hxo] at ho'; cases ho'
            have := hi4 ed hed
            rw [hb] at this
            simpa using this
          · rw [getD_set_ne false (fun h => hix h.symm)] at hi
            exact hdn i o hi ho' ed hed hb
        · have hne : ∀ y ∈ pre ++ post, y.i ≠ x.i := fun y hy => by
            rcases List.mem_append.1 hy with hy | hy
            · have := (hpp.2.2 y hy x (by simp)).1; omega
            · have := (List.rel_of_pairwise_cons hpp.2.1 hy).1; omega
          by_cases hix : i = x.i
          · subst hix
            have h7 : x.i < listed.size := by omega
            constructor
            · intro h
              simp [Array.getD, h7] at h
            · rintro ⟨y', hy', hyi⟩
              obtain ⟨y, hy, hyy⟩ := hback y' hy'
              exact absurd ((bK hyy).1.symm.trans hyi) (hne y hy)
          · have : (listed.setIfInBounds x.i true).getD i true = listed.getD i true := by
              have hix' : x.i ≠ i := fun h => hix h.symm
              simp only [Array.getD, Array.size_setIfInBounds]
              split
              · simp only [Array.getInternal_eq_getElem]
                exact Array.getElem_setIfInBounds_ne _ hix'
              · rfl
            rw [this, hli i hi]
            constructor
            · rintro ⟨y, hy, hyi⟩
              have hy2 : y ∈ pre ++ post := by
                simp at hy ⊢
                rcases hy with h | h | h
                · exact .inl h
                · subst h; exact absurd hyi.symm hix
                · exact .inr h
              obtain ⟨y', hy', hyy⟩ := yaa hsim2.symm hy2
              exact ⟨y', hy', (bK hyy).1.symm.trans hyi⟩
            · rintro ⟨y', hy', hyi⟩
              obtain ⟨y, hy, hyy⟩ := hback y' hy'
              exact ⟨y, by simp at hy ⊢; rcases hy with h | h <;> simp [h], (bK hyy).1.symm.trans hyi⟩
        · obtain ⟨y, hy, hyy⟩ := hback y' hy'
          obtain ⟨a1, a2, _⟩ := bK hyy
          rw [a1, a2]
          exact ho0 y (by simp at hy ⊢; rcases hy with h | h <;> simp [h])
        · exact zaV (fun _ _ _ _ h1 h2 h3 => h3.sim h1 h2) hsim2 (hp.sublist (by simp))
        · obtain ⟨y, hy, hyy⟩ := hback y' hy'
          obtain ⟨_, _, _, _, a5, a6⟩ := bK hyy
          rw [a5, a6]
          exact hnx y (by simp at hy ⊢; rcases hy with h | h <;> simp [h])
def zbX (all : Array Oper) (us : List Nat) (k : Nat) : Bool := decide (k < all.size) && ((List.range k).all fun j => qH (us.getD k 0) j) && (List.range all.size).all fun t => decide (t ≤ k) || Region.waitsFor .any all t (t - 1)
def vbR (k m : Nat) : Array Bool := (Array.range m).map fun i => decide (i < k)
theorem vbn {k : Nat} {listed : Array Bool} (h : ∀ i, i < listed.size → listed.getD i true = decide (i < k)) : listed = vbR k listed.size := by
  apply Array.ext
  · simp [vbR]
  · intro i h1 h2
    have := h i h1
    simp only [Array.getD, h1, dif_pos] at this
    simp [vbR]
    simpa using this
theorem uc.tail (k : Nat) (us : List Nat) (hT : za P T) {i : Nat} {ops : Array Oper} {Q : Exit → St → Prop} (hm : P.follows .mixedOrders = true) (hB : jbu ops 0 [] [] ops.toList us = true) (hd : ops.toList.all (wm n) = true)
    (hk : zbX ops us k = true) (hq : Region.seqB .any ops (ops.size - k) k (vbR k ops.size) = true)
    (h : dx P T ops (ops.toList.take k) us 0 [] (fun e => vK P T ops (ops.toList.drop k) e (Q .normal)) s) : uc P n N i ops Q s := by
  intro δ g a w hr hn
  obtain ⟨l, e, hK, ho⟩ := yax _ _ _ _ _ h
  obtain ⟨hp1, _, hp3, hp4⟩ := yT hB rfl (fun j p h => by simp [vJ] at h) (fun j => by simp)
  simp only [zbX, Bool.and_eq_true, decide_eq_true_eq] at hk
  obtain ⟨⟨hk1, hk2⟩, hk3⟩ := hk
  have htk : ∀ j o, (ops.toList.take k)[j]? = some o → j < k ∧ ops[j]? = some o := fun j o hj => by
    rw [List.getElem?_take] at hj
    split at hj
    · rename_i hjk; exact ⟨hjk, by simpa using hj⟩
    · cases hj
  have hof : ∀ x ∈ l, x.i < k ∧ ops[x.i]? = some x.o := fun x hx => by
    obtain ⟨j, h1, h2⟩ := ho.of x hx
    have : x.i = j := by omega
    rw [this]
    exact htk j _ h2
  have hC : Ext w { w with drawn := w.drawn + 1 } := ⟨Nat.le_refl _, fun _ _ => rfl, rfl, rfl, rfl, Nat.le_succ _⟩
  obtain ⟨h6, h7⟩ := hr.o.grow hC (I := g.I) (fun b hb => hb) (fun b _ hb => hb) (fun b hb => (hr.o.cel b hb).keep (hC.2.1 b (hr.o.imm b hb).1))
  have hr' : Rel δ (g.imm g.I) s a { w with drawn := w.drawn + 1 } := hr.of h6 h7.tm rfl
  have hlen : l.length = k := by
    have hnd : (l.map (·.i)).Pairwise (· < ·) := (List.pairwise_map).2 (ho.two.imp fun h => h.1)
    have h1 : l.map (·.i) = List.range k := by
      refine List.Perm.eq_of_pairwise (le := (· < ·)) (fun a b _ _ h h' => by omega) hnd List.pairwise_lt_range ?_
      refine (List.perm_ext_iff_of_nodup (hnd.imp fun h => Nat.ne_of_lt h) List.nodup_range).2 fun q => ?_
      rw [List.mem_map, List.mem_range]
      constructor
      · rintro ⟨x, hx, rfl⟩
        exact (hof x hx).1
      · intro hq
        obtain ⟨x, hx, hxi⟩ := ho.xaK q ops[q] (by rw [List.getElem?_take_of_lt hq]; simp [show q < ops.size by omega])
        exact ⟨x, hx, by omega⟩
    have h2 := congrArg List.length h1
    simpa using h2
  have hanc : ∀ j, j < k → Anc ops j k := fun j hj => by
    have hb := List.all_eq_true.1 hk2 j (List.mem_range.2 hj)
    have := hp4 k ops[k] (by simp [hk1]) j hb
    rwa [Nat.zero_add] at this
  have hch : ∀ t, k < t → t < ops.size → ∃ o ed, ops[t]? = some o ∧ ed ∈ o.after ∧ Region.binds .any ed = true ∧ ed.on = t - 1 := fun t h1 h2 => by
    have hb := List.all_eq_true.1 hk3 t (List.mem_range.2 h2)
    rw [decide_eq_false (by omega), Bool.false_or] at hb
    obtain ⟨o, h3, ed, h4, h5, h6⟩ := Region.waitsFor_spec hb
    exact ⟨o, ed, h3, h4, h5, h6⟩
  have hfuel : ops.size = l.length + (ops.size - k) := by omega
  refine wp_region_any hm ?_
  have key := jP (e := e) (Q := fun x a' w' => ∃ g' s', Q x s' ∧ Rel δ g' s' a' w' ∧ a'.tmps.size = n ∧ vh N g s w g' s' w') hk1 hanc hch hT.toS hd (fun i o hi ed hed hb => by
    have := hp1 i o (by simpa using hi) ed hed hb
    omega) l.length (Array.replicate ops.size false) l (g.imm g.I) s a { w with drawn := w.drawn + 1 } rfl (by simp) (fun i o hi => by by_cases hsz : i < ops.size <;> simp [Array.getD, hsz] at hi) (fun i hi => ?_) (fun i h1 h2 => by simp [Array.getD, h2]) hof ?_ (fun x hx => ⟨(ho.lo x hx).2.2, (ho.lo x hx).2.1⟩) ho.tr (hr'.toP.less fun id hid => ?_) hn (fun g' listed' a' w' hsz hls h1 h2 h3 => ?_)
  · rw [← hfuel] at key; exact key
  · constructor
    · intro _
      obtain ⟨x, hx, hxi⟩ := ho.xaK i ops[i] (by rw [List.getElem?_take_of_lt hi]; simp [show i < ops.size by omega])
      exact ⟨x, hx, by omega⟩
    · intro _
      simp [Array.getD, show i < ops.size by omega]
  · refine ho.two.imp_of_mem fun {y x} hy hx h => ⟨h.1, h.2.1, h.2.2.1, ?_⟩
    rw [Nat.sub_zero] at h
    by_cases hed : qH (us.getD x.i 0) y.i = true
    · left
      have := hp4 x.i x.o (by simpa using (hof x hx).2) y.i hed
      rwa [Nat.zero_add] at this
    · right; left
      have h8 := kah (h.2.2.2.resolve_right hed)
      have h9 := hp3 y.i x.i y.o x.o h.1 (by simpa using (hof y hy).2) (by simpa using (hof x hx).2)
      rw [Nat.zero_add] at h9
      exact ⟨h9.resolve_left hed, h8.1, h8.2.1, h8.2.2, h.2.1, h.2.2.1⟩
  · rcases hid with ⟨x, hx, h1, h2⟩ | h1
    · have := ho.lo x hx; omega
    · have := ho.nx; omega
  · have hle : listed' = vbR k ops.size := by rw [← hsz]; exact vbn fun i hi => hls i (by omega)
    have hrel : Rel δ g' e a' w' := h1.toR fun id hid => hid
    have h10 : Step g s w (g.imm g.I) s { w with drawn := w.drawn + 1 } := h7.tm
    have hdl : (ops.toList.drop k).length = ops.size - k := by simp
    have := wpAny_of_seq (P := P) (md := .any) (ops := ops) (Q' := fun x a' w' => ∃ g' s', Q x s' ∧ Rel δ g' s' a' w' ∧ a'.tmps.size = n ∧ vh N g s w g' s' w') (ops.toList.drop k) k listed' a' w' (fun j => by simp) (by rw [hdl, hle]; exact hq)
      (uF hT.toS ops _ (fun o ho => List.all_eq_true.1 hd o (List.mem_of_mem_drop ho)) hK hrel h2 fun a'' w'' ⟨g'', s'', q1, q2, q3, q4⟩ => ⟨g'', s'', q1, q2, q3, ((h10.trans h3).trans q4).toN⟩)
    rwa [hdl] at this
end
end Dm
namespace Dm
open Go
def qav (T : TypeId → List C → Prop) : List Field → List C → Prop
  | [], xs => xs = []
  | f :: r, xs => ∃ ys zs, xs = ys ++ zs ∧ T f.type ys ∧ qav T r zs
def xcI (T : List C → Prop) : Nat → List C → Prop
  | 0, xs => xs = []
  | n + 1, xs => ∃ ys zs, xs = ys ++ zs ∧ T ys ∧ xcI T n zs
def Typ (P : Program) : Nat → TypeId → List C → Prop
  | 0, _, _ => False
  | k + 1, t, xs => match P.underlying t with
    | some .bool => ∃ b, xs = [.bool b]
    | some (.int kd) => ∃ n, xs = [.int kd n] ∧ (Lit.int kd n).wf = true
    | some (.float kd) => ∃ n, xs = [.flt kd (flo kd n)] ∧ (Lit.float kd n).wf = true
    | some .string => ∃ s, xs = [.str s] ∧ s.size ≤ maxLen
    | some (.slice e) => ∃ els, xs = [.sl els] ∧ els.length ≤ maxLen ∧ ∀ x ∈ els, Typ P k e x
    | some (.struct fs) => qav (Typ P k) fs.toList xs
    | some (.array n e) => xcI (Typ P k e) n xs
    | _ => False
def xD (P : Program) (ok : TypeId → Bool) : Nat → List Field → Option Nat
  | o, [] => some o
  | o, f :: r => if f.offset = o ∧ ok f.type = true then xD P ok (o + P.cellsOf f.type) r else none
def plain (P : Program) : Nat → TypeId → Bool
  | 0, _ => false
  | k + 1, t => match P.underlying t with
    | some .bool => true
    | some (.int _) => true
    | some (.float _) => true
    | some .string => true
    | some (.slice e) => plain P k e && P.cellsOf e != 0
    | some (.struct fs) => xD P (plain P k) 0 fs.toList == some (P.cellsOf t)
    | some (.array n e) => plain P k e && n * P.cellsOf e == P.cellsOf t
    | _ => false

section
variable {H : Type} {enc : TypeId × Value → H} {P : Program} {w : World} {spare : Nat → Bool} {held : Bool}

def below (w : World) (b : Nat) : Prop := Cel w b
def Reads (w : World) (cs : List Value) (xs : List C) : Prop := xs.length = cs.length ∧ ∀ (i : Nat) (v : Value) (y : C), cs[i]? = some v → xs[i]? = some y → vm (below w) w v y

theorem Reads.one {v : Value} {y : C} (h : vm (below w) w v y) : Reads w [v] [y] := ⟨rfl, fun i u z hu hz => by
  cases i with
  | zero => simp at hu hz; subst hu; subst hz; exact h
  | succ i => simp at hu⟩
theorem Reads.app {cs ds : List Value} {xs ys : List C} (h : Reads w cs xs) (h' : Reads w ds ys) : Reads w (cs ++ ds) (xs ++ ys) := by
  refine ⟨by simp [h.1, h'.1], fun i v y hv hy => ?_⟩
  rw [List.getElem?_append] at hv hy
  rw [h.1] at hy
  split at hv
  · rename_i hlt; rw [if_pos hlt] at hy; exact h.2 i v y hv hy
  · rename_i hlt; rw [if_neg hlt] at hy; exact h'.2 _ v y hv hy

theorem xw {α β : Type} {f : α → Option β} {a : α} {l : List α} {r : List β} (h : (a :: l).mapM f = some r) : ∃ b bs, f a = some b ∧ l.mapM f = some bs ∧ r = b :: bs := by
  rw [List.mapM_cons] at h
  cases hf : f a with
  | none => simp [hf] at h
  | some b =>
    cases hl : l.mapM f with
    | none => simp [hf, hl] at h
    | some bs => simp [hf, hl] at h; exact ⟨b, bs, rfl, rfl, h.symm⟩

theorem kZ {ok : TypeId → Bool} : ∀ {fs : List Field} {o e : Nat}, xD P ok o fs = some e → o ≤ e
  | [], o, e, h => by simp only [xD, Option.some.injEq] at h; omega
  | f :: r, o, e, h => by
    simp only [xD] at h
    split at h
    · have := kZ h; omega
    · cases h

theorem jT {k fuel : Nat} {cs : List Value} (IH : ∀ (t : TypeId) (cs : List Value) (x : DataW H × List MemPlace), DataW.trod enc P w 0 spare held fuel t cs = some x → plain P k t = true → ∃ xs, Typ P k t xs ∧ Reads w cs xs) :
    ∀ (fs : List Field) (o : Nat) (ys : List (DataW H × List MemPlace)), xD P (plain P k) o fs = some cs.length → fs.mapM (fun f => DataW.trod enc P w 0 spare held fuel f.type ((cs.drop f.offset).take (P.cellsOf f.type))) = some ys →
      ∃ xs, qav (Typ P k) fs xs ∧ Reads w (cs.drop o) xs
  | [], o, ys, h, _ => by
    simp only [xD, Option.some.injEq] at h
    exact ⟨[], rfl, by simp [Reads, h]⟩
  | f :: r, o, ys, h, hm => by
    simp only [xD] at h
    split at h
    · rename_i hc
      obtain ⟨hc1, hc2⟩ := hc
      have hle := kZ h
      obtain ⟨b, bs, h1, h2, _⟩ := xw hm
      obtain ⟨xs, h3, h4⟩ := IH _ _ _ h1 hc2
      obtain ⟨zs, h5, h6⟩ := jT IH r _ bs h h2
      refine ⟨xs ++ zs, ⟨xs, zs, rfl, h3, h5⟩, ?_⟩
      have e : cs.drop o = (cs.drop f.offset).take (P.cellsOf f.type) ++ cs.drop (o + P.cellsOf f.type) := by
        rw [hc1, ← List.drop_drop, List.take_append_drop]
      rw [e]
      exact h4.app h6
    · cases h

theorem k5 {k fuel n sz : Nat} {e : TypeId} {cs : List Value} (IH : ∀ (t : TypeId) (cs : List Value) (x : DataW H × List MemPlace), DataW.trod enc P w 0 spare held fuel t cs = some x → plain P k t = true → ∃ xs, Typ P k t xs ∧ Reads w cs xs) (he : plain P k e = true) :
    ∀ (m j : Nat), j + m = n → n * sz = cs.length → (∀ i, i < n → ∃ x, DataW.trod enc P w 0 spare held fuel e ((cs.drop (i * sz)).take sz) = some x) → ∃ xs, xcI (Typ P k e) m xs ∧ Reads w (cs.drop (j * sz)) xs
  | 0, j, hj, hn, _ => ⟨[], rfl, by
      have : j = n := by omega
      subst this
      simp [Reads, hn]⟩
  | m + 1, j, hj, hn, hall => by
    obtain ⟨x, hx⟩ := hall j (by omega)
    obtain ⟨xs, h3, h4⟩ := IH _ _ _ hx he
    obtain ⟨zs, h5, h6⟩ := k5 IH he m (j + 1) (by omega) hn hall
    refine ⟨xs ++ zs, ⟨xs, zs, rfl, h3, h5⟩, ?_⟩
    have e : cs.drop (j * sz) = (cs.drop (j * sz)).take sz ++ cs.drop ((j + 1) * sz) := by
      rw [Nat.add_mul, Nat.one_mul, ← List.drop_drop, List.take_append_drop]
    rw [e]
    exact h4.app h6

theorem zw {β : Type} {f : Nat → Option β} {n : Nat} {r : List β} (h : (List.range n).mapM f = some r) (i : Nat) (hi : i < n) : ∃ y, f i = some y ∧ r[i]? = some y := by
  have key : ∀ (l : List Nat) (r : List β), l.mapM f = some r → ∀ (i x : Nat), l[i]? = some x → ∃ y, f x = some y ∧ r[i]? = some y := by
    intro l
    induction l with
    | nil => intro r _ i x hx; simp at hx
    | cons a l ih =>
      intro r hr i x hx
      obtain ⟨b, bs, h1, h2, rfl⟩ := xw hr
      cases i with
      | zero => simp at hx; subst hx; exact ⟨b, h1, rfl⟩
      | succ i => exact ih bs h2 i x (by simpa using hx)
  exact key _ _ h i i (by simp [hi])

theorem zaz {α β : Type} {f : α → Option β} : ∀ {l : List α} {r : List β}, l.mapM f = some r → r.length = l.length
  | [], r, h => by simp at h; simp [h]
  | a :: l, r, h => by
    obtain ⟨b, bs, _, h2, rfl⟩ := xw h
    simp [zaz h2]

theorem waj : ∀ (fuel k : Nat) (t : TypeId) (cs : List Value) (x : DataW H × List MemPlace), DataW.trod enc P w 0 spare held fuel t cs = some x → plain P k t = true → ∃ xs, Typ P k t xs ∧ Reads w cs xs
  | 0, k, t, cs, x, h, _ => by simp [DataW.trod] at h
  | fuel + 1, 0, t, cs, x, h, hp => by cases hp
  | fuel + 1, k + 1, t, cs, x, h, hp => by
    have IH := fun t cs x => waj fuel k t cs x
    simp only [plain] at hp
    simp only [Typ]
    unfold DataW.trod at h
    split at h
    · rename_i b hu; rw [hu]; exact ⟨[.bool b], ⟨b, rfl⟩, .one (.bool b)⟩
    · rename_i kd k' n hu
      rw [hu]
      split at h
      · rename_i hc; obtain ⟨rfl, hc⟩ := hc
        exact ⟨[.int _ n], ⟨n, rfl, hc⟩, .one (.int _ n)⟩
      · cases h
    · rename_i kd k' n hu
      rw [hu]
      split at h
      · rename_i hc; obtain ⟨rfl, hc⟩ := hc
        exact ⟨[.flt _ (flo _ n)], ⟨n, rfl, hc⟩, .one (.flt _ n)⟩
      · cases h
    · rename_i s hu
      rw [hu]
      split at h
      · rename_i hc
        exact ⟨[.str s], ⟨s, rfl, hc⟩, .one (.str s)⟩
      · cases h
    · rename_i hu; rw [hu] at hp; cases hp
    · rename_i hu; rw [hu] at hp; cases hp
    · rename_i e hu
      rw [hu]
      exact ⟨[.sl []], ⟨[], rfl, by simp, by simp⟩, .one (.slnil _ _ (by simp [maxLen]))⟩
    · rename_i e a len cap hu
      rw [hu] at hp ⊢
      simp only [Bool.and_eq_true, bne_iff_ne, ne_eq] at hp
      obtain ⟨hp1, hp2⟩ := hp
      split at h
      · rename_i hc
        obtain ⟨_, hlc, hcm⟩ := hc
        cases hm : (List.range len).mapM (fun i => (w.cells? 0 (a.add (i * P.cellsOf e)) (P.cellsOf e)).bind (DataW.trod enc P w 0 spare held fuel e)) with
        | none => dsimp only at h; rw [hm] at h; cases h
        | some elems =>
          have hel : ∀ i, i < len → ∃ ci xi, w.cells? 0 (a.add (i * P.cellsOf e)) (P.cellsOf e) = some ci ∧ Typ P k e xi ∧ Reads w ci xi := by
            intro i hi
            obtain ⟨y, h1, _⟩ := zw hm i hi
            cases hcs : w.cells? 0 (a.add (i * P.cellsOf e)) (P.cellsOf e) with
            | none => rw [hcs] at h1; cases h1
            | some ci =>
              rw [hcs] at h1
              obtain ⟨xi, h2, h3⟩ := IH e ci y h1 hp1
              exact ⟨ci, xi, rfl, h2, h3⟩
          have hch : ∃ (cf : Nat → List Value) (xf : Nat → List C), ∀ i, i < len → w.cells? 0 (a.add (i * P.cellsOf e)) (P.cellsOf e) = some (cf i) ∧ Typ P k e (xf i) ∧ Reads w (cf i) (xf i) := by
            refine ⟨fun i => if h : i < len then (hel i h).choose else [], fun i => if h : i < len then (hel i h).choose_spec.choose else [], fun i hi => ?_⟩
            simp only [dif_pos hi]
            exact (hel i hi).choose_spec.choose_spec
          obtain ⟨cf, xf, hf⟩ := hch
          have hlen : ∀ i, i < len → (cf i).length = P.cellsOf e ∧ ∀ j, j < P.cellsOf e → w.cell? ((a.add (i * P.cellsOf e)).add j) = (cf i)[j]? := by
            intro i hi
            have h1 := (hf i hi).1
            unfold World.cells? at h1
            rw [if_pos (Nat.zero_le _)] at h1
            refine ⟨by have := zaz h1; simpa using this, fun j hj => ?_⟩
            obtain ⟨y, h2, h3⟩ := zw h1 j hj
            rw [h2, h3]
          refine ⟨[.sl ((List.range len).map xf)], ⟨_, rfl, by simp; omega, fun x hx => ?_⟩, .one ?_⟩
          · obtain ⟨i, hi, rfl⟩ := List.mem_map.1 hx
            exact (hf i (by simpa using hi)).2.1
          · by_cases h0 : len = 0
            · subst h0; exact .slnil _ _ hcm
            · have h00 := (hlen 0 (by omega))
              have hpos : 0 < P.cellsOf e := by omega
              have hc0 := h00.2 0 hpos
              have hs : ∃ v, w.cell? a = some v := by
                have : (cf 0)[0]? = some ((cf 0)[0]'(by omega)) := List.getElem?_eq_getElem _
                rw [this] at hc0
                simp only [Nat.zero_mul, Addr.add, Nat.add_zero] at hc0
                exact ⟨_, hc0⟩
              obtain ⟨v0, hv0⟩ := hs
              have hspot : a.spot = none ∧ Cel w a.block := by
                unfold World.cell? at hv0
                split at hv0
                · rename_i c _ _ hb
                  split at hv0
                  · cases hv0
                  · rename_i hsp
                    exact ⟨by simpa using hsp, .of hb⟩
                · cases hv0
              obtain ⟨ab, ao, asp⟩ := a
              simp only at hspot
              obtain ⟨rfl, hb⟩ := hspot
              have he : len = ((List.range len).map xf).length := by simp
              have hget : ∀ (i : Nat) (x : List C), ((List.range len).map xf)[i]? = some x → i < len ∧ x = xf i := fun i x hx => by
                simp only [List.getElem?_map, Option.map_eq_some_iff] at hx
                obtain ⟨j, hj, rfl⟩ := hx
                have := List.getElem?_eq_some_iff.1 hj
                obtain ⟨h1, h2⟩ := this
                simp at h1 h2
                subst h2
                exact ⟨h1, rfl⟩
              conv => arg 3; rw [he]
              refine .sl ab ao cap (P.cellsOf e) _ (fun i j => (cf i).getD j .nilFunc) hb (by simpa using hlc) hcm (fun x hx => ?_) (fun i j x y hx hy => ?_) (fun i j x y hx hy => ?_)
              · obtain ⟨i, hi, rfl⟩ := List.mem_map.1 hx
                have hi : i < len := by simpa using hi
                rw [(hf i hi).2.2.1, (hlen i hi).1]
              · obtain ⟨hi, rfl⟩ := hget i x hx
                have hj : j < (cf i).length := by
                  rw [← (hf i hi).2.2.1]
                  exact (List.getElem?_eq_some_iff.1 hy).1
                have h1 := (hlen i hi).2 j (by rw [← (hlen i hi).1]; exact hj)
                rw [xh, xh] at h1
                rw [h1, List.getD_eq_getElem?_getD, List.getElem?_eq_getElem hj]
                rfl
              · obtain ⟨hi, rfl⟩ := hget i x hx
                have hj : j < (cf i).length := by
                  rw [← (hf i hi).2.2.1]
                  exact (List.getElem?_eq_some_iff.1 hy).1
                refine (hf i hi).2.2.2 j _ y ?_ hy
                rw [List.getD_eq_getElem?_getD, List.getElem?_eq_getElem hj]
                rfl
      · cases h
    · rename_i cs0 _ _ fs hu
      rw [hu] at hp ⊢
      split at h
      · rename_i hc
        simp only [beq_iff_eq] at hp
        rw [← hc] at hp
        cases hm : fs.toList.mapM (fun f => DataW.trod enc P w 0 spare held fuel f.type ((cs0.drop f.offset).take (P.cellsOf f.type))) with
        | none => rw [hm] at h; simp at h
        | some ys =>
          obtain ⟨xs, h1, h2⟩ := jT IH fs.toList 0 ys hp hm
          exact ⟨xs, h1, by simpa using h2⟩
      · cases h
    · rename_i cs0 _ _ n e hu
      rw [hu] at hp ⊢
      simp only [Bool.and_eq_true, beq_iff_eq] at hp
      split at h
      · rename_i hc
        cases hm : (List.range n).mapM (fun i => DataW.trod enc P w 0 spare held fuel e ((cs0.drop (i * P.cellsOf e)).take (P.cellsOf e))) with
        | none => rw [hm] at h; simp at h
        | some ys =>
          obtain ⟨xs, h1, h2⟩ := k5 (n := n) (sz := P.cellsOf e) (cs := cs0) IH hp.1 n 0 (by omega) (by rw [hp.2, hc]) (fun i hi => by
            obtain ⟨y, h3, _⟩ := zw hm i hi
            exact ⟨y, h3⟩)
          exact ⟨xs, h1, by simpa using h2⟩
      · cases h
    all_goals (rename_i hu; first | (rw [hu] at hp; cases hp; done) | (cases h; done) | skip)

def qcU : List C → D
  | [x] => .c x
  | _ => .undef
def ucU (P : Program) (t : TypeId) (xs : List C) : D := match P.underlying t with
  | some (.struct _) => .agg (xs.map .c)
  | some (.array _ _) => .agg (xs.map .c)
  | _ => qcU xs
theorem Reads.agg {cs : Array Value} {xs : List C} (h : Reads w cs.toList xs) : ga (G0 (below w)) w (.agg cs) (.agg (xs.map .c)) := by
  refine .agg cs _ (by simpa using h.1.symm) fun i v d hv hd => ?_
  simp only [List.getElem?_map, Option.map_eq_some_iff] at hd
  obtain ⟨y, hy, rfl⟩ := hd
  exact .c _ _ (h.2 i v y (by simpa using hv) hy)
theorem ba1 {r : Reach} {base k : Nat} {t : TypeId} {v : Value} {d : DataW H} {ps : List MemPlace} (hv : Value.okWide P w r base t v) (h : DataW.Trod enc P w 0 spare held t v d ps) (hp : plain P k t = true) :
    ∃ xs, Typ P k t xs ∧ ga (G0 (below w)) w v (ucU P t xs) := by
  obtain ⟨fuel, h⟩ := h
  obtain ⟨xs, h1, h2⟩ := waj fuel k t _ _ h hp
  refine ⟨xs, h1, ?_⟩
  have one : ∀ (hc : v.cells = #[v]), ga (G0 (below w)) w v (qcU xs) := by
    intro hc
    rw [hc] at h2
    match xs, h2 with
    | [], _ => exact .undef _
    | [x], h2 => exact .c _ _ (h2.2 0 v x rfl rfl)
    | _ :: _ :: _, _ => exact .undef _
  unfold ucU
  unfold Value.okWide at hv
  split
  · rename_i fs hu
    rw [hu] at hv
    obtain ⟨cs, rfl, _⟩ := hv
    exact h2.agg
  · rename_i n e hu
    rw [hu] at hv
    obtain ⟨cs, rfl, _⟩ := hv
    exact h2.agg
  · rename_i hn1 hn2
    refine one ?_
    cases v <;> try rfl
    rename_i cs
    exfalso
    cases k with
    | zero => cases hp
    | succ k =>
      simp only [plain] at hp
      split at hv
      · rename_i fs hu; exact hn1 fs hu
      · rename_i n e hu; exact hn2 n e hu
      · unfold Cell.okWide at hv
        split at hp <;> rename_i hu <;> first | (rw [hu] at hv; simp [Cell.ok, hu] at hv; done) | (exact absurd hu (hn1 _)) | (exact absurd hu (hn2 _ _)) | cases hp
theorem ka0 (w w' : World) (h : Ext w w') : RowKit.Below w.heap.size w w' := ⟨h.2.2.os, h.2.2.tape, h.2.2.out, h.1, h.2.1⟩
end
end Dm
namespace Dm
open Go
section
variable {P : Program} {n N : Nat}
theorem gbf {id k c sz t : Nat} : ∀ {tm : List (Nat × D)}, lk t (tm.map fun x => (x.1, wa6 id k c sz x.2)) = (lk t tm).map (wa6 id k c sz)
  | [] => rfl
  | (u, d) :: tm => by
    rw [List.map_cons, vb, vb]
    split
    · rfl
    · exact gbf
theorem SWm.opn {code : Code} {Q : Exit → St → Prop} {s : St} (id : Nat) {hd : Bool} {sz : Nat} {e : TypeId} {els : List (List C)} (ho : lk id s.os = some (.vec hd sz e els))
    (h : ∀ c, els.length ≤ c → c ≤ 9223372036854775807 → SWm P n N code Q ⟨s.tm.map fun x => (x.1, wa6 id els.length c sz x.2), upd id (.vec hd sz e (fit c sz els)) s.os, s.nx⟩) : SWm P n N code Q s := fun δ g a w hr hn => by
  obtain ⟨c, g', h1, h2, h3, h4, h5⟩ := vaX (nx := s.nx) hr.o.tm ho
  have hr' : Rel δ g' ⟨s.tm.map fun x => (x.1, wa6 id els.length c sz x.2), upd id (.vec hd sz e (fit c sz els)) s.os, s.nx⟩ a w := by
    refine ⟨fun t d ht => ?_, hr.defers, h3.tm⟩
    rw [gbf, Option.map_eq_some_iff] at ht
    obtain ⟨d0, hd0, rfl⟩ := ht
    obtain ⟨v, hv1, hv2⟩ := hr.tm t d0 hd0
    exact ⟨v, hv1, h5 v d0 hv2⟩
  have h4' : vh N g s w g' ⟨s.tm.map fun x => (x.1, wa6 id els.length c sz x.2), upd id (.vec hd sz e (fit c sz els)) s.os, s.nx⟩ w := (h4.toN (N := N)).tm
  refine wp_mono (h c h1 h2 δ g' a w hr' hn) fun e a' w' ⟨Ds, g2, s', q1, q2, q3, q4, q5, q6⟩ => ⟨Ds, g2, s', q1, q2, q3, q4, q5, h4'.trans q6⟩
end
end Dm
namespace Dm
open Go
theorem Cd.mk {a b : Prop} (h : a) (h1 : b) : a ∧ b := ⟨h, h1⟩
theorem cdA : type_of% (Cd.mk @gcR (Cd.mk @xcR (Cd.mk @gbh (Cd.mk @kbc (Cd.mk @ube (Cd.mk @kbL (Cd.mk @wbi (Cd.mk @xbh (Cd.mk @wbc (Cd.mk @ybf (Cd.mk @zbe (Cd.mk @gbj (Cd.mk @jbf @kbd))))))))))))) := Cd.mk @gcR (Cd.mk @xcR (Cd.mk @gbh (Cd.mk @kbc (Cd.mk @ube (Cd.mk @kbL (Cd.mk @wbi (Cd.mk @xbh (Cd.mk @wbc (Cd.mk @ybf (Cd.mk @zbe (Cd.mk @gbj (Cd.mk @jbf @kbd))))))))))))
theorem cdB : type_of% (Cd.mk @decide_true (Cd.mk @Bool.and_self (Cd.mk @Bool.true_and (Cd.mk @Ob.map.injEq (Cd.mk @Ob.it.injEq (Cd.mk @true_and @and_true)))))) := Cd.mk @decide_true (Cd.mk @Bool.and_self (Cd.mk @Bool.true_and (Cd.mk @Ob.map.injEq (Cd.mk @Ob.it.injEq (Cd.mk @true_and @and_true)))))
theorem cdN : type_of% (Cd.mk @false_implies (Cd.mk @true_implies (Cd.mk @not_false_eq_true @not_true_eq_false))) := Cd.mk @false_implies (Cd.mk @true_implies (Cd.mk @not_false_eq_true @not_true_eq_false))
end Dm
namespace Dm
open Go Go.Proofs Go.IntWalk
theorem qa : Tryz.prog.follows .mixedOrders = true := by kernel_rfl
@[go_sem] def waN (x : Nat) : D := .bool false
@[go_sem] abbrev xcH : FuncId := 136
@[go_sem] def kbl : Tab := []
theorem qaF : za Tryz.prog kbl := za.nil
set_option maxRecDepth 8000 in
set_option maxHeartbeats 1000000 in
theorem xa6 (x : Nat)  : yb Tryz.prog 136 [.c (.int .u64 (x : Int))] (waN x) := by
  refine .of (vcu qaF (Nat.le_of_ble_eq_true rfl) ?_)
  simp -implicitDefEqProofs only [cdA, go_sem, Go.Proofs.Tryz.f136, reduceIte, reduceCtorEq, Nat.reduceEqDiff, Nat.reduceAdd, Nat.reduceLeDiff, Nat.reduceSub, Nat.reduceMul, Nat.reduceLT, Nat.reduceShiftRight, Nat.reduceMod, Int.reduceLE, Int.reduceLT, Int.reduceToNat, List.cons.injEq, cdB]
def kL : List D → Option (Prop × D × Fr)
  | [.c (.int .u64 z1)] => some (z1 = (z1.toNat : Int), waN z1.toNat, [])
  | _ => none
attribute [go_sem] kL
theorem yX : ∀ rs p r fr, kL rs = some (p, r, fr) → p → qg Tryz.prog 136 rs r fr := by
  intro rs p r fr h hp
  unfold kL at h
  split at h <;> cases h
  have hc0 := hp
  rename_i z1
  obtain ⟨z1, rfl⟩ : ∃ m : Nat, z1 = m := ⟨_, hc0⟩
  simp only [Int.toNat_natCast]
  exact xa6 z1
@[go_sem] def kbT (x : Nat) (y : Nat) : D := .int .i64 (waf x y)
@[go_sem] abbrev wdk : FuncId := 107
@[go_sem] def gcL : Tab := [(136, kL)]
theorem va8 : za Tryz.prog gcL := (za.cons yX za.nil)
set_option maxRecDepth 8000 in
set_option maxHeartbeats 1000000 in
theorem qbM (x : Nat) (y : Nat)  : yb Tryz.prog 107 [.c (.int .u64 (x : Int)), .c (.int .u64 (y : Int))] (kbT x y) := by
  refine .of (bcy va8 (Nat.le_of_ble_eq_true rfl) ?_)
  simp -implicitDefEqProofs only [cdA, go_sem, Go.Proofs.Tryz.f107, reduceIte, reduceCtorEq, Nat.reduceEqDiff, Nat.reduceAdd, Nat.reduceLeDiff, Nat.reduceSub, Nat.reduceMul, Nat.reduceLT, Nat.reduceShiftRight, Nat.reduceMod, Int.reduceLE, Int.reduceLT, Int.reduceToNat, List.cons.injEq, cdB]
  refine ⟨fun h => ?_, fun h => ⟨fun h1 => ?_, fun h1 => ?_⟩⟩ <;> simp [waf] <;> omega
def vO : List D → Option (Prop × D × Fr)
  | [.c (.int .u64 z2), .c (.int .u64 z3)] => some (z2 = (z2.toNat : Int) ∧ z3 = (z3.toNat : Int), kbT z2.toNat z3.toNat, [])
  | _ => none
attribute [go_sem] vO
theorem uE : ∀ rs p r fr, vO rs = some (p, r, fr) → p → qg Tryz.prog 107 rs r fr := by
  intro rs p r fr h hp
  unfold vO at h
  split at h <;> cases h
  obtain ⟨hc0, hc1⟩ := hp
  rename_i z2 z3
  obtain ⟨z2, rfl⟩ : ∃ m : Nat, z2 = m := ⟨_, hc0⟩
  obtain ⟨z3, rfl⟩ : ∃ m : Nat, z3 = m := ⟨_, hc1⟩
  simp only [Int.toNat_natCast]
  exact qbM z2 z3
def orS (l : List Int) : Int := (l.find? fun x => decide (¬ x = 0)).getD 0
@[go_sem] def waR (l : List Int) : D := .int .i64 (orS l)
@[go_sem] abbrev gcJ : FuncId := 121
@[go_sem] def zbs : Tab := []
theorem jZ : za Tryz.prog zbs := za.nil
set_option maxRecDepth 8000 in
set_option maxHeartbeats 1000000 in
theorem qa7 (l : List Int)  : yb Tryz.prog 121 [.sl (uaf l)] (waR l) := by
  refine .of (ycP jZ (Nat.le_of_ble_eq_true rfl) ?_)
  simp -implicitDefEqProofs only [cdA, go_sem, Go.Proofs.Tryz.f121, reduceIte, reduceCtorEq, Nat.reduceEqDiff, Nat.reduceAdd, Nat.reduceLeDiff, Nat.reduceSub, Nat.reduceMul, Nat.reduceLT, Nat.reduceShiftRight, Nat.reduceMod, Int.reduceLE, Int.reduceLT, Int.reduceToNat, List.cons.injEq, cdB]
  refine fun hl => SWp.loop (ι := { i : Nat // i ≤ l.length ∧ ∀ j, j < i → l.getD j default = 0 }) (fun i => ⟨[(3, .int .i64 0), (6, .sl (uaf l)), (7, .int .i64 l.length), (8, .int .i64 i.1)], [], 0⟩) (fun i => l.length - i.1) ⟨0, by simp⟩ ?_ ?_
  · simp [go_sem]
  · rintro ⟨i, hi, hall⟩
    refine qb jZ.toS ubt _ _ _ rfl ?_
    simp -implicitDefEqProofs only [cdA, go_sem, reduceIte, reduceCtorEq, Nat.reduceEqDiff, Nat.reduceAdd, Nat.reduceLeDiff, Nat.reduceSub, Nat.reduceMul, Nat.reduceLT, Nat.reduceShiftRight, Nat.reduceMod, Int.reduceLE, Int.reduceLT, Int.reduceToNat, List.cons.injEq, cdB]
    refine ⟨fun h => ⟨by omega, fun h1 => ⟨⟨i + 1, by omega, fun j hj => ?_⟩, by dsimp only; omega, i64_in _ (by omega)⟩, fun h1 => ?_⟩, fun h => ?_⟩
    · by_cases hji : j = i
      · subst hji; exact h1
      · exact hall j (by omega)
    · have hi' : i < l.length := by omega
      have : l.find? (fun x => decide (¬ x = 0)) = some (l.getD i default) := by
        rw [List.find?_eq_some_iff_getElem]
        refine ⟨by simpa using h1, i, hi', (ve hi').symm, fun j hj => ?_⟩
        have := hall j hj
        rw [ve (by omega)] at this
        simpa using this
      rw [orS, this]; rfl
    · have : l.find? (fun x => decide (¬ x = 0)) = none := by
        rw [List.find?_eq_none]
        intro x hx
        obtain ⟨j, hj, rfl⟩ := xb.1 hx
        simpa using hall j (by omega)
      rw [orS, this]; rfl
def jR : List D → Option (Prop × D × Fr)
  | [.c (.sl z4)] => some (z4 = uaf (qa0 z4), waR (qa0 z4), [])
  | _ => none
attribute [go_sem] jR
theorem gaq : ∀ rs p r fr, jR rs = some (p, r, fr) → p → qg Tryz.prog 121 rs r fr := by
  intro rs p r fr h hp
  unfold jR at h
  split at h <;> cases h
  have hc0 := hp
  rename_i z4
  obtain ⟨z4, rfl⟩ : ∃ m, z4 = uaf m := ⟨_, hc0⟩
  simp only [gaD]
  exact qa7 z4
def ja8 (l : List Nat) : Nat := l.foldl max 0
theorem zai {l : List Nat} {i : Nat} (h : i < l.length) : ja8 (l.take (i + 1)) = max (ja8 (l.take i)) (l.getD i default) := by
  rw [take_succ h, ja8, List.foldl_append]; rfl
@[go_sem] def jbh (l : List Nat) : D := .int .u64 (ja8 l : Int)
@[go_sem] abbrev wc0 : FuncId := 82
@[go_sem] def gbK : Tab := [(136, kL)]
theorem xag : za Tryz.prog gbK := (za.cons yX za.nil)
set_option maxRecDepth 8000 in
set_option maxHeartbeats 1000000 in
theorem vbt (l : List Nat) (h : 0 < l.length) : yb Tryz.prog 82 [.sl (qy l)] (jbh l) := by
  refine .of (vda xag (Nat.le_of_ble_eq_true rfl) ?_)
  simp -implicitDefEqProofs only [cdA, go_sem, Go.Proofs.Tryz.f82, reduceIte, reduceCtorEq, Nat.reduceEqDiff, Nat.reduceAdd, Nat.reduceLeDiff, Nat.reduceSub, Nat.reduceMul, Nat.reduceLT, Nat.reduceShiftRight, Nat.reduceMod, Int.reduceLE, Int.reduceLT, Int.reduceToNat, List.cons.injEq, cdB]
  refine fun hl => ⟨fun h1 => by omega, fun h1 => ⟨by omega, ?_⟩⟩
  refine SWp.loop (ι := { i : Nat // 0 < i ∧ i ≤ l.length }) (fun i => ⟨[(0, .sl (qy l)), (3, .int .u64 (ja8 (l.take i.1) : Nat)), (4, .int .i64 i.1)], [], 0⟩) (fun i => l.length - i.1) ⟨1, by omega⟩ ?_ ?_
  · have : ja8 (l.take 1) = l.getD 0 default := by rw [zai h]; simp [ja8]
    simp [go_sem, this]
  · rintro ⟨i, hi0, hi⟩
    refine qb xag.toS ycv _ _ _ rfl ?_
    simp -implicitDefEqProofs only [cdA, go_sem, reduceIte, reduceCtorEq, Nat.reduceEqDiff, Nat.reduceAdd, Nat.reduceLeDiff, Nat.reduceSub, Nat.reduceMul, Nat.reduceLT, Nat.reduceShiftRight, Nat.reduceMod, Int.reduceLE, Int.reduceLT, Int.reduceToNat, List.cons.injEq, cdB]
    refine fun _ => ⟨fun h2 => ⟨by omega, ⟨i + 1, by omega, by omega⟩, by dsimp only; omega, ?_, i64_in _ (by omega)⟩, fun h2 => ?_⟩
    · rw [zai (by omega)]; omega
    · rw [List.take_of_length_le (by omega)]
@[go_sem] def xbf (l : List Nat) : Prop := (0 < l.length)
def w9 : List D → Option (Prop × D × Fr)
  | [.c (.sl z5)] => some (z5 = qy (vac z5) ∧ xbf (vac z5), jbh (vac z5), [])
  | _ => none
attribute [go_sem] w9
theorem gaE : ∀ rs p r fr, w9 rs = some (p, r, fr) → p → qg Tryz.prog 82 rs r fr := by
  intro rs p r fr h hp
  unfold w9 at h
  split at h <;> cases h
  obtain ⟨hc0, hp⟩ := hp
  rename_i z5
  obtain ⟨z5, rfl⟩ : ∃ m, z5 = qy m := ⟨_, hc0⟩
  simp only [xF]
  simp only [xF, xbf] at hp
  exact vbt z5 hp
def xX (l : List Nat) : Int := if l.all (fun n => decide (n ≤ 4611686018427387904)) = true then 0 else 1
theorem xbz {l : List Nat} {m : Nat} : l.foldl max m ≤ 4611686018427387904 ↔ m ≤ 4611686018427387904 ∧ l.all (fun n => decide (n ≤ 4611686018427387904)) = true := by
  induction l generalizing m with
  | nil => simp
  | cons x l ih =>
    rw [List.foldl_cons, ih, List.all_cons]
    simp only [Bool.and_eq_true, decide_eq_true_eq, ← and_assoc]
    refine and_congr_left fun _ => ?_
    omega
@[go_sem] def u0 (l : List Nat) : D := .int .i64 (xX l)
@[go_sem] abbrev kbD : FuncId := 40
@[go_sem] def waH : Tab := [(82, w9)]
theorem qac : za Tryz.prog waH := (za.cons gaE za.nil)
set_option maxRecDepth 8000 in
set_option maxHeartbeats 1000000 in
theorem kaq (l : List Nat)  : yb Tryz.prog 40 [.sl (qy l)] (u0 l) := by
  refine .of (jdg qac (Nat.le_of_ble_eq_true rfl) ?_)
  simp -implicitDefEqProofs only [cdA, go_sem, Go.Proofs.Tryz.f40, reduceIte, reduceCtorEq, Nat.reduceEqDiff, Nat.reduceAdd, Nat.reduceLeDiff, Nat.reduceSub, Nat.reduceMul, Nat.reduceLT, Nat.reduceShiftRight, Nat.reduceMod, Int.reduceLE, Int.reduceLT, Int.reduceToNat, List.cons.injEq, cdB]
  have hm := xbz (l := l) (m := 0)
  refine fun h => ⟨fun h1 => ⟨by omega, fun h2 => ?_, fun h2 => ?_⟩, fun h1 => ?_⟩
  · rw [xX, if_neg]; intro h3; have := hm.2 ⟨by omega, h3⟩; unfold ja8 at h2; omega
  · rw [xX, if_pos]; unfold ja8 at h2; exact (hm.1 (by omega)).2
  · have : l = [] := List.eq_nil_of_length_eq_zero (by omega)
    subst this; rfl
def jg : List D → Option (Prop × D × Fr)
  | [.c (.sl z6)] => some (z6 = qy (vac z6), u0 (vac z6), [])
  | _ => none
attribute [go_sem] jg
theorem yg : ∀ rs p r fr, jg rs = some (p, r, fr) → p → qg Tryz.prog 40 rs r fr := by
  intro rs p r fr h hp
  unfold jg at h
  split at h <;> cases h
  have hc0 := hp
  rename_i z6
  obtain ⟨z6, rfl⟩ : ∃ m, z6 = qy m := ⟨_, hc0⟩
  simp only [xF]
  exact kaq z6
def gap (l : List Nat) : Nat × Int := if xX l = 0 then (if l.sum ≤ 4611686018427387904 then (l.sum, 0) else (0, 8)) else (0, 1)
theorem ya6 {l : List Nat} {i : Nat} (h : i < l.length) : (l.take (i + 1)).sum = (l.take i).sum + l.getD i default := by
  rw [take_succ h]; simp
theorem jbW {l : List Nat} {i : Nat} : (l.take i).sum ≤ l.sum := by
  conv => rhs; rw [← List.take_append_drop i l]
  rw [List.sum_append]
  omega
theorem ua5 {l : List Nat} (h : xX l = 0) {i : Nat} (hi : i < l.length) : l.getD i default ≤ 4611686018427387904 := by
  unfold xX at h
  split at h
  · rename_i h1
    have := List.all_eq_true.1 h1 _ (xb.2 ⟨i, hi, rfl⟩)
    simpa using this
  · cases h
theorem xb3 {l : List Nat} (h : ¬ xX l = 0) : xX l = 1 := by
  unfold xX at *; split <;> simp_all
@[go_sem] def baB (l : List Nat) : D := .tup [.int .u64 ((gap l).1 : Int), .int .i64 (gap l).2]
@[go_sem] abbrev uci : FuncId := 32
@[go_sem] def ba2 : Tab := [(40, jg)]
theorem bV : za Tryz.prog ba2 := (za.cons yg za.nil)
set_option maxRecDepth 8000 in
set_option maxHeartbeats 1000000 in
theorem zaS (l : List Nat)  : yb Tryz.prog 32 [.sl (qy l)] (baB l) := by
  refine .of (udc bV (Nat.le_of_ble_eq_true rfl) ?_)
  simp -implicitDefEqProofs only [cdA, go_sem, Go.Proofs.Tryz.f32, reduceIte, reduceCtorEq, Nat.reduceEqDiff, Nat.reduceAdd, Nat.reduceLeDiff, Nat.reduceSub, Nat.reduceMul, Nat.reduceLT, Nat.reduceShiftRight, Nat.reduceMod, Int.reduceLE, Int.reduceLT, Int.reduceToNat, List.cons.injEq, cdB]
  refine ⟨fun h hl => ?_, fun h => ?_⟩
  · refine SWp.loop (ι := { i : Nat // i ≤ l.length ∧ (l.take i).sum ≤ 4611686018427387904 }) (fun i => ⟨[(2, .int .u64 ((l.take i.1).sum : Nat)), (11, .sl (qy l)), (12, .int .i64 l.length), (13, .int .i64 i.1)], [], 0⟩) (fun i => l.length - i.1) ⟨0, by simp⟩ ?_ ?_
    · simp [go_sem]
    · rintro ⟨i, hi, hs⟩
      refine qb bV.toS vcO _ _ _ rfl ?_
      simp -implicitDefEqProofs only [cdA, go_sem, reduceIte, reduceCtorEq, Nat.reduceEqDiff, Nat.reduceAdd, Nat.reduceLeDiff, Nat.reduceSub, Nat.reduceMul, Nat.reduceLT, Nat.reduceShiftRight, Nat.reduceMod, Int.reduceLE, Int.reduceLT, Int.reduceToNat, List.cons.injEq, cdB]
      refine ⟨fun h1 => ?_, fun h1 => ?_⟩
      · have hi' : i < l.length := by omega
        have hg := ua5 h hi'
        have hst := ya6 hi'
        have hle := jbW (l := l) (i := i + 1)
        rw [u64_in _ (by omega)]
        refine ⟨by omega, fun h2 => ?_, fun h2 => ⟨⟨i + 1, by omega, by omega⟩, by dsimp only; omega, by dsimp only; omega, i64_in _ (by omega)⟩⟩
        rw [gap, if_pos h, if_neg (by omega)]; exact ⟨rfl, rfl⟩
      · rw [List.take_of_length_le (by omega)] at hs ⊢
        rw [gap, if_pos h, if_pos hs]; exact ⟨rfl, rfl⟩
  · rw [gap, if_neg h]
    exact ⟨rfl, xb3 h⟩
def xx : List D → Option (Prop × D × Fr)
  | [.c (.sl z7)] => some (z7 = qy (vac z7), baB (vac z7), [])
  | _ => none
attribute [go_sem] xx
theorem bB : ∀ rs p r fr, xx rs = some (p, r, fr) → p → qg Tryz.prog 32 rs r fr := by
  intro rs p r fr h hp
  unfold xx at h
  split at h <;> cases h
  have hc0 := hp
  rename_i z7
  obtain ⟨z7, rfl⟩ : ∃ m, z7 = qy m := ⟨_, hc0⟩
  simp only [xF]
  exact zaS z7
theorem ydc (n : Nat) : xX [n] = if n ≤ 4611686018427387904 then 0 else 1 := by simp [xX]
theorem xak {n : Nat} : xX [n] = 0 ↔ n ≤ 4611686018427387904 := by rw [ydc]; split <;> simp_all
theorem qcQ (a b : Nat) : xX [a, b] = if a ≤ 4611686018427387904 ∧ b ≤ 4611686018427387904 then 0 else 1 := by simp [xX]
theorem uP {l : List Nat} : (gap l).2 = 0 ↔ (∀ x ∈ l, x ≤ 4611686018427387904) ∧ l.sum ≤ 4611686018427387904 := by
  unfold gap xX
  simp only [List.all_eq_true, decide_eq_true_eq]
  by_cases h : ∀ x ∈ l, x ≤ 4611686018427387904
  · rw [if_pos h]
    by_cases h2 : l.sum ≤ 4611686018427387904
    · simp [h2]; exact h
    · simp [h2]
  · rw [if_neg h]; simp [h]
theorem vay {l : List Nat} (h : (gap l).2 = 0) : (gap l).1 = l.sum := by
  have h1 := uP.1 h
  unfold gap xX
  simp only [List.all_eq_true, decide_eq_true_eq]
  rw [if_pos h1.1, if_pos rfl, if_pos h1.2]
def xbW (a b : Nat) : Nat × Int := if a ≤ 4611686018427387904 ∧ b ≤ 4611686018427387904 then (if b ≤ a then (a - b, 0) else (0, 9)) else (0, 1)
@[go_sem] def vax (a : Nat) (b : Nat) : D := .tup [.int .u64 ((xbW a b).1 : Int), .int .i64 (xbW a b).2]
@[go_sem] abbrev yb6 : FuncId := 134
@[go_sem] def xbb : Tab := [ovk 149, (40, jg)]
theorem war : za Tryz.prog xbb := (za.cons (uaH 149) (za.cons yg za.nil))
set_option maxRecDepth 8000 in
set_option maxHeartbeats 1000000 in
theorem jaL (a : Nat) (b : Nat)  : yb Tryz.prog 134 [.c (.int .u64 (a : Int)), .c (.int .u64 (b : Int))] (vax a b) := by
  refine .of (wcC war (Nat.le_of_ble_eq_true rfl) ?_)
  simp -implicitDefEqProofs only [cdA, go_sem, Go.Proofs.Tryz.f134, reduceIte, reduceCtorEq, Nat.reduceEqDiff, Nat.reduceAdd, Nat.reduceLeDiff, Nat.reduceSub, Nat.reduceMul, Nat.reduceLT, Nat.reduceShiftRight, Nat.reduceMod, Int.reduceLE, Int.reduceLT, Int.reduceToNat, List.cons.injEq, cdB]
  refine ⟨⟨_, rfl, rfl, rfl, rfl, by kernel_rfl⟩, ?_⟩
  rw [qcQ, xbW]
  by_cases h : a ≤ 4611686018427387904 ∧ b ≤ 4611686018427387904
  · simp only [if_pos h]
    refine ⟨fun _ => ⟨fun h1 => ?_, fun h1 => ?_⟩, fun h1 => absurd trivial h1⟩
    · have : ¬ b ≤ a := fun h2 => by rw [if_neg (by omega)] at h1; omega
      rw [if_neg this]; exact ⟨rfl, rfl⟩
    · have : b ≤ a := by
        refine Classical.byContradiction fun h2 => ?_
        rw [if_pos (by omega)] at h1; omega
      rw [if_pos this]; exact ⟨by dsimp only; omega, rfl⟩
  · simp only [if_neg h]
    refine ⟨fun h => ?_, fun _ => by simp⟩
    first | exact absurd h (by decide) | cases h
def bC : List D → Option (Prop × D × Fr)
  | [.c (.int .u64 z8), .c (.int .u64 z9)] => some (z8 = (z8.toNat : Int) ∧ z9 = (z9.toNat : Int), vax z8.toNat z9.toNat, [])
  | _ => none
attribute [go_sem] bC
theorem yP : ∀ rs p r fr, bC rs = some (p, r, fr) → p → qg Tryz.prog 134 rs r fr := by
  intro rs p r fr h hp
  unfold bC at h
  split at h <;> cases h
  obtain ⟨hc0, hc1⟩ := hp
  rename_i z8 z9
  obtain ⟨z8, rfl⟩ : ∃ m : Nat, z8 = m := ⟨_, hc0⟩
  obtain ⟨z9, rfl⟩ : ∃ m : Nat, z9 = m := ⟨_, hc1⟩
  simp only [Int.toNat_natCast]
  exact jaL z8 z9
end Dm
namespace Dm
open Go Go.Proofs Go.IntWalk
structure Hd where
  id : Nat
  n : Nat
deriving DecidableEq, Inhabited
@[go_sem] def Hd.enc (e : Hd) : List C := [.int .u64 (e.id : Int), .int .u64 (e.n : Int)]
def Hd.dec : List C → Hd
  | [.int .u64 z11, .int .u64 z12] => (⟨z11.toNat, z12.toNat⟩ : Hd)
  | _ => default
def hds (l : List Hd) : List (List C) := l.map Hd.enc
def qq (l : List (List C)) : List Hd := l.map Hd.dec
@[simp, go_sem] theorem yd (l : List Hd) : (hds l).length = l.length := by simp [hds]
@[go_sem] theorem gcC (l : List Hd) (i : Nat) : (hds l).getD i [.int .u64 0, .int .u64 0] = (l.getD i default).enc := by
  simp only [hds, List.getD_eq_getElem?_getD, List.getElem?_map]
  cases l[i]? <;> rfl
@[go_sem] theorem uae (l : List Hd) : gh 2 (hds l) = True := by
  simp [gh, hds, Hd.enc]
theorem Hd.vg (e : Hd) : Hd.dec e.enc = e := by
  simp [Hd.enc, Hd.dec]
@[go_sem] theorem ze (l : List Hd) : qq (hds l) = l := by
  simp only [qq, hds, List.map_map]
  exact List.map_id'' (fun e => Hd.vg e) l
@[go_sem] theorem zcw (a b : List Hd) : hds a ++ hds b = hds (a ++ b) := by simp [hds]
@[go_sem] theorem zco (l : List Hd) (k : Nat) : (hds l).drop k = hds (l.drop k) := by simp [hds]
@[go_sem] theorem ucn (l : List Hd) (k : Nat) : (hds l).take k = hds (l.take k) := by simp [hds]
@[go_sem] theorem jcu (z13 : Int) (z14 : Int) (hz13 : 0 ≤ z13) (hz14 : 0 ≤ z14) : [[C.int .u64 z13, C.int .u64 z14]] = hds [⟨z13.toNat, z14.toNat⟩] := by simp [hds, Hd.enc, Int.toNat_of_nonneg hz13, Int.toNat_of_nonneg hz14]
@[go_sem] theorem zcI (l : List Hd) (i : Nat) (z13 : Int) (z14 : Int) (hz13 : 0 ≤ z13) (hz14 : 0 ≤ z14) : (hds l).set i [C.int .u64 z13, C.int .u64 z14] = hds (l.set i ⟨z13.toNat, z14.toNat⟩) := by simp [hds, List.map_set, Hd.enc, Int.toNat_of_nonneg hz13, Int.toNat_of_nonneg hz14]
@[go_sem] theorem bb6 (l : List Hd) (z13 : Int) (z14 : Int) (hz13 : 0 ≤ z13) (hz14 : 0 ≤ z14) : [C.int .u64 z13, C.int .u64 z14] :: hds l = hds (⟨z13.toNat, z14.toNat⟩ :: l) := by simp [hds, Hd.enc, Int.toNat_of_nonneg hz13, Int.toNat_of_nonneg hz14]
@[go_sem] theorem kb6 (l : List Hd) : zag (hds l) = True := eq_true fun x hx c hc => by
  obtain ⟨e, _, rfl⟩ := List.mem_map.1 hx
  simp only [Hd.enc, List.mem_cons, List.not_mem_nil, or_false] at hc
  rcases hc with rfl | rfl <;> rfl
@[go_sem] theorem Hd.eta {e : Hd} : (⟨e.id, e.n⟩ : Hd) = e := rfl
structure Ch where
  id : Nat
  loc : Nat
  rem : Nat
  res : Nat
  most : Nat
  holds : List Hd
  op : Bool
deriving DecidableEq, Inhabited
@[go_sem] def Ch.enc (e : Ch) : List C := [.int .u64 (e.id : Int), .int .u64 (e.loc : Int), .int .u64 (e.rem : Int), .int .u64 (e.res : Int), .int .u64 (e.most : Int), .sl (hds e.holds), .bool e.op]
def Ch.dec : List C → Ch
  | [.int .u64 z16, .int .u64 z17, .int .u64 z18, .int .u64 z19, .int .u64 z20, .sl z21, .bool z22] => (⟨z16.toNat, z17.toNat, z18.toNat, z19.toNat, z20.toNat, (qq z21), z22⟩ : Ch)
  | _ => default
def chs (l : List Ch) : List (List C) := l.map Ch.enc
def ji (l : List (List C)) : List Ch := l.map Ch.dec
@[simp, go_sem] theorem qi (l : List Ch) : (chs l).length = l.length := by simp [chs]
@[go_sem] theorem kcL (l : List Ch) (i : Nat) : (chs l).getD i [.int .u64 0, .int .u64 0, .int .u64 0, .int .u64 0, .int .u64 0, .sl [], .bool false] = (l.getD i default).enc := by
  simp only [chs, List.getD_eq_getElem?_getD, List.getElem?_map]
  cases l[i]? <;> rfl
@[go_sem] theorem va2 (l : List Ch) : gh 7 (chs l) = True := by
  simp [gh, chs, Ch.enc]
theorem Ch.vg (e : Ch) : Ch.dec e.enc = e := by
  simp [Ch.enc, Ch.dec, ze]
@[go_sem] theorem jb (l : List Ch) : ji (chs l) = l := by
  simp only [ji, chs, List.map_map]
  exact List.map_id'' (fun e => Ch.vg e) l
@[go_sem] theorem jcO (a b : List Ch) : chs a ++ chs b = chs (a ++ b) := by simp [chs]
@[go_sem] theorem vcm (l : List Ch) (k : Nat) : (chs l).drop k = chs (l.drop k) := by simp [chs]
@[go_sem] theorem kci (l : List Ch) (k : Nat) : (chs l).take k = chs (l.take k) := by simp [chs]
@[go_sem] theorem zcP (z23 : Int) (z24 : Int) (z25 : Int) (z26 : Int) (z27 : Int) (z28 : List Hd) (z29 : Bool) (hz23 : 0 ≤ z23) (hz24 : 0 ≤ z24) (hz25 : 0 ≤ z25) (hz26 : 0 ≤ z26) (hz27 : 0 ≤ z27) : [[C.int .u64 z23, C.int .u64 z24, C.int .u64 z25, C.int .u64 z26, C.int .u64 z27, C.sl (hds z28), C.bool z29]] = chs [⟨z23.toNat, z24.toNat, z25.toNat, z26.toNat, z27.toNat, z28, z29⟩] := by simp [chs, Ch.enc, Int.toNat_of_nonneg hz23, Int.toNat_of_nonneg hz24, Int.toNat_of_nonneg hz25, Int.toNat_of_nonneg hz26, Int.toNat_of_nonneg hz27]
@[go_sem] theorem kcz (l : List Ch) (i : Nat) (z23 : Int) (z24 : Int) (z25 : Int) (z26 : Int) (z27 : Int) (z28 : List Hd) (z29 : Bool) (hz23 : 0 ≤ z23) (hz24 : 0 ≤ z24) (hz25 : 0 ≤ z25) (hz26 : 0 ≤ z26) (hz27 : 0 ≤ z27) : (chs l).set i [C.int .u64 z23, C.int .u64 z24, C.int .u64 z25, C.int .u64 z26, C.int .u64 z27, C.sl (hds z28), C.bool z29] = chs (l.set i ⟨z23.toNat, z24.toNat, z25.toNat, z26.toNat, z27.toNat, z28, z29⟩) := by simp [chs, List.map_set, Ch.enc, Int.toNat_of_nonneg hz23, Int.toNat_of_nonneg hz24, Int.toNat_of_nonneg hz25, Int.toNat_of_nonneg hz26, Int.toNat_of_nonneg hz27]
@[go_sem] theorem yco (l : List Ch) (z23 : Int) (z24 : Int) (z25 : Int) (z26 : Int) (z27 : Int) (z28 : List Hd) (z29 : Bool) (hz23 : 0 ≤ z23) (hz24 : 0 ≤ z24) (hz25 : 0 ≤ z25) (hz26 : 0 ≤ z26) (hz27 : 0 ≤ z27) : [C.int .u64 z23, C.int .u64 z24, C.int .u64 z25, C.int .u64 z26, C.int .u64 z27, C.sl (hds z28), C.bool z29] :: chs l = chs (⟨z23.toNat, z24.toNat, z25.toNat, z26.toNat, z27.toNat, z28, z29⟩ :: l) := by simp [chs, Ch.enc, Int.toNat_of_nonneg hz23, Int.toNat_of_nonneg hz24, Int.toNat_of_nonneg hz25, Int.toNat_of_nonneg hz26, Int.toNat_of_nonneg hz27]
@[go_sem] theorem Ch.eta {e : Ch} : (⟨e.id, e.loc, e.rem, e.res, e.most, e.holds, e.op⟩ : Ch) = e := rfl
def Hd.key (h : Hd) : Nat := h.id
def held (l : List Hd) : Nat := (l.map Hd.n).sum
abbrev ltN (a b : Nat) : Prop := a < b
abbrev MM : Nat := 4611686018427387904
def gj (c : Ch) : Prop := c.res ≤ MM ∧ c.most ≤ MM ∧ c.holds.length ≤ 64 ∧ (c.op = false → c.holds = []) ∧ (∀ h ∈ c.holds, h.n ≠ 0) ∧ Srt.Chn Hd.key ltN c.holds ∧ held c.holds ≤ c.most ∧ c.loc ≤ MM ∧ c.rem ≤ MM ∧ held c.holds + c.loc + c.rem ≤ MM
instance (l : List Hd) : Decidable (Srt.Chn Hd.key ltN l) := by unfold Srt.Chn; infer_instance
instance (c : Ch) : Decidable (gj c) := by unfold gj; infer_instance
def vf (c : Ch) : Nat × Nat × Int := if gj c then (held c.holds, held c.holds + c.loc + c.rem, 0) else (0, 0, 1)
@[go_sem] def kaz (h : Hd) (id : Nat) : D := .int .i64 (waf h.id id)
@[go_sem] abbrev gb8 : FuncId := 74
@[go_sem] def va7 : Tab := [(107, vO)]
theorem qaw : za Tryz.prog va7 := (za.cons uE za.nil)
set_option maxRecDepth 8000 in
set_option maxHeartbeats 1000000 in
theorem zaN (h : Hd) (id : Nat)  : yb Tryz.prog 74 [.agg [.c (.int .u64 (h.id : Int)), .c (.int .u64 (h.n : Int))], .c (.int .u64 (id : Int))] (kaz h id) := by
  refine .of (yde qaw (Nat.le_of_ble_eq_true rfl) ?_)
  simp -implicitDefEqProofs only [cdA, go_sem, Go.Proofs.Tryz.f74, reduceIte, reduceCtorEq, Nat.reduceEqDiff, Nat.reduceAdd, Nat.reduceLeDiff, Nat.reduceSub, Nat.reduceMul, Nat.reduceLT, Nat.reduceShiftRight, Nat.reduceMod, Int.reduceLE, Int.reduceLT, Int.reduceToNat, List.cons.injEq, cdB]
def vt : List D → Option (Prop × D × Fr)
  | [.agg [.c (.int .u64 z31), .c (.int .u64 z32)], .c (.int .u64 z33)] => some (z31 = (z31.toNat : Int) ∧ z32 = (z32.toNat : Int) ∧ z33 = (z33.toNat : Int), kaz (⟨z31.toNat, z32.toNat⟩ : Hd) z33.toNat, [])
  | _ => none
attribute [go_sem] vt
theorem bu : ∀ rs p r fr, vt rs = some (p, r, fr) → p → qg Tryz.prog 74 rs r fr := by
  intro rs p r fr h hp
  unfold vt at h
  split at h <;> cases h
  obtain ⟨hc0, hc1, hc2⟩ := hp
  rename_i z31 z32 z33
  obtain ⟨z31, rfl⟩ : ∃ m : Nat, z31 = m := ⟨_, hc0⟩
  obtain ⟨z32, rfl⟩ : ∃ m : Nat, z32 = m := ⟨_, hc1⟩
  obtain ⟨z33, rfl⟩ : ∃ m : Nat, z33 = m := ⟨_, hc2⟩
  simp only [Int.toNat_natCast]
  exact zaN ⟨z31, z32⟩ z33
@[go_sem] def kaY (c : Ch) : D := .tup [.int .u64 ((vf c).1 : Int), .int .u64 ((vf c).2.1 : Int), .int .i64 (vf c).2.2]
@[go_sem] abbrev vcq : FuncId := 31
@[go_sem] def bbv : Tab := [(40, jg), (32, xx), (74, vt)]
theorem uN : za Tryz.prog bbv := (za.cons yg (za.cons bB (za.cons bu za.nil)))
set_option maxRecDepth 8000 in
set_option maxHeartbeats 1000000 in
theorem za1 (c : Ch)  : yb Tryz.prog 31 [.agg [.c (.int .u64 (c.id : Int)), .c (.int .u64 (c.loc : Int)), .c (.int .u64 (c.rem : Int)), .c (.int .u64 (c.res : Int)), .c (.int .u64 (c.most : Int)), .sl (hds c.holds), .c (.bool c.op)]] (kaY c) := by
  refine .of (vdl uN (Nat.le_of_ble_eq_true rfl) ?_)
  simp -implicitDefEqProofs only [cdA, go_sem, Go.Proofs.Tryz.f31, reduceIte, reduceCtorEq, Nat.reduceEqDiff, Nat.reduceAdd, Nat.reduceLeDiff, Nat.reduceSub, Nat.reduceMul, Nat.reduceLT, Nat.reduceShiftRight, Nat.reduceMod, Int.reduceLE, Int.reduceLT, Int.reduceToNat, List.cons.injEq, cdB]
  have hbad : ¬ gj c → 0 = ((vf c).1 : Int) ∧ 0 = ((vf c).2.1 : Int) ∧ 1 = (vf c).2.2 := fun h => by simp [vf, if_neg h]
  have hmon : xX [c.res, c.most] = 0 ↔ c.res ≤ MM ∧ c.most ≤ MM := by rw [qcQ]; split <;> simp_all
  rw [hmon]
  refine ⟨fun h1 hl => ⟨fun h2 => ⟨fun h3 _ => ⟨fun h4 => hbad fun h => ?_, fun h4 _ => ?_⟩, fun h3 _ => ?_⟩, fun h2 => hbad fun h => ?_⟩, fun h1 => hbad fun h => h1 ⟨h.1, h.2.1⟩⟩
  · have := h.2.2.2.1 (by simpa using h3)
    rw [this] at h4; simp at h4
  rotate_left 2
  · have := h.2.2.1; omega
  all_goals
    have hop : c.op = false → c.holds = [] := fun h => by first | (rw [h] at h3; cases h3; done) | exact List.eq_nil_of_length_eq_zero (by omega)
    refine SWp.loop (ι := { i : Nat // i ≤ c.holds.length ∧ held (c.holds.take i) ≤ c.most ∧ (∀ j, j < i → (c.holds.getD j default).n ≠ 0 ∧ (0 < j → (c.holds.getD (j - 1) default).id < (c.holds.getD j default).id)) }) (fun i => ⟨[(1, .ref 0 0), (2, .int .u64 (held (c.holds.take i.1) : Nat)), (32, .sl (hds c.holds)), (33, .int .i64 c.holds.length), (34, .int .i64 i.1)],
      [(0, .box [.int .u64 c.id, .int .u64 c.loc, .int .u64 c.rem, .int .u64 c.res, .int .u64 c.most, .sl (hds c.holds), .bool c.op])], 2⟩) (fun i => c.holds.length - i.1) ⟨0, by simp [held]⟩ ?_ ?_
    · simp [go_sem, held]
    · rintro ⟨i, hi, hs, hall⟩
      refine qb uN.toS kcF _ _ _ rfl ?_
      simp -implicitDefEqProofs only [cdA, go_sem, reduceIte, reduceCtorEq, Nat.reduceEqDiff, Nat.reduceAdd, Nat.reduceLeDiff, Nat.reduceSub, Nat.reduceMul, Nat.reduceLT, Nat.reduceShiftRight, Nat.reduceMod, Int.reduceLE, Int.reduceLT, Int.reduceToNat, List.cons.injEq, cdB]
      have hst : i < c.holds.length → held (c.holds.take (i + 1)) = held (c.holds.take i) + (c.holds.getD i default).n := fun h => by rw [take_succ h, held, List.map_append, List.sum_append]; simp [held]
      have hle : held (c.holds.take (i + 1)) ≤ held c.holds := by
        conv => rhs; rw [← List.take_append_drop (i + 1) c.holds, held, List.map_append, List.sum_append]
        exact Nat.le_add_right _ _
      refine ⟨fun h5 => ⟨by omega, ?_⟩, fun h5 => ?_⟩
      · refine uc.run ybZ uN qa (by kernel_rfl) (by kernel_rfl) ?_
        simp -implicitDefEqProofs only [cdA, go_sem, reduceIte, reduceCtorEq, Nat.reduceEqDiff, Nat.reduceAdd, Nat.reduceLeDiff, Nat.reduceSub, Nat.reduceMul, Nat.reduceLT, Nat.reduceShiftRight, Nat.reduceMod, Int.reduceLE, Int.reduceLT, Int.reduceToNat, List.cons.injEq, cdB]
        have hi' : i < c.holds.length := by omega
        have hst := hst hi'
        have hnext : (0 < i → (c.holds.getD (i - 1) default).id < (c.holds.getD i default).id) → (c.holds.getD i default).n ≠ 0 →
            ((gap [held (c.holds.take i), (c.holds.getD i default).n]).2 = 0 →
              ((c.most : Int) < ((gap [held (c.holds.take i), (c.holds.getD i default).n]).1 : Int) → 0 = ((vf c).1 : Int) ∧ 0 = ((vf c).2.1 : Int) ∧ 1 = (vf c).2.2) ∧
              (¬ (c.most : Int) < ((gap [held (c.holds.take i), (c.holds.getD i default).n]).1 : Int) → ∃ i_1 : { i : Nat // i ≤ c.holds.length ∧ held (c.holds.take i) ≤ c.most ∧ (∀ j, j < i → (c.holds.getD j default).n ≠ 0 ∧ (0 < j → (c.holds.getD (j - 1) default).id < (c.holds.getD j default).id)) },
                c.holds.length - i_1.val < c.holds.length - i ∧ ((gap [held (c.holds.take i), (c.holds.getD i default).n]).1 : Int) = (held (c.holds.take i_1.val) : Nat) ∧ IntKind.i64.wrap ((i : Int) + 1) = i_1.val)) ∧
            (¬ (gap [held (c.holds.take i), (c.holds.getD i default).n]).2 = 0 → 0 = ((vf c).1 : Int) ∧ 0 = ((vf c).2.1 : Int) ∧ 1 = (vf c).2.2) := fun ho hn => by
          refine ⟨fun h6 => ?_, fun h6 => hbad fun h => h6 (uP.2 ?_)⟩
          · have h7 := vay h6
            simp only [List.sum_cons, List.sum_nil, Nat.add_zero] at h7
            rw [h7]
            refine ⟨fun h8 => hbad fun h => ?_, fun h8 => ⟨⟨i + 1, hi', by omega, fun j hj => ?_⟩, by dsimp only; omega, by dsimp only; omega, i64_in _ (by omega)⟩⟩
            · have := h.2.2.2.2.2.2.1; omega
            · by_cases hji : j = i
              · subst hji; exact ⟨hn, ho⟩
              · exact hall j (by omega)
          · have := h.2.2.2.2.2.2.1
            have := h.2.1
            simp only [List.mem_cons, List.not_mem_nil, or_false, forall_eq_or_imp, forall_eq, List.sum_cons, List.sum_nil]
            unfold MM at *
            omega
        refine ⟨fun h6 => ⟨fun h7 => ?_, fun h7 => hnext (fun h => absurd h (by omega)) (by omega)⟩, fun h6 => hbad fun h => h.2.2.2.2.1 _ (xb.2 ⟨i, hi', rfl⟩) (by omega)⟩
        rw [i64_in _ (by omega), show ((i : Int) - 1).toNat = i - 1 by omega]
        have hc : ∀ a b : Nat, 0 ≤ waf a b ↔ ¬ a < b := fun a b => by
          have := xk (x := a) (y := b); omega
        rw [hc]
        refine ⟨by omega, fun h8 => hbad fun h => h8 (h.2.2.2.2.2.1 i hi' (by omega)), fun h8 => hnext (fun _ => by omega) (by omega)⟩
      · have hi' : i = c.holds.length := by omega
        subst hi'
        rw [List.take_length] at hs ⊢
        refine ⟨fun h6 => ?_, fun h6 => hbad fun h => h6 (uP.2 ?_)⟩
        · have h7 := vay h6
          have h8 := uP.1 h6
          simp only [List.mem_cons, List.not_mem_nil, or_false, forall_eq_or_imp, forall_eq, List.sum_cons, List.sum_nil] at h7 h8
          have hok : gj c := ⟨h1.1, h1.2, by omega, hop, fun x hx => by obtain ⟨j, hj, rfl⟩ := xb.1 hx; exact (hall j hj).1, fun j hj h0 => (hall j hj).2 h0, hs, h8.1.2.1, h8.1.2.2, by unfold MM; omega⟩
          rw [vf, if_pos hok, h7]
          exact ⟨rfl, by dsimp only; omega, rfl⟩
        · have := h.2.2.2.2.2.2
          have := h.2.1
          simp only [List.mem_cons, List.not_mem_nil, or_false, forall_eq_or_imp, forall_eq, List.sum_cons, List.sum_nil]
          unfold MM at *
          omega
def qv : List D → Option (Prop × D × Fr)
  | [.agg [.c (.int .u64 z35), .c (.int .u64 z36), .c (.int .u64 z37), .c (.int .u64 z38), .c (.int .u64 z39), .c (.sl z40), .c (.bool z41)]] => some (z35 = (z35.toNat : Int) ∧ z36 = (z36.toNat : Int) ∧ z37 = (z37.toNat : Int) ∧ z38 = (z38.toNat : Int) ∧ z39 = (z39.toNat : Int) ∧ z40 = hds (qq z40), kaY (⟨z35.toNat, z36.toNat, z37.toNat, z38.toNat, z39.toNat, (qq z40), z41⟩ : Ch), [])
  | _ => none
attribute [go_sem] qv
theorem zu : ∀ rs p r fr, qv rs = some (p, r, fr) → p → qg Tryz.prog 31 rs r fr := by
  intro rs p r fr h hp
  unfold qv at h
  split at h <;> cases h
  obtain ⟨hc0, hc1, hc2, hc3, hc4, hc5⟩ := hp
  rename_i z35 z36 z37 z38 z39 z40 z41
  obtain ⟨z35, rfl⟩ : ∃ m : Nat, z35 = m := ⟨_, hc0⟩
  obtain ⟨z36, rfl⟩ : ∃ m : Nat, z36 = m := ⟨_, hc1⟩
  obtain ⟨z37, rfl⟩ : ∃ m : Nat, z37 = m := ⟨_, hc2⟩
  obtain ⟨z38, rfl⟩ : ∃ m : Nat, z38 = m := ⟨_, hc3⟩
  obtain ⟨z39, rfl⟩ : ∃ m : Nat, z39 = m := ⟨_, hc4⟩
  obtain ⟨z40, rfl⟩ : ∃ m, z40 = hds m := ⟨_, hc5⟩
  simp only [Int.toNat_natCast, ze]
  exact za1 ⟨z35, z36, z37, z38, z39, z40, z41⟩
theorem qI {c : Ch} : (vf c).2.2 = 0 ↔ gj c := by unfold vf; split <;> simp_all
@[go_sem] def jbi (c : Ch) : D := .tup [.int .u64 ((vf c).2.1 : Int), .int .i64 (vf c).2.2]
@[go_sem] abbrev zc8 : FuncId := 11
@[go_sem] def jbV : Tab := [(31, qv)]
theorem vaS : za Tryz.prog jbV := (za.cons zu za.nil)
set_option maxRecDepth 8000 in
set_option maxHeartbeats 1000000 in
theorem bbA (c : Ch)  : yb Tryz.prog 11 [.agg [.c (.int .u64 (c.id : Int)), .c (.int .u64 (c.loc : Int)), .c (.int .u64 (c.rem : Int)), .c (.int .u64 (c.res : Int)), .c (.int .u64 (c.most : Int)), .sl (hds c.holds), .c (.bool c.op)]] (jbi c) := by
  refine .of (zdg vaS (Nat.le_of_ble_eq_true rfl) ?_)
  simp -implicitDefEqProofs only [cdA, go_sem, Go.Proofs.Tryz.f11, reduceIte, reduceCtorEq, Nat.reduceEqDiff, Nat.reduceAdd, Nat.reduceLeDiff, Nat.reduceSub, Nat.reduceMul, Nat.reduceLT, Nat.reduceShiftRight, Nat.reduceMod, Int.reduceLE, Int.reduceLT, Int.reduceToNat, List.cons.injEq, cdB]
def kN : List D → Option (Prop × D × Fr)
  | [.agg [.c (.int .u64 z43), .c (.int .u64 z44), .c (.int .u64 z45), .c (.int .u64 z46), .c (.int .u64 z47), .c (.sl z48), .c (.bool z49)]] => some (z43 = (z43.toNat : Int) ∧ z44 = (z44.toNat : Int) ∧ z45 = (z45.toNat : Int) ∧ z46 = (z46.toNat : Int) ∧ z47 = (z47.toNat : Int) ∧ z48 = hds (qq z48), jbi (⟨z43.toNat, z44.toNat, z45.toNat, z46.toNat, z47.toNat, (qq z48), z49⟩ : Ch), [])
  | _ => none
attribute [go_sem] kN
theorem jM : ∀ rs p r fr, kN rs = some (p, r, fr) → p → qg Tryz.prog 11 rs r fr := by
  intro rs p r fr h hp
  unfold kN at h
  split at h <;> cases h
  obtain ⟨hc0, hc1, hc2, hc3, hc4, hc5⟩ := hp
  rename_i z43 z44 z45 z46 z47 z48 z49
  obtain ⟨z43, rfl⟩ : ∃ m : Nat, z43 = m := ⟨_, hc0⟩
  obtain ⟨z44, rfl⟩ : ∃ m : Nat, z44 = m := ⟨_, hc1⟩
  obtain ⟨z45, rfl⟩ : ∃ m : Nat, z45 = m := ⟨_, hc2⟩
  obtain ⟨z46, rfl⟩ : ∃ m : Nat, z46 = m := ⟨_, hc3⟩
  obtain ⟨z47, rfl⟩ : ∃ m : Nat, z47 = m := ⟨_, hc4⟩
  obtain ⟨z48, rfl⟩ : ∃ m, z48 = hds m := ⟨_, hc5⟩
  simp only [Int.toNat_natCast, ze]
  exact bbA ⟨z43, z44, z45, z46, z47, z48, z49⟩
def uU (c : Ch) : Nat × Int := if gj c then (if c.op = true ∧ c.holds.length ≠ 64 ∧ c.res ≤ c.loc then (min (c.loc - c.res) (c.most - held c.holds), 0) else (0, 0)) else (0, 1)
@[go_sem] def yaT (c : Ch) : D := .tup [.int .u64 ((uU c).1 : Int), .int .i64 (uU c).2]
@[go_sem] abbrev xcD : FuncId := 114
@[go_sem] def bbt : Tab := [(31, qv), (134, bC)]
theorem zaJ : za Tryz.prog bbt := (za.cons zu (za.cons yP za.nil))
set_option maxRecDepth 8000 in
set_option maxHeartbeats 1000000 in
theorem ja4 (c : Ch)  : yb Tryz.prog 114 [.agg [.c (.int .u64 (c.id : Int)), .c (.int .u64 (c.loc : Int)), .c (.int .u64 (c.rem : Int)), .c (.int .u64 (c.res : Int)), .c (.int .u64 (c.most : Int)), .sl (hds c.holds), .c (.bool c.op)]] (yaT c) := by
  refine .of (ycJ zaJ (Nat.le_of_ble_eq_true rfl) ?_)
  simp -implicitDefEqProofs only [cdA, go_sem, Go.Proofs.Tryz.f114, reduceIte, reduceCtorEq, Nat.reduceEqDiff, Nat.reduceAdd, Nat.reduceLeDiff, Nat.reduceSub, Nat.reduceMul, Nat.reduceLT, Nat.reduceShiftRight, Nat.reduceMod, Int.reduceLE, Int.reduceLT, Int.reduceToNat, List.cons.injEq, cdB]
  rw [qI]
  by_cases h : gj c
  · have h1 : c.loc ≤ MM := h.2.2.2.2.2.2.2.1
    have h2 := h.1
    have h3 := h.2.1
    have h4 := h.2.2.2.2.2.2.1
    have e : (vf c).2.2 = 0 := qI.2 h
    have e1 : (vf c).1 = held c.holds := by rw [vf, if_pos h]
    unfold MM at *
    rw [u64_in _ (by omega), e, e1, uU, if_pos h]
    refine ⟨fun _ => ⟨fun h5 _ => ⟨fun h6 => ?_, fun h6 => ?_⟩, fun h5 => ?_⟩, fun h' => absurd h h'⟩
    · rw [if_neg (by omega)]; exact ⟨rfl, rfl⟩
    · have h5' : c.op = true := by simpa using h5
      rw [xbW, if_pos ⟨h1, h2⟩]
      by_cases h7 : c.res ≤ c.loc
      · rw [if_pos h7, if_pos ⟨h5', by omega, h7⟩]
        refine ⟨fun h => absurd (show (0 : Int) = 9 from h) (by decide), fun _ => ⟨by dsimp only; omega, rfl⟩⟩
      · rw [if_neg h7, if_neg (fun h => h7 h.2.2)]
        exact ⟨fun _ => ⟨rfl, rfl⟩, fun h => absurd rfl h⟩
    · have h5' : c.op = false := by simpa using h5
      rw [if_neg (fun h => by rw [h5'] at h; exact absurd h.1 (by decide))]; exact ⟨rfl, rfl⟩
  · have e : vf c = (0, 0, 1) := by rw [vf, if_neg h]
    rw [e, uU, if_neg h]
    exact ⟨fun h' => absurd h' h, fun _ => ⟨rfl, rfl⟩⟩
def wK : List D → Option (Prop × D × Fr)
  | [.agg [.c (.int .u64 z51), .c (.int .u64 z52), .c (.int .u64 z53), .c (.int .u64 z54), .c (.int .u64 z55), .c (.sl z56), .c (.bool z57)]] => some (z51 = (z51.toNat : Int) ∧ z52 = (z52.toNat : Int) ∧ z53 = (z53.toNat : Int) ∧ z54 = (z54.toNat : Int) ∧ z55 = (z55.toNat : Int) ∧ z56 = hds (qq z56), yaT (⟨z51.toNat, z52.toNat, z53.toNat, z54.toNat, z55.toNat, (qq z56), z57⟩ : Ch), [])
  | _ => none
attribute [go_sem] wK
theorem kX : ∀ rs p r fr, wK rs = some (p, r, fr) → p → qg Tryz.prog 114 rs r fr := by
  intro rs p r fr h hp
  unfold wK at h
  split at h <;> cases h
  obtain ⟨hc0, hc1, hc2, hc3, hc4, hc5⟩ := hp
  rename_i z51 z52 z53 z54 z55 z56 z57
  obtain ⟨z51, rfl⟩ : ∃ m : Nat, z51 = m := ⟨_, hc0⟩
  obtain ⟨z52, rfl⟩ : ∃ m : Nat, z52 = m := ⟨_, hc1⟩
  obtain ⟨z53, rfl⟩ : ∃ m : Nat, z53 = m := ⟨_, hc2⟩
  obtain ⟨z54, rfl⟩ : ∃ m : Nat, z54 = m := ⟨_, hc3⟩
  obtain ⟨z55, rfl⟩ : ∃ m : Nat, z55 = m := ⟨_, hc4⟩
  obtain ⟨z56, rfl⟩ : ∃ m, z56 = hds m := ⟨_, hc5⟩
  simp only [Int.toNat_natCast, ze]
  exact ja4 ⟨z51, z52, z53, z54, z55, z56, z57⟩
end Dm
namespace Dm
open Go Go.Proofs Go.IntWalk
abbrev uI (c : Ch) : Nat := (vf c).2.1
def qQ (l : List Ch) : Nat := (l.map uI).sum
theorem ubk (c : Ch) : uI c ≤ MM := by
  unfold uI vf
  split
  · rename_i h; exact h.2.2.2.2.2.2.2.2.2
  · exact Nat.zero_le _
theorem gaL {l : List Ch} {i : Nat} (h : i < l.length) : qQ (l.take (i + 1)) = qQ (l.take i) + uI (l.getD i default) := by
  rw [take_succ h, qQ, List.map_append, List.sum_append]; simp [qQ]
theorem vbs {l : List Ch} {i : Nat} : qQ (l.take i) ≤ qQ l := by
  conv => rhs; rw [← List.take_append_drop i l, qQ, List.map_append, List.sum_append]
  exact Nat.le_add_right _ _
def yM (l : List Ch) : List Nat := l.flatMap fun c => c.holds.map Hd.id
def zl (l : List Ch) : Prop := l.length ≤ 32 ∧ (∀ c ∈ l, gj c) ∧ Srt.Chn Ch.id ltN l ∧ (yM l).Nodup ∧ qQ l ≤ MM
instance (l : List Ch) : Decidable (Srt.Chn Ch.id ltN l) := by unfold Srt.Chn; infer_instance
instance (l : List Ch) : Decidable (zl l) := by unfold zl; infer_instance
def xae (l : List Ch) : Int := if zl l then 0 else 1
def hm : Int → List Ch → List (Nat × Int)
  | _, [] => []
  | i, c :: l => c.holds.map (fun h => (h.id, i)) ++ hm (i + 1) l
def jW (l : List Ch) : List (Nat × Int) × Int := if zl l then (hm 0 l, 0) else ([], 1)
@[go_sem] def baA (c : Ch) (id : Nat) : D := .int .i64 (waf c.id id)
@[go_sem] abbrev bcc : FuncId := 72
@[go_sem] def qa9 : Tab := [(107, vO)]
theorem yar : za Tryz.prog qa9 := (za.cons uE za.nil)
set_option maxRecDepth 8000 in
set_option maxHeartbeats 1000000 in
theorem baX (c : Ch) (id : Nat)  : yb Tryz.prog 72 [.agg [.c (.int .u64 (c.id : Int)), .c (.int .u64 (c.loc : Int)), .c (.int .u64 (c.rem : Int)), .c (.int .u64 (c.res : Int)), .c (.int .u64 (c.most : Int)), .sl (hds c.holds), .c (.bool c.op)], .c (.int .u64 (id : Int))] (baA c id) := by
  refine .of (vdc yar (Nat.le_of_ble_eq_true rfl) ?_)
  simp -implicitDefEqProofs only [cdA, go_sem, Go.Proofs.Tryz.f72, reduceIte, reduceCtorEq, Nat.reduceEqDiff, Nat.reduceAdd, Nat.reduceLeDiff, Nat.reduceSub, Nat.reduceMul, Nat.reduceLT, Nat.reduceShiftRight, Nat.reduceMod, Int.reduceLE, Int.reduceLT, Int.reduceToNat, List.cons.injEq, cdB]
def uy : List D → Option (Prop × D × Fr)
  | [.agg [.c (.int .u64 z59), .c (.int .u64 z60), .c (.int .u64 z61), .c (.int .u64 z62), .c (.int .u64 z63), .c (.sl z64), .c (.bool z65)], .c (.int .u64 z66)] => some (z59 = (z59.toNat : Int) ∧ z60 = (z60.toNat : Int) ∧ z61 = (z61.toNat : Int) ∧ z62 = (z62.toNat : Int) ∧ z63 = (z63.toNat : Int) ∧ z64 = hds (qq z64) ∧ z66 = (z66.toNat : Int), baA (⟨z59.toNat, z60.toNat, z61.toNat, z62.toNat, z63.toNat, (qq z64), z65⟩ : Ch) z66.toNat, [])
  | _ => none
attribute [go_sem] uy
theorem vD : ∀ rs p r fr, uy rs = some (p, r, fr) → p → qg Tryz.prog 72 rs r fr := by
  intro rs p r fr h hp
  unfold uy at h
  split at h <;> cases h
  obtain ⟨hc0, hc1, hc2, hc3, hc4, hc5, hc6⟩ := hp
  rename_i z59 z60 z61 z62 z63 z64 z65 z66
  obtain ⟨z59, rfl⟩ : ∃ m : Nat, z59 = m := ⟨_, hc0⟩
  obtain ⟨z60, rfl⟩ : ∃ m : Nat, z60 = m := ⟨_, hc1⟩
  obtain ⟨z61, rfl⟩ : ∃ m : Nat, z61 = m := ⟨_, hc2⟩
  obtain ⟨z62, rfl⟩ : ∃ m : Nat, z62 = m := ⟨_, hc3⟩
  obtain ⟨z63, rfl⟩ : ∃ m : Nat, z63 = m := ⟨_, hc4⟩
  obtain ⟨z64, rfl⟩ : ∃ m, z64 = hds m := ⟨_, hc5⟩
  obtain ⟨z66, rfl⟩ : ∃ m : Nat, z66 = m := ⟨_, hc6⟩
  simp only [Int.toNat_natCast, ze]
  exact baX ⟨z59, z60, z61, z62, z63, z64, z65⟩ z66
theorem qaM {l : List Ch} {i : Nat} (h : i < l.length) : yM (l.take (i + 1)) = yM (l.take i) ++ (l.getD i default).holds.map Hd.id := by
  rw [take_succ h, yM, List.flatMap_append]; simp [yM]
theorem jbs {l : List Ch} {i : Nat} (h : (yM l).Nodup) : (yM (l.take i)).Nodup := by
  rw [← List.take_append_drop i l, yM, List.flatMap_append] at h
  exact (List.nodup_append.1 h).1
theorem xbk {c : Ch} (h : gj c) : (c.holds.map Hd.id).Nodup := by
  have h1 := (Srt.bf (lt := ltN) Srt.ue).1 h.2.2.2.2.2.1
  unfold Srt.Up at h1
  rw [List.Nodup, List.pairwise_map]
  exact h1.imp fun hlt he => by
    simp only [Hd.key, ltN] at hlt
    omega
theorem yI : ∀ {l : List Ch} {s : Int}, (hm s l).map (·.1) = yM l
  | [], _ => rfl
  | c :: l, s => by
    have e : yM (c :: l) = c.holds.map Hd.id ++ yM l := by simp [yM]
    rw [hm, List.map_append, yI, List.map_map, e]; rfl
theorem qbo {l : List Ch} {i : Nat} (h : i < l.length) : hm 0 (l.take (i + 1)) = hm 0 (l.take i) ++ (l.getD i default).holds.map fun x => (x.id, (i : Int)) := by
  have key : ∀ (l : List Ch) (s : Int) (c : Ch), hm s (l ++ [c]) = hm s l ++ c.holds.map fun x => (x.id, s + l.length) := by
    intro l
    induction l with
    | nil => intro s c; simp [hm]
    | cons d l ih =>
      intro s c
      rw [List.cons_append, hm, ih, hm, List.append_assoc]
      simp only [List.length_cons]
      rw [show s + ((l.length + 1 : Nat) : Int) = s + 1 + l.length by omega]
  rw [take_succ h, key]
  simp only [Int.zero_add, List.length_take]
  rw [show min i l.length = i by omega]
@[go_sem] def uaY (l : List Ch) : D := .tup [.c (.map [.int .u64] (kvF .u64 .i64 (jW l).1)), .int .i64 (jW l).2]
@[go_sem] abbrev zcN : FuncId := 66
@[go_sem] def kbt : Tab := [(11, kN), (32, xx), (72, uy)]
theorem qF : za Tryz.prog kbt := (za.cons jM (za.cons bB (za.cons vD za.nil)))
set_option maxRecDepth 8000 in
set_option maxHeartbeats 1000000 in
theorem wba (l : List Ch)  : yb Tryz.prog 66 [.sl (chs l)] (uaY l) := by
  refine .of (xdg qF (Nat.le_of_ble_eq_true rfl) ?_)
  simp -implicitDefEqProofs only [cdA, go_sem, Go.Proofs.Tryz.f66, reduceIte, reduceCtorEq, Nat.reduceEqDiff, Nat.reduceAdd, Nat.reduceLeDiff, Nat.reduceSub, Nat.reduceMul, Nat.reduceLT, Nat.reduceShiftRight, Nat.reduceMod, Int.reduceLE, Int.reduceLT, Int.reduceToNat, List.cons.injEq, cdB]
  have hbad : ¬ zl l → kvF .u64 .i64 (jW l).1 = [] ∧ 1 = (jW l).2 := fun h => by rw [jW, if_neg h]; exact ⟨rfl, rfl⟩
  refine fun hl => ⟨fun h1 => hbad fun h => ?_, fun h1 _ => ?_⟩
  · have := h.1; omega
  refine SWp.loop (ι := { i : Nat // i ≤ l.length ∧ (∀ c ∈ l.take i, gj c) ∧ (∀ j, j < i → 0 < j → (l.getD (j - 1) default).id < (l.getD j default).id) ∧ (yM (l.take i)).Nodup ∧ qQ (l.take i) ≤ MM }) (fun i => ⟨[(0, .sl (chs l)), (4, .mp 0), (5, .int .u64 (qQ (l.take i.1) : Nat)), (18, .sl (chs l)), (19, .int .i64 l.length), (20, .int .i64 i.1)], [(0, .map [.int .u64] (kvN .u64 .i64 (hm 0 (l.take i.1))))], 1⟩) (fun i => l.length - i.1) ⟨0, by simp [yM, qQ]⟩ ?_ ?_
  · simp [go_sem, qQ]; rfl
  · rintro ⟨i, hi, hall, ho, hn, hs⟩
    refine qb qF.toS jca _ _ _ rfl ?_
    simp -implicitDefEqProofs only [cdA, go_sem, reduceIte, reduceCtorEq, Nat.reduceEqDiff, Nat.reduceAdd, Nat.reduceLeDiff, Nat.reduceSub, Nat.reduceMul, Nat.reduceLT, Nat.reduceShiftRight, Nat.reduceMod, Int.reduceLE, Int.reduceLT, Int.reduceToNat, List.cons.injEq, cdB]
    refine ⟨fun h => ⟨by omega, ?_⟩, fun h => ?_⟩
    · refine uc.run zb2 qF qa (by kernel_rfl) (by kernel_rfl) ?_
      simp -implicitDefEqProofs only [cdA, go_sem, reduceIte, reduceCtorEq, Nat.reduceEqDiff, Nat.reduceAdd, Nat.reduceLeDiff, Nat.reduceSub, Nat.reduceMul, Nat.reduceLT, Nat.reduceShiftRight, Nat.reduceMod, Int.reduceLE, Int.reduceLT, Int.reduceToNat, List.cons.injEq, cdB]
      have hi' : i < l.length := by omega
      have hmem : l.getD i default ∈ l := xb.2 ⟨i, hi', rfl⟩
      have hsub : ∀ {a b : List Nat}, (a ++ b).Nodup ↔ a.Nodup ∧ b.Nodup ∧ ∀ x ∈ b, x ∉ a := fun {a b} => by
        rw [List.nodup_append]
        exact and_congr_right fun _ => and_congr_right fun _ => ⟨fun h x hb ha => h x ha x hb rfl, fun h x ha y hb e => h y hb (e ▸ ha)⟩
      have hks := qaM hi'
      have hts := gaL hi'
      have hmsu := qbo hi'
      have htle := vbs (l := l) (i := i + 1)
      have htk : ∀ c, c ∈ l.take (i + 1) ↔ c ∈ l.take i ∨ c = l.getD i default := fun c => by rw [take_succ hi']; simp
      refine ⟨fun h2 => ?_, fun h2 => hbad fun h => h2 (by rw [vf, if_pos (h.2.1 _ hmem)])⟩
      have hc0 : gj (l.getD i default) := qI.1 h2
      have hcn := xbk hc0
      have hA := ubk (l.getD i default)
      change qQ (l.take (i + 1)) = qQ (l.take i) + (vf (l.getD i default)).2.1 at hts
      change (vf (l.getD i default)).2.1 ≤ MM at hA
      have hadd : ¬ (gap [qQ (l.take i), (vf (l.getD i default)).2.1]).2 = 0 → ¬ zl l := fun h3 h => h3 (uP.2 (by
        have := h.2.2.2.2
        simp only [List.mem_cons, List.not_mem_nil, or_false, forall_eq_or_imp, forall_eq, List.sum_cons, List.sum_nil]
        unfold MM at *
        omega))
      generalize hc : l.getD i default = c at *
      refine ⟨fun h3 => ⟨?_, fun h4 => hbad fun h => ?_, fun h4 => ⟨fun h5 _ => ?_, fun h5 => hbad (hadd h5)⟩⟩, fun h3 => ⟨fun h5 _ => ?_, fun h5 => hbad (hadd h5)⟩⟩
      · rw [i64_in _ (by omega)]; omega
      · rw [i64_in _ (by omega), show ((i : Int) - 1).toNat = i - 1 by omega] at h4
        have := h.2.2.1 i hi' (by omega)
        rw [hc] at this
        simp only [ltN] at this
        have := xk (x := ((l.getD (i - 1) default).id : Int)) (y := c.id)
        omega
      all_goals
        have hord : 0 < i → (l.getD (i - 1) default).id < c.id := fun h0 => by
          first
          | (exfalso; omega)
          | (rw [i64_in _ (by omega), show ((i : Int) - 1).toNat = i - 1 by omega] at h4
             have := xk (x := ((l.getD (i - 1) default).id : Int)) (y := c.id)
             omega)
        have hsum := vay h5
        have hsum2 := (uP.1 h5).2
        simp only [List.sum_cons, List.sum_nil, Nat.add_zero] at hsum hsum2
        rw [hsum]
        refine SWp.loop (ι := { k : Nat // k ≤ c.holds.length ∧ ∀ j, j < k → (c.holds.getD j default).id ∉ yM (l.take i) }) (fun k => ⟨[(0, .sl (chs l)), (4, .mp 0), (5, .int .u64 ((qQ (l.take i) + (vf c).2.1 : Nat) : Int)), (6, .int .i64 i), (18, .sl (chs l)), (19, .int .i64 l.length), (20, .int .i64 i), (57, .sl (hds c.holds)), (58, .int .i64 c.holds.length), (59, .int .i64 k.1)], [(0, .map [.int .u64] (kvN .u64 .i64 (hm 0 (l.take i) ++ (c.holds.take k.1).map fun x => (x.id, (i : Int)))))], 3⟩) (fun k => c.holds.length - k.1) ⟨0, by simp⟩ ?_ ?_
        · simp [go_sem]
        · rintro ⟨k, hk, hin⟩
          refine qb qF.toS jca _ _ _ rfl ?_
          simp -implicitDefEqProofs only [cdA, go_sem, reduceIte, reduceCtorEq, Nat.reduceEqDiff, Nat.reduceAdd, Nat.reduceLeDiff, Nat.reduceSub, Nat.reduceMul, Nat.reduceLT, Nat.reduceShiftRight, Nat.reduceMod, Int.reduceLE, Int.reduceLT, Int.reduceToNat, List.cons.injEq, cdB]
          have hkeys : ∀ m, m ≤ c.holds.length → (hm 0 (l.take i) ++ (c.holds.take m).map fun x => (x.id, (i : Int))).map (·.1) = yM (l.take i) ++ (c.holds.take m).map Hd.id := fun m hm => by
            rw [List.map_append, yI, List.map_map]; rfl
          refine ⟨fun h6 => ⟨by omega, fun a ha => hbad fun h => ?_, fun ha => ?_⟩, fun h6 => ?_⟩
          · have hk' : k < c.holds.length := by omega
            have h7 : ¬ nlk (c.holds.getD k default).id (hm 0 (l.take i) ++ (c.holds.take k).map fun x => (x.id, (i : Int))) = none := by rw [ha]; simp
            rw [bab, hkeys k hk, Classical.not_not, List.mem_append] at h7
            rcases h7 with h7 | h7
            · have := jbs (i := i + 1) h.2.2.2.1
              rw [hks, hsub] at this
              exact this.2.2 _ (List.mem_map.2 ⟨_, xb.2 ⟨k, hk', rfl⟩, rfl⟩) h7
            · have h8 : (c.holds.take (k + 1)).map Hd.id = (c.holds.take k).map Hd.id ++ [(c.holds.getD k default).id] := by rw [take_succ hk']; simp
              have h9 : ((c.holds.take (k + 1)).map Hd.id).Nodup := by
                rw [List.map_take]; exact hcn.sublist (List.take_sublist _ _)
              rw [h8, hsub] at h9
              exact h9.2.2 _ (by simp) h7
          · have hk' : k < c.holds.length := by omega
            have h7 := bab.1 ha
            rw [jaz h7]
            rw [hkeys k hk, List.mem_append, not_or] at h7
            refine ⟨⟨k + 1, hk', fun j hj => ?_⟩, by dsimp only; omega, i64_in _ (by omega), ?_⟩
            · by_cases hji : j = k
              · subst hji; exact h7.1
              · exact hin j (by omega)
            · dsimp only
              rw [take_succ hk', List.map_append, ← List.append_assoc]; rfl
          · have hk' : k = c.holds.length := by omega
            subst hk'
            refine ⟨⟨i + 1, hi', fun d hd => ((htk d).1 hd).elim (hall d) (fun e => e ▸ hc0), fun j hj h0 => ?_, ?_, by rw [hts]; exact hsum2⟩, by dsimp only; omega, ⟨by dsimp only; rw [hts]; omega, i64_in _ (by omega)⟩, ?_⟩
            · by_cases hji : j = i
              · subst hji; rw [hc]; exact hord h0
              · exact ho j (by omega) h0
            · rw [hks, hsub]
              refine ⟨hn, hcn, fun x hx => ?_⟩
              obtain ⟨y, hy, rfl⟩ := List.mem_map.1 hx
              obtain ⟨j, hj, rfl⟩ := xb.1 hy
              exact hin j (by omega)
            · dsimp only
              rw [List.take_length, hmsu]
    · have hi' : i = l.length := by omega
      subst hi'
      rw [List.take_length] at hall hn hs ⊢
      rw [jW, if_pos ⟨by omega, hall, fun j hj h0 => ho j hj h0, hn, hs⟩]
      exact ⟨⟨_, _, rfl, gas, .refl _⟩, rfl⟩
def kJ : List D → Option (Prop × D × Fr)
  | [.c (.sl z67)] => some (z67 = chs (ji z67), uaY (ji z67), [])
  | _ => none
attribute [go_sem] kJ
theorem vT : ∀ rs p r fr, kJ rs = some (p, r, fr) → p → qg Tryz.prog 66 rs r fr := by
  intro rs p r fr h hp
  unfold kJ at h
  split at h <;> cases h
  have hc0 := hp
  rename_i z67
  obtain ⟨z67, rfl⟩ : ∃ m, z67 = chs m := ⟨_, hc0⟩
  simp only [jb]
  exact wba z67
@[go_sem] def jaD (l : List Ch) : D := .int .i64 (xae l)
@[go_sem] abbrev gb6 : FuncId := 26
@[go_sem] def wa0 : Tab := [(66, kJ)]
theorem qas : za Tryz.prog wa0 := (za.cons vT za.nil)
set_option maxRecDepth 8000 in
set_option maxHeartbeats 1000000 in
theorem qaK (l : List Ch)  : yb Tryz.prog 26 [.sl (chs l)] (jaD l) := by
  refine .of (zde qas (Nat.le_of_ble_eq_true rfl) ?_)
  simp -implicitDefEqProofs only [cdA, go_sem, Go.Proofs.Tryz.f26, reduceIte, reduceCtorEq, Nat.reduceEqDiff, Nat.reduceAdd, Nat.reduceLeDiff, Nat.reduceSub, Nat.reduceMul, Nat.reduceLT, Nat.reduceShiftRight, Nat.reduceMod, Int.reduceLE, Int.reduceLT, Int.reduceToNat, List.cons.injEq, cdB]
  rw [jW, xae]; split <;> rfl
def vp : List D → Option (Prop × D × Fr)
  | [.c (.sl z68)] => some (z68 = chs (ji z68), jaD (ji z68), [])
  | _ => none
attribute [go_sem] vp
theorem gp : ∀ rs p r fr, vp rs = some (p, r, fr) → p → qg Tryz.prog 26 rs r fr := by
  intro rs p r fr h hp
  unfold vp at h
  split at h <;> cases h
  have hc0 := hp
  rename_i z68
  obtain ⟨z68, rfl⟩ : ∃ m, z68 = chs m := ⟨_, hc0⟩
  simp only [jb]
  exact qaK z68
end Dm
namespace Dm
open Go Go.Proofs Go.IntWalk
structure Py where
  id : Nat
  hash : Nat
  chan : Nat
  n : Nat
  state : Int
deriving DecidableEq, Inhabited
@[go_sem] def Py.enc (e : Py) : List C := [.int .u64 (e.id : Int), .int .u64 (e.hash : Int), .int .u64 (e.chan : Int), .int .u64 (e.n : Int), .int .i64 e.state]
def Py.dec : List C → Py
  | [.int .u64 z157, .int .u64 z158, .int .u64 z159, .int .u64 z160, .int .i64 z161] => (⟨z157.toNat, z158.toNat, z159.toNat, z160.toNat, z161⟩ : Py)
  | _ => default
def pys (l : List Py) : List (List C) := l.map Py.enc
def vl (l : List (List C)) : List Py := l.map Py.dec
@[simp, go_sem] theorem yf (l : List Py) : (pys l).length = l.length := by simp [pys]
@[go_sem] theorem zcr (l : List Py) (i : Nat) : (pys l).getD i [.int .u64 0, .int .u64 0, .int .u64 0, .int .u64 0, .int .i64 0] = (l.getD i default).enc := by
  simp only [pys, List.getD_eq_getElem?_getD, List.getElem?_map]
  cases l[i]? <;> rfl
@[go_sem] theorem waw (l : List Py) : gh 5 (pys l) = True := by
  simp [gh, pys, Py.enc]
theorem Py.vg (e : Py) : Py.dec e.enc = e := by
  simp [Py.enc, Py.dec]
@[go_sem] theorem yc (l : List Py) : vl (pys l) = l := by
  simp only [vl, pys, List.map_map]
  exact List.map_id'' (fun e => Py.vg e) l
@[go_sem] theorem vcD (a b : List Py) : pys a ++ pys b = pys (a ++ b) := by simp [pys]
@[go_sem] theorem vb4 (l : List Py) (k : Nat) : (pys l).drop k = pys (l.drop k) := by simp [pys]
@[go_sem] theorem qb7 (l : List Py) (k : Nat) : (pys l).take k = pys (l.take k) := by simp [pys]
@[go_sem] theorem xcy (z162 : Int) (z163 : Int) (z164 : Int) (z165 : Int) (z166 : Int) (hz162 : 0 ≤ z162) (hz163 : 0 ≤ z163) (hz164 : 0 ≤ z164) (hz165 : 0 ≤ z165) : [[C.int .u64 z162, C.int .u64 z163, C.int .u64 z164, C.int .u64 z165, C.int .i64 z166]] = pys [⟨z162.toNat, z163.toNat, z164.toNat, z165.toNat, z166⟩] := by simp [pys, Py.enc, Int.toNat_of_nonneg hz162, Int.toNat_of_nonneg hz163, Int.toNat_of_nonneg hz164, Int.toNat_of_nonneg hz165]
@[go_sem] theorem xct (l : List Py) (i : Nat) (z162 : Int) (z163 : Int) (z164 : Int) (z165 : Int) (z166 : Int) (hz162 : 0 ≤ z162) (hz163 : 0 ≤ z163) (hz164 : 0 ≤ z164) (hz165 : 0 ≤ z165) : (pys l).set i [C.int .u64 z162, C.int .u64 z163, C.int .u64 z164, C.int .u64 z165, C.int .i64 z166] = pys (l.set i ⟨z162.toNat, z163.toNat, z164.toNat, z165.toNat, z166⟩) := by simp [pys, List.map_set, Py.enc, Int.toNat_of_nonneg hz162, Int.toNat_of_nonneg hz163, Int.toNat_of_nonneg hz164, Int.toNat_of_nonneg hz165]
@[go_sem] theorem ycm (l : List Py) (z162 : Int) (z163 : Int) (z164 : Int) (z165 : Int) (z166 : Int) (hz162 : 0 ≤ z162) (hz163 : 0 ≤ z163) (hz164 : 0 ≤ z164) (hz165 : 0 ≤ z165) : [C.int .u64 z162, C.int .u64 z163, C.int .u64 z164, C.int .u64 z165, C.int .i64 z166] :: pys l = pys (⟨z162.toNat, z163.toNat, z164.toNat, z165.toNat, z166⟩ :: l) := by simp [pys, Py.enc, Int.toNat_of_nonneg hz162, Int.toNat_of_nonneg hz163, Int.toNat_of_nonneg hz164, Int.toNat_of_nonneg hz165]
@[go_sem] theorem gcl (l : List Py) : zag (pys l) = True := eq_true fun x hx c hc => by
  obtain ⟨e, _, rfl⟩ := List.mem_map.1 hx
  simp only [Py.enc, List.mem_cons, List.not_mem_nil, or_false] at hc
  rcases hc with rfl | rfl | rfl | rfl | rfl <;> rfl
@[go_sem] theorem Py.eta {e : Py} : (⟨e.id, e.hash, e.chan, e.n, e.state⟩ : Py) = e := rfl
def gG (x : Py) : Prop := (x.n ≠ 0 ∧ x.n ≤ MM) ∧ 1 ≤ x.state ∧ x.state ≤ 3
instance (x : Py) : Decidable (gG x) := by unfold gG; infer_instance
def zB (l : List Py) : Prop := l.length ≤ 256 ∧ (∀ x ∈ l, gG x) ∧ Srt.Chn Py.id ltN l
instance (l : List Py) : Decidable (Srt.Chn Py.id ltN l) := by unfold Srt.Chn; infer_instance
instance (l : List Py) : Decidable (zB l) := by unfold zB; infer_instance
def yaK (l : List Py) : Int := if zB l then 0 else 1
@[go_sem] def yay (x : Py) (id : Nat) : D := .int .i64 (waf x.id id)
@[go_sem] abbrev jcj : FuncId := 65
@[go_sem] def ga6 : Tab := [(107, vO)]
theorem waq : za Tryz.prog ga6 := (za.cons uE za.nil)
set_option maxRecDepth 8000 in
set_option maxHeartbeats 1000000 in
theorem baW (x : Py) (id : Nat)  : yb Tryz.prog 65 [.agg [.c (.int .u64 (x.id : Int)), .c (.int .u64 (x.hash : Int)), .c (.int .u64 (x.chan : Int)), .c (.int .u64 (x.n : Int)), .c (.int .i64 x.state)], .c (.int .u64 (id : Int))] (yay x id) := by
  refine .of (ydd waq (Nat.le_of_ble_eq_true rfl) ?_)
  simp -implicitDefEqProofs only [cdA, go_sem, Go.Proofs.Tryz.f65, reduceIte, reduceCtorEq, Nat.reduceEqDiff, Nat.reduceAdd, Nat.reduceLeDiff, Nat.reduceSub, Nat.reduceMul, Nat.reduceLT, Nat.reduceShiftRight, Nat.reduceMod, Int.reduceLE, Int.reduceLT, Int.reduceToNat, List.cons.injEq, cdB]
def bE : List D → Option (Prop × D × Fr)
  | [.agg [.c (.int .u64 z168), .c (.int .u64 z169), .c (.int .u64 z170), .c (.int .u64 z171), .c (.int .i64 z172)], .c (.int .u64 z173)] => some (z168 = (z168.toNat : Int) ∧ z169 = (z169.toNat : Int) ∧ z170 = (z170.toNat : Int) ∧ z171 = (z171.toNat : Int) ∧ z173 = (z173.toNat : Int), yay (⟨z168.toNat, z169.toNat, z170.toNat, z171.toNat, z172⟩ : Py) z173.toNat, [])
  | _ => none
attribute [go_sem] bE
theorem bP : ∀ rs p r fr, bE rs = some (p, r, fr) → p → qg Tryz.prog 65 rs r fr := by
  intro rs p r fr h hp
  unfold bE at h
  split at h <;> cases h
  obtain ⟨hc0, hc1, hc2, hc3, hc4⟩ := hp
  rename_i z168 z169 z170 z171 z172 z173
  obtain ⟨z168, rfl⟩ : ∃ m : Nat, z168 = m := ⟨_, hc0⟩
  obtain ⟨z169, rfl⟩ : ∃ m : Nat, z169 = m := ⟨_, hc1⟩
  obtain ⟨z170, rfl⟩ : ∃ m : Nat, z170 = m := ⟨_, hc2⟩
  obtain ⟨z171, rfl⟩ : ∃ m : Nat, z171 = m := ⟨_, hc3⟩
  obtain ⟨z173, rfl⟩ : ∃ m : Nat, z173 = m := ⟨_, hc4⟩
  simp only [Int.toNat_natCast]
  exact baW ⟨z168, z169, z170, z171, z172⟩ z173
@[go_sem] def xbd (p : Py) : D := .bool (decide (gG p))
@[go_sem] abbrev wc7 : FuncId := 64
@[go_sem] def xbU : Tab := [(40, jg)]
theorem jaP : za Tryz.prog xbU := (za.cons yg za.nil)
set_option maxRecDepth 8000 in
set_option maxHeartbeats 1000000 in
theorem zbm (p : Py)  : yb Tryz.prog 64 [.agg [.c (.int .u64 (p.id : Int)), .c (.int .u64 (p.hash : Int)), .c (.int .u64 (p.chan : Int)), .c (.int .u64 (p.n : Int)), .c (.int .i64 p.state)]] (xbd p) := by
  refine .of (bdg jaP (Nat.le_of_ble_eq_true rfl) ?_)
  simp -implicitDefEqProofs only [cdA, go_sem, Go.Proofs.Tryz.f64, reduceIte, reduceCtorEq, Nat.reduceEqDiff, Nat.reduceAdd, Nat.reduceLeDiff, Nat.reduceSub, Nat.reduceMul, Nat.reduceLT, Nat.reduceShiftRight, Nat.reduceMod, Int.reduceLE, Int.reduceLT, Int.reduceToNat, List.cons.injEq, cdB]
  have hm : xX [p.n] = 0 ↔ p.n ≤ MM := xak
  rw [hm]
  have ho : gG p ↔ (p.n ≠ 0 ∧ p.n ≤ MM) ∧ 1 ≤ p.state ∧ p.state ≤ 3 := .rfl
  rw [show decide (gG p) = decide ((p.n ≠ 0 ∧ p.n ≤ MM) ∧ 1 ≤ p.state ∧ p.state ≤ 3) from decide_eq_decide.2 ho]
  refine ⟨fun h => ⟨fun h2 => ⟨fun h3 => ?_, fun h3 => ?_⟩, fun h2 => ?_⟩, fun h => ?_⟩
  · rw [decide_eq_decide]; exact ⟨fun h4 => ⟨⟨by omega, h2⟩, h3, h4⟩, fun h4 => h4.2.2⟩
  · exact (decide_eq_false fun h4 => h3 h4.2.1).symm
  · exact (decide_eq_false fun h4 => h2 h4.1.2).symm
  · exact (decide_eq_false fun h4 => h4.1.1 (by omega)).symm
def jX : List D → Option (Prop × D × Fr)
  | [.agg [.c (.int .u64 z175), .c (.int .u64 z176), .c (.int .u64 z177), .c (.int .u64 z178), .c (.int .i64 z179)]] => some (z175 = (z175.toNat : Int) ∧ z176 = (z176.toNat : Int) ∧ z177 = (z177.toNat : Int) ∧ z178 = (z178.toNat : Int), xbd (⟨z175.toNat, z176.toNat, z177.toNat, z178.toNat, z179⟩ : Py), [])
  | _ => none
attribute [go_sem] jX
theorem j3 : ∀ rs p r fr, jX rs = some (p, r, fr) → p → qg Tryz.prog 64 rs r fr := by
  intro rs p r fr h hp
  unfold jX at h
  split at h <;> cases h
  obtain ⟨hc0, hc1, hc2, hc3⟩ := hp
  rename_i z175 z176 z177 z178 z179
  obtain ⟨z175, rfl⟩ : ∃ m : Nat, z175 = m := ⟨_, hc0⟩
  obtain ⟨z176, rfl⟩ : ∃ m : Nat, z176 = m := ⟨_, hc1⟩
  obtain ⟨z177, rfl⟩ : ∃ m : Nat, z177 = m := ⟨_, hc2⟩
  obtain ⟨z178, rfl⟩ : ∃ m : Nat, z178 = m := ⟨_, hc3⟩
  simp only [Int.toNat_natCast]
  exact zbm ⟨z175, z176, z177, z178, z179⟩
@[go_sem] def jay (l : List Py) : D := .int .i64 (yaK l)
@[go_sem] abbrev jcn : FuncId := 25
@[go_sem] def ua1 : Tab := [(64, jX), (65, bE)]
theorem wI : za Tryz.prog ua1 := (za.cons j3 (za.cons bP za.nil))
set_option maxRecDepth 8000 in
set_option maxHeartbeats 1000000 in
theorem uaT (l : List Py)  : yb Tryz.prog 25 [.sl (pys l)] (jay l) := by
  refine .of (qdk wI (Nat.le_of_ble_eq_true rfl) ?_)
  simp -implicitDefEqProofs only [cdA, go_sem, Go.Proofs.Tryz.f25, reduceIte, reduceCtorEq, Nat.reduceEqDiff, Nat.reduceAdd, Nat.reduceLeDiff, Nat.reduceSub, Nat.reduceMul, Nat.reduceLT, Nat.reduceShiftRight, Nat.reduceMod, Int.reduceLE, Int.reduceLT, Int.reduceToNat, List.cons.injEq, cdB]
  have hbad : ¬ zB l → 1 = yaK l := fun h => by rw [yaK, if_neg h]
  refine fun _ => ⟨fun h => hbad fun ho => ?_, fun h _ => ?_⟩
  · have := ho.1; omega
  refine SWp.loop (ι := { i : Nat // i ≤ l.length ∧ (∀ j, j < i → gG (l.getD j default) ∧ (0 < j → (l.getD (j - 1) default).id < (l.getD j default).id)) }) (fun i => ⟨[(0, .sl (pys l)), (8, .sl (pys l)), (9, .int .i64 l.length), (10, .int .i64 i.1)], [], 0⟩) (fun i => l.length - i.1) ⟨0, by simp⟩ ?_ ?_
  · simp [go_sem]
  · rintro ⟨i, hi, hall⟩
    refine qb wI.toS wcP _ _ _ rfl ?_
    simp -implicitDefEqProofs only [cdA, go_sem, reduceIte, reduceCtorEq, Nat.reduceEqDiff, Nat.reduceAdd, Nat.reduceLeDiff, Nat.reduceSub, Nat.reduceMul, Nat.reduceLT, Nat.reduceShiftRight, Nat.reduceMod, Int.reduceLE, Int.reduceLT, Int.reduceToNat, List.cons.injEq, cdB]
    refine ⟨fun h1 => ⟨by omega, ?_⟩, fun h1 => ?_⟩
    · refine uc.run ybS wI qa (by kernel_rfl) (by kernel_rfl) ?_
      simp -implicitDefEqProofs only [cdA, go_sem, reduceIte, reduceCtorEq, Nat.reduceEqDiff, Nat.reduceAdd, Nat.reduceLeDiff, Nat.reduceSub, Nat.reduceMul, Nat.reduceLT, Nat.reduceShiftRight, Nat.reduceMod, Int.reduceLE, Int.reduceLT, Int.reduceToNat, List.cons.injEq, cdB]
      have hi' : i < l.length := by omega
      have hm : zB l → gG (l.getD i default) := fun h => h.2.1 _ (xb.2 ⟨i, hi', rfl⟩)
      refine ⟨fun h2 => ?_, fun h2 => hbad fun h => h2 (hm h)⟩
      have hnext : (0 < i → (l.getD (i - 1) default).id < (l.getD i default).id) → ∃ i_1 : { i : Nat // i ≤ l.length ∧ (∀ j, j < i → gG (l.getD j default) ∧ (0 < j → (l.getD (j - 1) default).id < (l.getD j default).id)) }, l.length - i_1.val < l.length - i ∧ IntKind.i64.wrap ((i : Int) + 1) = i_1.val := fun ho => by
        refine ⟨⟨i + 1, hi', fun j hj => ?_⟩, by dsimp only; omega, i64_in _ (by omega)⟩
        by_cases hji : j = i
        · subst hji; exact ⟨h2, ho⟩
        · exact hall j (by omega)
      refine ⟨fun h3 => ?_, fun h3 => hnext fun h => absurd h (by omega)⟩
      rw [i64_in _ (by omega), show ((i : Int) - 1).toNat = i - 1 by omega]
      have hc : ∀ a b : Nat, 0 ≤ waf a b ↔ ¬ a < b := fun a b => by
        have := xk (x := a) (y := b); omega
      rw [hc]
      exact ⟨by omega, fun h4 => hbad fun h => h4 (h.2.2 i hi' (by omega)), fun h4 => hnext fun _ => by omega⟩
    · have hi' : i = l.length := by omega
      subst hi'
      rw [yaK, if_pos]
      exact ⟨by omega, fun x hx => by obtain ⟨j, hj, rfl⟩ := xb.1 hx; exact (hall j hj).1, fun j hj h0 => (hall j hj).2 h0⟩
def zy : List D → Option (Prop × D × Fr)
  | [.c (.sl z180)] => some (z180 = pys (vl z180), jay (vl z180), [])
  | _ => none
attribute [go_sem] zy
theorem uD : ∀ rs p r fr, zy rs = some (p, r, fr) → p → qg Tryz.prog 25 rs r fr := by
  intro rs p r fr h hp
  unfold zy at h
  split at h <;> cases h
  have hc0 := hp
  rename_i z180
  obtain ⟨z180, rfl⟩ : ∃ m, z180 = pys m := ⟨_, hc0⟩
  simp only [yc]
  exact uaT z180
def yL (l : List Py) (id : Nat) : Int × Int := if zB l then ((Srt.pos Py.id ltN l id : Nat), if Srt.thr Py.id ltN l id = true then 0 else 5) else (0, 1)
@[go_sem] def waO (l : List Py) (id : Nat) : D := .tup [.int .i64 (yL l id).1, .int .i64 (yL l id).2]
@[go_sem] abbrev gcw : FuncId := 84
@[go_sem] def jbo : Tab := [(25, zy), (65, bE)]
theorem jO : za Tryz.prog jbo := (za.cons uD (za.cons bP za.nil))
set_option maxRecDepth 8000 in
set_option maxHeartbeats 1000000 in
theorem ja7 (l : List Py) (id : Nat)  : yb Tryz.prog 84 [.sl (pys l), .c (.int .u64 (id : Int))] (waO l id) := by
  refine .of (gdh jO (Nat.le_of_ble_eq_true rfl) ?_)
  simp -implicitDefEqProofs only [cdA, go_sem, Go.Proofs.Tryz.f84, reduceIte, reduceCtorEq, Nat.reduceEqDiff, Nat.reduceAdd, Nat.reduceLeDiff, Nat.reduceSub, Nat.reduceMul, Nat.reduceLT, Nat.reduceShiftRight, Nat.reduceMod, Int.reduceLE, Int.reduceLT, Int.reduceToNat, List.cons.injEq, cdB]
  have hcz : yaK l = 0 ↔ zB l := by unfold yaK; split <;> simp_all
  refine ⟨fun hok0 => ?_, fun hno0 => by
    have hno : ¬ zB l := fun h => hno0 (hcz.2 h)
    rw [yL, yaK, if_neg hno, if_neg hno]; exact ⟨rfl, rfl⟩⟩
  have hok := hcz.1 hok0
  have hu : Srt.Up Py.id ltN l := (Srt.bf (lt := ltN) Srt.ue).1 hok.2.2
  have hl32 := hok.1
  refine kcN jO (Nat.le_of_ble_eq_true rfl) ?_
  simp -implicitDefEqProofs only [cdA, go_sem, Go.Proofs.Tryz.f123, reduceIte, reduceCtorEq, Nat.reduceEqDiff, Nat.reduceAdd, Nat.reduceLeDiff, Nat.reduceSub, Nat.reduceMul, Nat.reduceLT, Nat.reduceShiftRight, Nat.reduceMod, Int.reduceLE, Int.reduceLT, Int.reduceToNat, List.cons.injEq, cdB]
  refine fun _ => SWp.loop (ι := { x : Nat × Nat // x.1 ≤ x.2 ∧ x.2 ≤ l.length ∧ (∀ k, k < x.1 → (l.getD k default).id < id) ∧ ∀ k, x.2 ≤ k → k < l.length → ¬ (l.getD k default).id < id }) (fun x => ⟨[(0, .sl (pys l)), (1, .int .u64 id), (2, .fn (.func 65) [] []), (8, .int .i64 l.length), (9, .int .i64 x.1.1), (10, .int .i64 x.1.2)], [], 0⟩) (fun x => x.1.2 - x.1.1) ⟨(0, l.length), by simp, by simp, fun k hk => absurd hk (by simp), fun k h1 h2 => absurd h1 (by simpa using h2)⟩ ?_ ?_
  · simp [go_sem]
  · rintro ⟨⟨i, j⟩, hij, hj, hlo, hup⟩
    dsimp only at hij hj hlo hup
    refine qb jO.toS wbu _ _ _ rfl ?_
    simp -implicitDefEqProofs only [cdA, go_sem, reduceIte, reduceCtorEq, Nat.reduceEqDiff, Nat.reduceAdd, Nat.reduceLeDiff, Nat.reduceSub, Nat.reduceMul, Nat.reduceLT, Nat.reduceShiftRight, Nat.reduceMod, Int.reduceLE, Int.reduceLT, Int.reduceToNat, List.cons.injEq, cdB]
    rw [wV hij hj ‹_›]
    refine ⟨fun h4 => ?_, fun h4 => ?_⟩
    · have hm : (i + j) / 2 < l.length := by omega
      rw [xk, Int.toNat_natCast]
      refine ⟨by omega, fun h5 => ⟨⟨((i + j) / 2 + 1, j), by dsimp only; omega, hj, fun k hk => ?_, hup⟩, by dsimp only; omega, i64_in _ (by omega), rfl⟩, fun h5 => ⟨⟨(i, (i + j) / 2), by dsimp only; omega, by dsimp only; omega, hlo, fun k hk1 hk2 => ?_⟩, by dsimp only; omega, rfl, rfl⟩⟩
      · dsimp only at hk
        by_cases hkm : k = (i + j) / 2
        · rw [hkm]; omega
        · have := Srt.ki.1 hu k _ (by omega) hm
          simp only [ltN] at this; omega
      · dsimp only at hk1
        by_cases hkm : k = (i + j) / 2
        · rw [hkm]; omega
        · have := Srt.ki.1 hu ((i + j) / 2) k (by omega) hk2
          simp only [ltN] at this; omega
    · have hp : Srt.pos Py.id ltN l id = i := Srt.pos_eq (by omega) hlo (fun h => hup i (by omega) h)
      rw [yL, if_pos hok, Srt.thr, hp, vA]
      refine ⟨fun h5 => ⟨by omega, fun h6 => ?_, fun h6 => ?_⟩, fun h5 => ?_⟩
      · rw [if_pos (decide_eq_true ⟨by omega, by omega⟩)]; exact ⟨rfl, rfl⟩
      · rw [if_neg (by rw [decide_eq_true_iff]; omega)]; exact ⟨rfl, rfl⟩
      · rw [if_neg (by rw [decide_eq_true_iff]; omega)]; exact ⟨rfl, rfl⟩
def gJ : List D → Option (Prop × D × Fr)
  | [.c (.sl z181), .c (.int .u64 z182)] => some (z181 = pys (vl z181) ∧ z182 = (z182.toNat : Int), waO (vl z181) z182.toNat, [])
  | _ => none
attribute [go_sem] gJ
theorem uT : ∀ rs p r fr, gJ rs = some (p, r, fr) → p → qg Tryz.prog 84 rs r fr := by
  intro rs p r fr h hp
  unfold gJ at h
  split at h <;> cases h
  obtain ⟨hc0, hc1⟩ := hp
  rename_i z181 z182
  obtain ⟨z181, rfl⟩ : ∃ m, z181 = pys m := ⟨_, hc0⟩
  obtain ⟨z182, rfl⟩ : ∃ m : Nat, z182 = m := ⟨_, hc1⟩
  simp only [Int.toNat_natCast, yc]
  exact ja7 z181 z182
end Dm
namespace Dm
open Go Go.Proofs Go.IntWalk
@[go_sem] def bbp : Tab := [ovk 124]
theorem wM : za Tryz.prog bbp := .cons (uaH 124) .nil
@[go_sem] def gbs : Tab := [fg 12]
theorem vaF : za Tryz.prog gbs := .cons (kav 12) .nil
theorem gah (l : List Py) : gh 5 (pys l) := of_eq_true (waw l)
set_option maxRecDepth 8000 in
set_option maxHeartbeats 1000000 in
theorem jaw (l : List Py) (x : Py) (i : Nat) (hi : i ≤ l.length) (hl : l.length ≤ 1000000) :
    va Tryz.prog 89 [.vec 0 l.length, .int .i64 i, .vec 1 1] [(1, .vec true 5 71 (pys [x])), (0, .vec true 5 71 (pys l))] 2 fun d os _ => Grown 5 71 (pys (Srt.ins l i x)) d os := by
  have hil : (Srt.ins l i x).length = l.length + 1 := Srt.zj
  have hq : ∀ j os, lk j os = some (.vec true 5 71 (pys (Srt.ins l i x))) → Grown 5 71 (pys (Srt.ins l i x)) (.vec j (l.length + 1)) os := fun j os h => ⟨j, by rw [yf, hil], h⟩
  by_cases hin : i = l.length
  · refine qcT vaF (Nat.le_of_ble_eq_true rfl) ?_
    have e4 : ((1 : Int) = 0) = False := eq_false (by decide)
    subst hin
    simp -implicitDefEqProofs only [cdA, go_sem, Go.Proofs.Tryz.f89, e4, decide_true, reduceIte, reduceCtorEq, Nat.reduceEqDiff, Nat.reduceAdd, Nat.reduceLeDiff, Nat.reduceSub, Nat.reduceMul, Nat.reduceLT, Nat.reduceShiftRight, Nat.reduceMod, Int.reduceLE, Int.reduceLT, Int.reduceToNat, List.cons.injEq, cdB]
    refine ⟨Int.le_refl _, fun h => h.elim, fun _ => ⟨by omega, hq _ _ ?_⟩⟩
    rw [vb, if_neg (by decide), jQ]
    simp [Srt.ins]
  · have hlt : i < l.length := by omega
    refine va.opn 0 rfl (by rw [yf]; omega) fun c hc hcm => ?_
    refine va.sld ?_
    rw [yf] at hc
    refine qcT wM (Nat.le_of_ble_eq_true rfl) ?_
    have e1 : IntKind.i64.wrap ((l.length : Int) + 1) = ((l.length + 1 : Nat) : Int) := by rw [i64_in _ (by omega)]; omega
    have e2 : IntKind.i64.wrap ((i : Int) + 1) = ((i + 1 : Nat) : Int) := by rw [i64_in _ (by omega)]; omega
    have e3 : ((i : Int) = (l.length : Int)) = False := eq_false (by omega)
    have e4 : ((1 : Int) = 0) = False := eq_false (by decide)
    have e5 : IntKind.i64.wrap ((l.length : Int) + 1 - (i : Int)) = ((l.length + 1 - i : Nat) : Int) := by rw [i64_in _ (by omega)]; omega
    have e6 : ((l.length : Int) + 1).toNat = l.length + 1 := by omega
    have e7 : ((i : Int) + 1).toNat = i + 1 := by omega
    have e8 : i + (l.length + 1 - i) = l.length + 1 := by omega
    simp -implicitDefEqProofs only [cdA, go_sem, Go.Proofs.Tryz.f89, e3, e4, e1, e2, e5, e6, e7, e8, decide_false, reduceIte, reduceCtorEq, Nat.reduceEqDiff, Nat.reduceAdd, Nat.reduceLeDiff, Nat.reduceSub, Nat.reduceMul, Nat.reduceLT, Nat.reduceShiftRight, Nat.reduceMod, Int.reduceLE, Int.reduceLT, Int.reduceToNat, List.cons.injEq, cdB]
    refine ⟨by omega, fun _ => ⟨fun h1 => ⟨by omega, by omega, fun c1 h2 h3 => ⟨by omega, ?_⟩⟩, fun h1 => ⟨by omega, by omega, ?_, ?_⟩⟩⟩
    · refine uc.run ubr wM qa (by kernel_rfl) (by kernel_rfl) ?_
      simp -implicitDefEqProofs only [cdA, go_sem, e1, e2, e5, e6, e7, e8, reduceIte, reduceCtorEq, Nat.reduceEqDiff, Nat.reduceAdd, Nat.reduceLeDiff, Nat.reduceSub, Nat.reduceMul, Nat.reduceLT, Nat.reduceShiftRight, Nat.reduceMod, Int.reduceLE, Int.reduceLT, Int.reduceToNat, List.cons.injEq, cdB]
      refine ⟨by omega, by omega, fun y hy => qk (gah l) y (List.mem_of_mem_take (List.mem_of_mem_drop hy)), ?_⟩
      have := baa (sz := 5) (c := c) (c1 := c1) (i := i) (E := pys l) (x := x.enc) (z := [C.int .u64 0, C.int .u64 0, C.int .u64 0, C.int .u64 0, C.int .i64 0]) (by rw [yf]; exact hlt) (by rw [yf]; exact hc) (by rw [yf]; exact h2)
      rw [yf] at this
      refine hq _ _ ?_
      rw [jQ]
      congr 2
      rw [show pys (List.take (l.length + 1 - i) [x]) = List.take (l.length + 1 - i) [x.enc] by simp [pys], this]
      simp [pys, Srt.ins]
    · exact ⟨_, 27, 4, _, rfl, rfl, rfl, rfl, by kernel_rfl, ybB⟩
    · refine uc.run jbt wM qa (by kernel_rfl) (by kernel_rfl) ?_
      simp -implicitDefEqProofs only [cdA, go_sem, e1, e2, e5, e6, e7, e8, reduceIte, reduceCtorEq, Nat.reduceEqDiff, Nat.reduceAdd, Nat.reduceLeDiff, Nat.reduceSub, Nat.reduceMul, Nat.reduceLT, Nat.reduceShiftRight, Nat.reduceMod, Int.reduceLE, Int.reduceLT, Int.reduceToNat, List.cons.injEq, cdB]
      refine ⟨by omega, by omega, fun y hy => qk (gah l) y (List.mem_of_mem_take (List.mem_of_mem_drop hy)), by omega, ?_⟩
      have := yad (sz := 5) (c := c) (i := i) (E := pys l) (x := x.enc) (by rw [yf]; exact hlt) (by rw [yf]; omega)
      rw [yf] at this
      refine hq _ _ ?_
      rw [jQ]
      congr 2
      rw [show pys (List.take (l.length + 1 - i) [x]) = List.take (l.length + 1 - i) [x.enc] by simp [pys], this]
      simp [pys, Srt.ins]

@[go_sem] def xaC (l : List Py) : D := .vec 0 l.length
@[go_sem] def zao (l : List Py) : Fr := [(5, 71, true, pys l)]
@[go_sem] abbrev gcm : FuncId := 85
@[go_sem] def wa8 : Tab := []
theorem qaq : za Tryz.prog wa8 := za.nil
set_option maxRecDepth 8000 in
set_option maxHeartbeats 1000000 in
theorem kaW (l : List Py) (hl : l.length ≤ 1000000) : zn Tryz.prog 85 [.sl (pys l)] (xaC l) (zao l) := by
  refine .of (uc5 qaq (Nat.le_of_ble_eq_true rfl) ?_)
  simp -implicitDefEqProofs only [cdA, go_sem, Go.Proofs.Tryz.f85, reduceIte, reduceCtorEq, Nat.reduceEqDiff, Nat.reduceAdd, Nat.reduceLeDiff, Nat.reduceSub, Nat.reduceMul, Nat.reduceLT, Nat.reduceShiftRight, Nat.reduceMod, Int.reduceLE, Int.reduceLT, Int.reduceToNat, List.cons.injEq, cdB]
  refine fun b hb => ⟨fun h => ?_, fun h => ?_⟩
  · exact ⟨[none], by simp [go_sem, hb h], by cases l <;> simp_all [go_sem, pys]⟩
  · exact ⟨by omega, [some 0], by simp [go_sem]⟩
@[go_sem] def uaA (l : List Py) : Prop := (l.length ≤ 1000000)
def jC : List D → Option (Prop × D × Fr)
  | [.c (.sl z211)] => some (z211 = pys (vl z211) ∧ uaA (vl z211), xaC (vl z211), zao (vl z211))
  | _ => none
attribute [go_sem] jC
theorem kO : ∀ rs p r fr, jC rs = some (p, r, fr) → p → qg Tryz.prog 85 rs r fr := by
  intro rs p r fr h hp
  unfold jC at h
  split at h <;> cases h
  obtain ⟨hc0, hp⟩ := hp
  rename_i z211
  obtain ⟨z211, rfl⟩ : ∃ m, z211 = pys m := ⟨_, hc0⟩
  simp only [yc]
  simp only [yc, uaA] at hp
  exact (show qg _ _ _ _ _ from And.intro rfl (kaW z211 hp))
theorem xau {c z i : Nat} {E Z : List (List C)} (hi : i < E.length) (hc : E.length ≤ c) :
    (fit c z ((fit c z ((fit c z E).take i ++ (E.drop (i + 1) ++ (fit c z E).drop (i + (E.drop (i + 1)).length)))).take (i + (E.drop (i + 1)).length) ++ Z)).take (i + (E.drop (i + 1)).length) = E.eraseIdx i := by
  have hD : (E.drop (i + 1)).length = E.length - (i + 1) := List.length_drop
  have hF : (fit c z E).length = c := zf _ _ _
  have h1 : ((fit c z E).take i ++ (E.drop (i + 1) ++ (fit c z E).drop (i + (E.drop (i + 1)).length))).length = c := by
    simp only [List.length_append, List.length_take, List.length_drop, hF]; omega
  rw [ko (by rw [List.length_append, List.length_take, zf]; omega) (by omega), List.take_append_of_le_length (by rw [List.length_take, zf]; omega), List.take_take, Nat.min_self,
    ko (by omega) (by omega), ← List.append_assoc, ko (by omega) (by omega), List.take_append_of_le_length (by rw [List.length_append, List.length_take]; omega), List.eraseIdx_eq_take_drop_succ]
  rw [List.take_of_length_le (by rw [List.length_append, List.length_take]; omega)]
theorem yaP (l : List Py) (i : Nat) : (pys l).eraseIdx i = pys (l.eraseIdx i) := by
  simp [pys, List.eraseIdx_eq_take_drop_succ]
def idle (l : List Py) : Option Nat := l.findIdx? fun p => decide (p.state ≠ 1)
def uo (l : List Py) (p : Py) : List Py × Int :=
  if ¬ zB l ∨ ¬ gG p ∨ p.state ≠ 1 then ([], 1) else if Srt.thr Py.id ltN l p.id = true then ([], 6) else if l.length = 256 then (match idle l with
    | none => ([], 7)
    | some k => (Srt.ins (l.eraseIdx k) (if k < Srt.pos Py.id ltN l p.id then Srt.pos Py.id ltN l p.id - 1 else Srt.pos Py.id ltN l p.id) p, 0))
  else (Srt.ins l (Srt.pos Py.id ltN l p.id) p, 0)
@[go_sem] def qay (l : List Py) (p : Py) : D := .tup [.sl (pys (uo l p).1), .int .i64 (uo l p).2]
@[go_sem] abbrev bcd : FuncId := 44
@[go_sem] def ga4 : Tab := [(84, gJ), (64, jX), (85, jC), fg 13]
theorem qn : za Tryz.prog ga4 := (za.cons uT (za.cons j3 (za.cons kO (za.cons (kav 13) za.nil))))
set_option maxRecDepth 8000 in
set_option maxHeartbeats 1000000 in
theorem vaK (l : List Py) (p : Py)  : yb Tryz.prog 44 [.sl (pys l), .agg [.c (.int .u64 (p.id : Int)), .c (.int .u64 (p.hash : Int)), .c (.int .u64 (p.chan : Int)), .c (.int .u64 (p.n : Int)), .c (.int .i64 p.state)]] (qay l p) := by
  refine .of (qdg qn (Nat.le_of_ble_eq_true rfl) ?_)
  simp -implicitDefEqProofs only [cdA, go_sem, Go.Proofs.Tryz.f44, reduceIte, reduceCtorEq, Nat.reduceEqDiff, Nat.reduceAdd, Nat.reduceLeDiff, Nat.reduceSub, Nat.reduceMul, Nat.reduceLT, Nat.reduceShiftRight, Nat.reduceMod, Int.reduceLE, Int.reduceLT, Int.reduceToNat, List.cons.injEq, cdB]
  have hbad : (¬ zB l ∨ ¬ gG p ∨ p.state ≠ 1) → pys (uo l p).1 = [] ∧ 1 = (uo l p).2 := fun h => by rw [uo, if_pos h]; exact ⟨rfl, rfl⟩
  by_cases hok : zB l
  rotate_left 1
  · have e : yL l p.id = (0, 1) := by rw [yL, if_neg hok]
    rw [e]
    exact ⟨fun h => absurd rfl h, fun _ => hbad (.inl hok)⟩
  have e : yL l p.id = (((Srt.pos Py.id ltN l p.id : Nat) : Int), if Srt.thr Py.id ltN l p.id = true then 0 else 5) := by rw [yL, if_pos hok]
  have h256 := hok.1
  rw [e]
  refine ⟨fun _ => ⟨fun h1 => ⟨fun h2 => ?_, fun h2 => hbad (.inr (.inr h2))⟩, fun h1 => hbad (.inr (.inl h1))⟩, fun h => by dsimp only at h; split at h <;> cases h⟩
  have hA : ¬ (¬ zB l ∨ ¬ gG p ∨ p.state ≠ 1) := by rintro (h | h | h) <;> first | exact h hok | exact h h1 | exact h h2
  by_cases ht : Srt.thr Py.id ltN l p.id = true
  · rw [if_pos ht]
    exact ⟨fun _ => by rw [uo, if_neg hA, if_pos ht]; exact ⟨rfl, rfl⟩, fun h => absurd rfl h⟩
  rw [if_neg ht]
  refine ⟨fun h => absurd h (by dsimp only; decide), fun _ => ⟨by omega, fun _ => ⟨fun h3 => ?_, fun h3 => ?_⟩⟩⟩
  · skip
    refine jdh qn (Nat.le_of_ble_eq_true rfl) ?_
    simp -implicitDefEqProofs only [cdA, go_sem, Go.Proofs.Tryz.f86, reduceIte, reduceCtorEq, Nat.reduceEqDiff, Nat.reduceAdd, Nat.reduceLeDiff, Nat.reduceSub, Nat.reduceMul, Nat.reduceLT, Nat.reduceShiftRight, Nat.reduceMod, Int.reduceLE, Int.reduceLT, Int.reduceToNat, List.cons.injEq, cdB]
    refine fun _ => SWp.loop (ι := { i : Nat // i ≤ l.length ∧ ∀ j, j < i → (l.getD j default).state = 1 }) (fun i => ⟨[(0, .vec 1 l.length), (1, .fn (.func 87) [] []), (7, .int .i64 l.length), (8, .int .i64 i.1)],
      [(1, .vec true 5 71 (pys l)), (0, .box [.c (.int .u64 p.id), .c (.int .u64 p.hash), .c (.int .u64 p.chan), .c (.int .u64 p.n), .c (.int .i64 p.state)])], 2⟩) (fun i => l.length - i.1) ⟨0, by simp⟩ ?_ ?_
    · simp [go_sem]
    · rintro ⟨i, hi, hall⟩
      refine qb qn.toS wct _ _ _ rfl ?_
      simp -implicitDefEqProofs only [cdA, go_sem, reduceIte, reduceCtorEq, Nat.reduceEqDiff, Nat.reduceAdd, Nat.reduceLeDiff, Nat.reduceSub, Nat.reduceMul, Nat.reduceLT, Nat.reduceShiftRight, Nat.reduceMod, Int.reduceLE, Int.reduceLT, Int.reduceToNat, List.cons.injEq, cdB]
      refine ⟨fun h4 => ⟨by omega, by omega, ?_⟩, fun h4 => ?_⟩
      · skip
        refine kdk qn (Nat.le_of_ble_eq_true rfl) ?_
        simp -implicitDefEqProofs only [cdA, go_sem, Go.Proofs.Tryz.f87, reduceIte, reduceCtorEq, Nat.reduceEqDiff, Nat.reduceAdd, Nat.reduceLeDiff, Nat.reduceSub, Nat.reduceMul, Nat.reduceLT, Nat.reduceShiftRight, Nat.reduceMod, Int.reduceLE, Int.reduceLT, Int.reduceToNat, List.cons.injEq, cdB]
        refine ⟨fun h5 => ⟨⟨i + 1, by omega, fun j hj => ?_⟩, by dsimp only; omega, i64_in _ (by omega)⟩, fun h5 => ⟨fun h6 => by omega, fun _ => ?_⟩⟩
        · by_cases hji : j = i
          · subst hji; exact h5
          · exact hall j (by omega)
        · have hi' : i < l.length := by omega
          have hidle : idle l = some i := by
            refine List.findIdx?_eq_some_iff_getElem.2 ⟨hi', ?_, fun j hj => ?_⟩
            · rw [← ve hi']; exact decide_eq_true h5
            · rw [← ve (by omega)]; simpa using hall j hj
          rw [i64_in _ (by omega)]
          refine va.opn 1 rfl (by rw [yf]; omega) fun c hc hcm => ?_
          refine va.sld ?_
          rw [yf] at hc
          refine bdd qn (Nat.le_of_ble_eq_true rfl) ?_
          simp -implicitDefEqProofs only [cdA, go_sem, Go.Proofs.Tryz.f88, reduceIte, reduceCtorEq, Nat.reduceEqDiff, Nat.reduceAdd, Nat.reduceLeDiff, Nat.reduceSub, Nat.reduceMul, Nat.reduceLT, Nat.reduceShiftRight, Nat.reduceMod, Int.reduceLE, Int.reduceLT, Int.reduceToNat, List.cons.injEq, cdB]
          refine fun _ => ⟨⟨by omega, by omega, by omega⟩, fun h => absurd h (by omega), fun _ _ => ?_⟩
          refine uc.run bbW qn qa (by kernel_rfl) (by kernel_rfl) ?_
          simp -implicitDefEqProofs only [cdA, go_sem, reduceIte, reduceCtorEq, Nat.reduceEqDiff, Nat.reduceAdd, Nat.reduceLeDiff, Nat.reduceSub, Nat.reduceMul, Nat.reduceLT, Nat.reduceShiftRight, Nat.reduceMod, Int.reduceLE, Int.reduceLT, Int.reduceToNat, List.cons.injEq, cdB]
          have eF : List.take l.length (fit c 5 (pys l)) = pys l := by rw [ko (by rw [yf]; exact Nat.le_refl _) hc, List.take_of_length_le (by rw [yf]; exact Nat.le_refl _)]
          have e2 : ((i : Int) + 1).toNat = i + 1 := by omega
          rw [eF, e2]
          have hD : ((pys l).drop (i + 1)).length = l.length - (i + 1) := by rw [List.length_drop, yf]
          have e3 : ((i : Int) + (((pys l).drop (i + 1)).length : Int)).toNat = i + ((pys l).drop (i + 1)).length := by omega
          simp only [e3]
          have hE : ∀ Z : List (List C), (fit c 5 ((fit c 5 ((fit c 5 (pys l)).take i ++ ((pys l).drop (i + 1) ++ (fit c 5 (pys l)).drop (i + ((pys l).drop (i + 1)).length)))).take (i + ((pys l).drop (i + 1)).length) ++ Z)).take (i + ((pys l).drop (i + 1)).length) = pys (l.eraseIdx i) := fun Z => by
            rw [xau (by rw [yf]; exact hi') (by rw [yf]; exact hc), yaP]
          rw [hE, hD]
          have hl1 : i + (l.length - (i + 1)) = (l.eraseIdx i).length := by rw [List.length_eraseIdx_of_lt hi']; omega
          rw [hl1]
          have hl2 : (l.eraseIdx i).length = l.length - 1 := List.length_eraseIdx_of_lt hi'
          have hpl : Srt.pos Py.id ltN l p.id ≤ l.length := Srt.jam
          refine ⟨by omega, ⟨by omega, by omega⟩, ⟨fun x hx => ?_, by omega⟩, fun _ => ⟨⟨by omega, by omega, by omega⟩, fun h7 => ?_, fun h7 => ?_⟩⟩
          · exact (of_eq_true (waw l)) x (List.mem_of_mem_drop hx)
          · rw [i64_in _ (by omega), show ((Srt.pos Py.id ltN l p.id : Nat) : Int) - 1 = ((Srt.pos Py.id ltN l p.id - 1 : Nat) : Int) by omega]
            refine va.grow (mid := [.int .i64 _]) (jaw (l.eraseIdx i) p (Srt.pos Py.id ltN l p.id - 1) (by omega) (by omega)) rfl rfl (by decide) (by simp [Srt.zj]) (fun d hd g g' w v hv => ?_) ?_
            · simp at hd; subst hd
              cases hv with
              | c _ _ h => cases h; exact .c _ _ (.int _ _)
            · simp -implicitDefEqProofs only [cdA, go_sem, reduceIte, reduceCtorEq, Nat.reduceEqDiff, Nat.reduceAdd, Nat.reduceLeDiff, Nat.reduceSub, Nat.reduceMul, Nat.reduceLT, Nat.reduceShiftRight, Nat.reduceMod, Int.reduceLE, Int.reduceLT, Int.reduceToNat, List.cons.injEq, cdB]
              rw [uo, if_neg hA, if_neg ht, if_pos (by omega), hidle]
              dsimp only
              rw [if_pos (by omega)]
              exact ⟨⟨rfl, _, _, _, rfl⟩, rfl⟩
          · refine va.grow (mid := [.int .i64 _]) (jaw (l.eraseIdx i) p (Srt.pos Py.id ltN l p.id) (by omega) (by omega)) rfl rfl (by decide) (by simp [Srt.zj]) (fun d hd g g' w v hv => ?_) ?_
            · simp at hd; subst hd
              cases hv with
              | c _ _ h => cases h; exact .c _ _ (.int _ _)
            · simp -implicitDefEqProofs only [cdA, go_sem, reduceIte, reduceCtorEq, Nat.reduceEqDiff, Nat.reduceAdd, Nat.reduceLeDiff, Nat.reduceSub, Nat.reduceMul, Nat.reduceLT, Nat.reduceShiftRight, Nat.reduceMod, Int.reduceLE, Int.reduceLT, Int.reduceToNat, List.cons.injEq, cdB]
              rw [uo, if_neg hA, if_neg ht, if_pos (by omega), hidle]
              dsimp only
              rw [if_neg (by omega)]
              exact ⟨⟨rfl, _, _, _, rfl⟩, rfl⟩
      · have : idle l = none := by
          refine List.findIdx?_eq_none_iff.2 fun x hx => ?_
          obtain ⟨j, hj, rfl⟩ := xb.1 hx
          simpa using hall j (by omega)
        rw [uo, if_neg hA, if_neg ht, if_pos (by omega), this]
        exact ⟨rfl, rfl⟩
  · have hpos : Srt.pos Py.id ltN l p.id ≤ l.length := Srt.jam
    refine va.grow (mid := [.int .i64 _]) (jaw l p (Srt.pos Py.id ltN l p.id) hpos (by omega)) rfl rfl (by decide) (by simp [Srt.zj]) (fun d hd g g' w v hv => ?_) ?_
    · simp at hd; subst hd
      cases hv with
      | c _ _ h => cases h; exact .c _ _ (.int _ _)
    · simp -implicitDefEqProofs only [cdA, go_sem, reduceIte, reduceCtorEq, Nat.reduceEqDiff, Nat.reduceAdd, Nat.reduceLeDiff, Nat.reduceSub, Nat.reduceMul, Nat.reduceLT, Nat.reduceShiftRight, Nat.reduceMod, Int.reduceLE, Int.reduceLT, Int.reduceToNat, List.cons.injEq, cdB]
      rw [uo, if_neg hA, if_neg ht, if_neg (by omega)]
      exact ⟨⟨rfl, _, _, _, rfl⟩, rfl⟩
def zK : List D → Option (Prop × D × Fr)
  | [.c (.sl z212), .agg [.c (.int .u64 z214), .c (.int .u64 z215), .c (.int .u64 z216), .c (.int .u64 z217), .c (.int .i64 z218)]] => some (z212 = pys (vl z212) ∧ z214 = (z214.toNat : Int) ∧ z215 = (z215.toNat : Int) ∧ z216 = (z216.toNat : Int) ∧ z217 = (z217.toNat : Int), qay (vl z212) (⟨z214.toNat, z215.toNat, z216.toNat, z217.toNat, z218⟩ : Py), [])
  | _ => none
attribute [go_sem] zK
theorem wag : ∀ rs p r fr, zK rs = some (p, r, fr) → p → qg Tryz.prog 44 rs r fr := by
  intro rs p r fr h hp
  unfold zK at h
  split at h <;> cases h
  obtain ⟨hc0, hc1, hc2, hc3, hc4⟩ := hp
  rename_i z212 z214 z215 z216 z217 z218
  obtain ⟨z212, rfl⟩ : ∃ m, z212 = pys m := ⟨_, hc0⟩
  obtain ⟨z214, rfl⟩ : ∃ m : Nat, z214 = m := ⟨_, hc1⟩
  obtain ⟨z215, rfl⟩ : ∃ m : Nat, z215 = m := ⟨_, hc2⟩
  obtain ⟨z216, rfl⟩ : ∃ m : Nat, z216 = m := ⟨_, hc3⟩
  obtain ⟨z217, rfl⟩ : ∃ m : Nat, z217 = m := ⟨_, hc4⟩
  simp only [Int.toNat_natCast, yc]
  exact vaK z212 ⟨z214, z215, z216, z217, z218⟩
end Dm
namespace Dm
open Go Go.Proofs Go.IntWalk
def bq (l : List Py) (id : Nat) (paid : Bool) : List Py × Int :=
  if zB l then (if Srt.thr Py.id ltN l id = true then (if (l.getD (Srt.pos Py.id ltN l id) default).state = 1 then (l.set (Srt.pos Py.id ltN l id) { l.getD (Srt.pos Py.id ltN l id) default with state := if paid = true then 2 else 3 }, 0) else ([], 10)) else ([], 5)) else ([], 1)
@[go_sem] def jbg (l : List Py) (id : Nat) (paid : Bool) : D := .tup [.sl (pys (bq l id paid).1), .int .i64 (bq l id paid).2]
@[go_sem] abbrev qc0 : FuncId := 48
@[go_sem] def gbU : Tab := [(84, gJ), (85, jC)]
theorem yaW : za Tryz.prog gbU := (za.cons uT (za.cons kO za.nil))
set_option maxRecDepth 8000 in
set_option maxHeartbeats 1000000 in
theorem ybx (l : List Py) (id : Nat) (paid : Bool)  : yb Tryz.prog 48 [.sl (pys l), .c (.int .u64 (id : Int)), .c (.bool paid)] (jbg l id paid) := by
  refine .of (jdc yaW (Nat.le_of_ble_eq_true rfl) ?_)
  simp -implicitDefEqProofs only [cdA, go_sem, Go.Proofs.Tryz.f48, reduceIte, reduceCtorEq, Nat.reduceEqDiff, Nat.reduceAdd, Nat.reduceLeDiff, Nat.reduceSub, Nat.reduceMul, Nat.reduceLT, Nat.reduceShiftRight, Nat.reduceMod, Int.reduceLE, Int.reduceLT, Int.reduceToNat, List.cons.injEq, cdB]
  by_cases hok : zB l
  rotate_left 1
  · have ef : yL l id = (0, 1) := by rw [yL, if_neg hok]
    rw [ef, bq, if_neg hok]
    exact ⟨fun h => absurd (show (1 : Int) = 0 from h) (by decide), fun _ => ⟨rfl, rfl⟩⟩
  by_cases ht : Srt.thr Py.id ltN l id = true
  rotate_left 1
  · have ef : yL l id = (((Srt.pos Py.id ltN l id : Nat) : Int), 5) := by rw [yL, if_pos hok, if_neg ht]
    rw [ef, bq, if_pos hok, if_neg ht]
    exact ⟨fun h => absurd (show (5 : Int) = 0 from h) (by decide), fun _ => ⟨rfl, rfl⟩⟩
  have ef : yL l id = (((Srt.pos Py.id ltN l id : Nat) : Int), 0) := by rw [yL, if_pos hok, if_pos ht]
  have hp : Srt.pos Py.id ltN l id < l.length := by
    have ht := ht
    unfold Srt.thr at ht
    exact (of_decide_eq_true ht).1
  rw [ef, bq, if_pos hok, if_pos ht]
  generalize Srt.pos Py.id ltN l id = r at hp
  dsimp only
  have h256 := hok.1
  have hg : ∀ x : Py, (l.set r x).getD r default = x := fun x => by rw [Srt.uu hp, if_pos rfl]
  simp only [Int.toNat_natCast, hg, List.set_set]
  refine ⟨fun _ => ⟨⟨by omega, by omega⟩, fun hs => ⟨by omega, ⟨by omega, by omega⟩, hp, fun hp1 => ⟨⟨by omega, by omega⟩, hp, ?_⟩, fun hp1 => ?_⟩, fun hs => ?_⟩, fun h => absurd trivial h⟩
  · rw [if_pos hs, if_pos hp1]; exact ⟨⟨by rw [List.length_set], _, _, _, rfl⟩, rfl⟩
  · rw [if_pos hs, if_neg (by rw [hp1]; decide)]; exact ⟨⟨by rw [List.length_set], _, _, _, rfl⟩, rfl⟩
  · rw [if_neg hs]; exact ⟨rfl, rfl⟩
def kac : List D → Option (Prop × D × Fr)
  | [.c (.sl z317), .c (.int .u64 z318), .c (.bool z319)] => some (z317 = pys (vl z317) ∧ z318 = (z318.toNat : Int), jbg (vl z317) z318.toNat z319, [])
  | _ => none
attribute [go_sem] kac
theorem baF : ∀ rs p r fr, kac rs = some (p, r, fr) → p → qg Tryz.prog 48 rs r fr := by
  intro rs p r fr h hp
  unfold kac at h
  split at h <;> cases h
  obtain ⟨hc0, hc1⟩ := hp
  rename_i z317 z318 z319
  obtain ⟨z317, rfl⟩ : ∃ m, z317 = pys m := ⟨_, hc0⟩
  obtain ⟨z318, rfl⟩ : ∃ m : Nat, z318 = m := ⟨_, hc1⟩
  simp only [Int.toNat_natCast, yc]
  exact ybx z317 z318 z319
end Dm
namespace Dm
open Go Go.Proofs Go.IntWalk
def hlC (c : Ch) : List K3 := c.holds.map fun h => (c.id, h.id, h.n)
def hlL (cs : List Ch) : List K3 := cs.flatMap hlC
def wu (l : List Py) : List Py := l.filter fun p => decide (p.state = 1)
def zY (l : List Py) (cs : List Ch) : Bool × Int := if zB l ∧ cs.length ≤ 32 ∧ (cs.map Ch.id).Nodup then (decide ((∀ p ∈ wu l, (p.chan, p.id, p.n) ∈ hlL cs) ∧ (hlL cs).length = (wu l).length), 0) else (false, 1)
theorem qbh : ∀ {cs : List Ch} {n : Nat}, (∀ c ∈ cs, c.holds.length ≤ 1000000) → cs.length ≤ n → (hlL cs).length ≤ n * 1000000
  | [], n, _, _ => by simp [hlL]
  | c :: cs, n, h, hn => by
    have h1 : hlL (c :: cs) = hlC c ++ hlL cs := rfl
    rw [h1, List.length_append]
    have h2 : (hlC c).length ≤ 1000000 := by unfold hlC; rw [List.length_map]; exact h c (.head _)
    have h3 := qbh (cs := cs) (n := cs.length) (fun d hd => h d (.tail _ hd)) (Nat.le_refl _)
    simp only [List.length_cons] at hn
    omega
@[go_sem] def xax (l : List Py) (cs : List Ch) : D := .tup [.bool (zY l cs).1, .int .i64 (zY l cs).2]
@[go_sem] abbrev kcb : FuncId := 8
@[go_sem] def wa5 : Tab := [(25, zy)]
theorem js : za Tryz.prog wa5 := (za.cons uD za.nil)
set_option maxRecDepth 8000 in
set_option maxHeartbeats 1000000 in
theorem xaO (l : List Py) (cs : List Ch) (hs : ∀ c ∈ cs, c.holds.length ≤ 1000000) : yb Tryz.prog 8 [.sl (pys l), .sl (chs cs)] (xax l cs) := by
  refine .of (ac8 js (Nat.le_of_ble_eq_true rfl) ?_)
  simp -implicitDefEqProofs only [cdA, go_sem, Go.Proofs.Tryz.f8, reduceIte, reduceCtorEq, Nat.reduceEqDiff, Nat.reduceAdd, Nat.reduceLeDiff, Nat.reduceSub, Nat.reduceMul, Nat.reduceLT, Nat.reduceShiftRight, Nat.reduceMod, Int.reduceLE, Int.reduceLT, Int.reduceToNat, List.cons.injEq, cdB]
  have hbad : ¬ (zB l ∧ cs.length ≤ 32 ∧ (cs.map Ch.id).Nodup) → false = (zY l cs).1 ∧ 1 = (zY l cs).2 := fun h => by rw [zY, if_neg h]; exact ⟨rfl, rfl⟩
  have hcz : yaK l = 0 ↔ zB l := by unfold yaK; split <;> rename_i h <;> simp only [h] <;> decide
  refine ⟨fun h0 hl => ⟨fun h => hbad fun ho => ?_, fun hle _ => ?_⟩, fun h0 => hbad fun h => h0 (hcz.2 h.1)⟩
  · have := ho.2.1; omega
  have hok := hcz.1 h0
  refine SWp.loop (ι := { x : Nat × List (K3 × Int) × List (Nat × Int) // x.1 ≤ cs.length ∧ ((cs.take x.1).map Ch.id).Nodup ∧ (∀ k, (alk k x.2.1).getD 0 = (List.count k (hlL (cs.take x.1)) : Nat)) ∧ (∀ k, (nlk k x.2.2).getD 0 = (List.count k ((cs.take x.1).map Ch.id) : Nat)) })
    (fun x => ⟨[(0, .sl (pys l)), (6, .mp 0), (7, .mp 1), (8, .int .i64 (hlL (cs.take x.1.1)).length), (25, .sl (chs cs)), (26, .int .i64 cs.length), (27, .int .i64 x.1.1)], [(1, .map [.int .u64] (kvN .u64 .i64 x.1.2.2)), (0, .map [.int .u64, .int .u64, .int .u64] (kv3 x.1.2.1))], 2⟩) (fun x => cs.length - x.1.1)
    ⟨(0, [], []), by simp, by simp, fun k => by simp [alk, hlL], fun k => by simp [nlk]⟩ ?_ ?_
  · simp [go_sem, kvN, kv3, hlL]
  · rintro ⟨⟨i, m, ids⟩, hi, hnd, hm, hids⟩
    dsimp only at hi hnd hm hids
    refine qb js.toS lv8 _ _ _ rfl ?_
    simp -implicitDefEqProofs only [cdA, go_sem, za2, reduceIte, reduceCtorEq, Nat.reduceEqDiff, Nat.reduceAdd, Nat.reduceLeDiff, Nat.reduceSub, Nat.reduceMul, Nat.reduceLT, Nat.reduceShiftRight, Nat.reduceMod, Int.reduceLE, Int.reduceLT, Int.reduceToNat, List.cons.injEq, cdB]
    have hlen : (hlL (cs.take i)).length ≤ i * 1000000 := qbh (fun c hc => hs c (List.mem_of_mem_take hc)) (by rw [List.length_take]; omega)
    refine ⟨fun h1 => ⟨by omega, ?_⟩, fun h1 _ => ?_⟩
    · have hi' : i < cs.length := by omega
      have hcm : cs.getD i default ∈ cs := xb.2 ⟨i, hi', rfl⟩
      have htk : cs.take (i + 1) = cs.take i ++ [cs.getD i default] := take_succ hi'
      generalize cs.getD i default = c at *
      have hcl := hs c hcm
      have hcle : List.count c.id ((cs.take i).map Ch.id) ≤ 32 := Nat.le_trans List.count_le_length (by simp; omega)
      rw [hids, i64_in _ (by omega), gaa, if_pos rfl]
      generalize hids' : baZ c.id ((List.count c.id ((cs.take i).map Ch.id) : Nat) + 1 : Int) ids = ids'
      have hid2 : ∀ k, (nlk k ids').getD 0 = (List.count k ((cs.take (i + 1)).map Ch.id) : Nat) := fun k => by
        rw [← hids', gaa, htk, List.map_append, List.count_append]
        split
        · rename_i h; subst h; simp
        · rename_i h
          rw [hids]; simp [List.count_cons, Ne.symm h]
      refine ⟨fun h2 => hbad fun ho => ?_, fun h2 _ => ?_⟩
      · have h3 : (cs.take (i + 1)).map Ch.id <+: cs.map Ch.id := (List.take_prefix _ _).map _
        have h4 := h3.sublist.nodup ho.2.2
        rw [htk, List.map_append, List.nodup_append] at h4
        have h5 : 0 < List.count c.id ((cs.take i).map Ch.id) := by
          simp only [Option.getD_some] at h2; omega
        exact h4.2.2 _ (List.count_pos_iff.1 h5) c.id (by simp) rfl
      · have hnd' : ((cs.take (i + 1)).map Ch.id).Nodup := by
          rw [htk, List.map_append, List.nodup_append]
          refine ⟨hnd, by simp, fun x hx y hy => ?_⟩
          simp at hy
          rintro rfl
          subst hy
          have := List.count_pos_iff.2 hx
          simp only [Option.getD_some] at h2; omega
        refine SWp.loop (ι := { x : Nat × List (K3 × Int) // x.1 ≤ c.holds.length ∧ ∀ k, (alk k x.2).getD 0 = (List.count k (hlL (cs.take i) ++ (hlC c).take x.1) : Nat) })
          (fun x => ⟨[(0, .sl (pys l)), (6, .mp 0), (7, .mp 1), (8, .int .i64 ((hlL (cs.take i)).length + x.1.1 : Nat)), (10, .ref 2 0), (25, .sl (chs cs)), (26, .int .i64 cs.length), (27, .int .i64 i), (42, .c (.sl (hds c.holds))), (43, .int .i64 c.holds.length), (44, .int .i64 x.1.1)],
            [(2, .box [.c (.int .u64 c.id), .c (.int .u64 c.loc), .c (.int .u64 c.rem), .c (.int .u64 c.res), .c (.int .u64 c.most), .c (.sl (hds c.holds)), .c (.bool c.op)]), (1, .map [.int .u64] (kvN .u64 .i64 ids')), (0, .map [.int .u64, .int .u64, .int .u64] (kv3 x.1.2))], 3⟩) (fun x => c.holds.length - x.1.1)
          ⟨(0, m), by simp, fun k => by simp [hm]⟩ ?_ ?_
        · simp [go_sem]
        · rintro ⟨⟨k, m⟩, hk, hm⟩
          dsimp only at hk hm
          refine qb js.toS lv8 _ _ _ rfl ?_
          simp -implicitDefEqProofs only [cdA, go_sem, za2, reduceIte, reduceCtorEq, Nat.reduceEqDiff, Nat.reduceAdd, Nat.reduceLeDiff, Nat.reduceSub, Nat.reduceMul, Nat.reduceLT, Nat.reduceShiftRight, Nat.reduceMod, Int.reduceLE, Int.reduceLT, Int.reduceToNat, List.cons.injEq, cdB]
          refine ⟨fun h3 => ⟨by omega, ?_⟩, fun h3 => ?_⟩
          · refine uc.ycV wbW [0, 0, 2, 0, 14, 31, 63, 63, 159, 511] js qa (by kernel_rfl) (by kernel_rfl) (by kernel_rfl) ?_
            simp -implicitDefEqProofs only [cdA, go_sem, za2, reduceIte, reduceCtorEq, Nat.reduceEqDiff, Nat.reduceAdd, Nat.reduceLeDiff, Nat.reduceSub, Nat.reduceMul, Nat.reduceLT, Nat.reduceShiftRight, Nat.reduceMod, Int.reduceLE, Int.reduceLT, Int.reduceToNat, List.cons.injEq, cdB]
            have hk' : k < c.holds.length := by omega
            have hcl' : (hlC c).length = c.holds.length := by unfold hlC; rw [List.length_map]
            have hct : List.count (c.id, (c.holds.getD k default).id, (c.holds.getD k default).n) (hlL (cs.take i) ++ (hlC c).take k) ≤ i * 1000000 + 1000000 :=
              Nat.le_trans List.count_le_length (by rw [List.length_append, List.length_take]; omega)
            have hstep : (hlC c).take (k + 1) = (hlC c).take k ++ [(c.id, (c.holds.getD k default).id, (c.holds.getD k default).n)] := by
              rw [take_succ (by rw [hcl']; exact hk')]
              congr 2
              unfold hlC
              rw [ve (by rw [List.length_map]; exact hk'), ve hk', List.getElem_map]
            refine ⟨⟨(k + 1, _), hk', fun q => ?_⟩, by dsimp only; omega, ⟨by rw [i64_in _ (by omega)]; dsimp only; omega, i64_in _ (by omega)⟩, rfl⟩
            dsimp only
            rw [hm, i64_in _ (by omega), uaz, hstep, ← List.append_assoc]
            generalize hlL (cs.take i) ++ (hlC c).take k = A at *
            generalize (c.id, (c.holds.getD k default).id, (c.holds.getD k default).n) = t at *
            rw [List.count_append, List.count_singleton]
            split
            · rename_i h; subst h
              rw [if_pos (by simp), Option.getD_some]; omega
            · rename_i h
              rw [hm, if_neg (by simpa using Ne.symm h)]; omega
          · have hk' : k = c.holds.length := by omega
            subst hk'
            have hcl' : (hlC c).length = c.holds.length := by unfold hlC; rw [List.length_map]
            have hl1 : hlL (cs.take (i + 1)) = hlL (cs.take i) ++ hlC c := by rw [htk]; simp [hlL]
            refine ⟨⟨(i + 1, m, ids'), hi', hnd', fun q => ?_, hid2⟩, by dsimp only; omega, ⟨by dsimp only; rw [hl1, List.length_append, hcl']; omega, i64_in _ (by omega)⟩, rfl, rfl⟩
            dsimp only
            rw [hm, hl1, ← hcl', List.take_length]
    · have hi' : i = cs.length := by omega
      subst hi'
      rw [List.take_length] at hnd hm hids hlen ⊢
      have hA : zB l ∧ cs.length ≤ 32 ∧ (cs.map Ch.id).Nodup := ⟨hok, by omega, hnd⟩
      have hl256 := hok.1
      have hpl : ∀ j, (wu (l.take j)).length ≤ 256 := fun j => Nat.le_trans (List.length_filter_le _ _) (by rw [List.length_take]; omega)
      refine SWp.loop (ι := { j : Nat // j ≤ l.length ∧ ∀ p ∈ wu (l.take j), (p.chan, p.id, p.n) ∈ hlL cs }) (fun j => ⟨[(6, .mp 0), (8, .int .i64 ((hlL cs).length - (wu (l.take j.1)).length : Int)), (61, .sl (pys l)), (62, .int .i64 l.length), (63, .int .i64 j.1)], [(1, .map [.int .u64] (kvN .u64 .i64 ids)), (0, .map [.int .u64, .int .u64, .int .u64] (kv3 m))], 2⟩) (fun j => l.length - j.1) ⟨0, by simp [wu]⟩ ?_ ?_
      · simp [go_sem, wu]
      · rintro ⟨j, hj, hin⟩
        have hpj := hpl j
        refine qb js.toS lv8 _ _ _ rfl ?_
        simp -implicitDefEqProofs only [cdA, go_sem, za2, reduceIte, reduceCtorEq, Nat.reduceEqDiff, Nat.reduceAdd, Nat.reduceLeDiff, Nat.reduceSub, Nat.reduceMul, Nat.reduceLT, Nat.reduceShiftRight, Nat.reduceMod, Int.reduceLE, Int.reduceLT, Int.reduceToNat, List.cons.injEq, cdB]
        refine ⟨fun h1 => ⟨by omega, fun h2 => ?_, fun h2 => ?_⟩, fun h1 => ?_⟩
        · have hj' : j < l.length := by omega
          have hst : wu (l.take (j + 1)) = wu (l.take j) ++ [l.getD j default] := by
            unfold wu
            rw [take_succ hj', List.filter_append]
            simp only [List.filter_cons, decide_eq_true h2, if_true, List.filter_nil]
          rw [hm]
          refine ⟨fun h3 => ?_, fun h3 => ?_⟩
          · rw [zY, if_pos hA]
            refine ⟨(decide_eq_false fun h4 => ?_).symm, rfl⟩
            have h5 := h4.1 (l.getD j default) (List.mem_filter.2 ⟨xb.2 ⟨j, hj', rfl⟩, decide_eq_true h2⟩)
            have := List.count_pos_iff.2 h5
            omega
          · refine ⟨⟨j + 1, hj', fun p hp => ?_⟩, by dsimp only; omega, ?_, i64_in _ (by omega)⟩
            · rw [hst] at hp
              rcases List.mem_append.1 hp with hp | hp
              · exact hin p hp
              · rw [List.mem_singleton] at hp
                rw [hp]
                exact List.count_pos_iff.1 (by omega)
            · rw [i64_in _ (by omega)]
              dsimp only
              rw [hst, List.length_append, List.length_singleton]; omega
        · have hj' : j < l.length := by omega
          have hst : wu (l.take (j + 1)) = wu (l.take j) := by
            unfold wu
            rw [take_succ hj', List.filter_append]
            simp only [List.filter_cons, decide_eq_false h2, List.filter_nil, List.append_nil, Bool.false_eq_true, if_false]
          exact ⟨⟨j + 1, hj', fun p hp => hin p (by rwa [hst] at hp)⟩, by dsimp only; omega, by dsimp only; rw [hst], i64_in _ (by omega)⟩
        · have hj' : j = l.length := by omega
          subst hj'
          rw [List.take_length] at hin hpj ⊢
          rw [zY, if_pos hA]
          refine ⟨?_, rfl⟩
          rw [decide_eq_decide]
          exact ⟨fun h => ⟨hin, by omega⟩, fun h => by omega⟩
@[go_sem] def gaz (l : List Py) (cs : List Ch) : Prop := (∀ c ∈ cs, c.holds.length ≤ 1000000)
def gE : List D → Option (Prop × D × Fr)
  | [.c (.sl z183), .c (.sl z184)] => some (z183 = pys (vl z183) ∧ z184 = chs (ji z184) ∧ gaz (vl z183) (ji z184), xax (vl z183) (ji z184), [])
  | _ => none
attribute [go_sem] gE
theorem wO : ∀ rs p r fr, gE rs = some (p, r, fr) → p → qg Tryz.prog 8 rs r fr := by
  intro rs p r fr h hp
  unfold gE at h
  split at h <;> cases h
  obtain ⟨hc0, hc1, hp⟩ := hp
  rename_i z183 z184
  obtain ⟨z183, rfl⟩ : ∃ m, z183 = pys m := ⟨_, hc0⟩
  obtain ⟨z184, rfl⟩ : ∃ m, z184 = chs m := ⟨_, hc1⟩
  simp only [jb, yc]
  simp only [jb, yc, gaz] at hp
  exact xaO z183 z184 hp
end Dm
namespace Dm
open Go Go.Proofs Go.IntWalk
structure Iv where
  hash : Nat
  n : Nat
  till : Nat
  state : Int
deriving DecidableEq, Inhabited
@[go_sem] def Iv.enc (e : Iv) : List C := [.int .u64 (e.hash : Int), .int .u64 (e.n : Int), .int .u64 (e.till : Int), .int .i64 e.state]
def Iv.dec : List C → Iv
  | [.int .u64 z140, .int .u64 z141, .int .u64 z142, .int .i64 z143] => (⟨z140.toNat, z141.toNat, z142.toNat, z143⟩ : Iv)
  | _ => default
def ivs (l : List Iv) : List (List C) := l.map Iv.enc
def xm (l : List (List C)) : List Iv := l.map Iv.dec
@[simp, go_sem] theorem ug (l : List Iv) : (ivs l).length = l.length := by simp [ivs]
@[go_sem] theorem gcI (l : List Iv) (i : Nat) : (ivs l).getD i [.int .u64 0, .int .u64 0, .int .u64 0, .int .i64 0] = (l.getD i default).enc := by
  simp only [ivs, List.getD_eq_getElem?_getD, List.getElem?_map]
  cases l[i]? <;> rfl
@[go_sem] theorem va4 (l : List Iv) : gh 4 (ivs l) = True := by
  simp [gh, ivs, Iv.enc]
theorem Iv.vg (e : Iv) : Iv.dec e.enc = e := by
  simp [Iv.enc, Iv.dec]
@[go_sem] theorem qc (l : List Iv) : xm (ivs l) = l := by
  simp only [xm, ivs, List.map_map]
  exact List.map_id'' (fun e => Iv.vg e) l
@[go_sem] theorem xcO (a b : List Iv) : ivs a ++ ivs b = ivs (a ++ b) := by simp [ivs]
@[go_sem] theorem wch (l : List Iv) (k : Nat) : (ivs l).drop k = ivs (l.drop k) := by simp [ivs]
@[go_sem] theorem bb9 (l : List Iv) (k : Nat) : (ivs l).take k = ivs (l.take k) := by simp [ivs]
@[go_sem] theorem wcw (z144 : Int) (z145 : Int) (z146 : Int) (z147 : Int) (hz144 : 0 ≤ z144) (hz145 : 0 ≤ z145) (hz146 : 0 ≤ z146) : [[C.int .u64 z144, C.int .u64 z145, C.int .u64 z146, C.int .i64 z147]] = ivs [⟨z144.toNat, z145.toNat, z146.toNat, z147⟩] := by simp [ivs, Iv.enc, Int.toNat_of_nonneg hz144, Int.toNat_of_nonneg hz145, Int.toNat_of_nonneg hz146]
@[go_sem] theorem zcD (l : List Iv) (i : Nat) (z144 : Int) (z145 : Int) (z146 : Int) (z147 : Int) (hz144 : 0 ≤ z144) (hz145 : 0 ≤ z145) (hz146 : 0 ≤ z146) : (ivs l).set i [C.int .u64 z144, C.int .u64 z145, C.int .u64 z146, C.int .i64 z147] = ivs (l.set i ⟨z144.toNat, z145.toNat, z146.toNat, z147⟩) := by simp [ivs, List.map_set, Iv.enc, Int.toNat_of_nonneg hz144, Int.toNat_of_nonneg hz145, Int.toNat_of_nonneg hz146]
@[go_sem] theorem xcl (l : List Iv) (z144 : Int) (z145 : Int) (z146 : Int) (z147 : Int) (hz144 : 0 ≤ z144) (hz145 : 0 ≤ z145) (hz146 : 0 ≤ z146) : [C.int .u64 z144, C.int .u64 z145, C.int .u64 z146, C.int .i64 z147] :: ivs l = ivs (⟨z144.toNat, z145.toNat, z146.toNat, z147⟩ :: l) := by simp [ivs, Iv.enc, Int.toNat_of_nonneg hz144, Int.toNat_of_nonneg hz145, Int.toNat_of_nonneg hz146]
@[go_sem] theorem wcg (l : List Iv) : zag (ivs l) = True := eq_true fun x hx c hc => by
  obtain ⟨e, _, rfl⟩ := List.mem_map.1 hx
  simp only [Iv.enc, List.mem_cons, List.not_mem_nil, or_false] at hc
  rcases hc with rfl | rfl | rfl | rfl <;> rfl
@[go_sem] theorem Iv.eta {e : Iv} : (⟨e.hash, e.n, e.till, e.state⟩ : Iv) = e := rfl
def zaE (x : Iv) : Prop := (x.n ≠ 0 ∧ x.n ≤ MM) ∧ 1 ≤ x.state ∧ x.state ≤ 3
instance (x : Iv) : Decidable (zaE x) := by unfold zaE; infer_instance
def xM (l : List Iv) : Prop := l.length ≤ 256 ∧ (∀ x ∈ l, zaE x) ∧ Srt.Chn Iv.hash ltN l
instance (l : List Iv) : Decidable (Srt.Chn Iv.hash ltN l) := by unfold Srt.Chn; infer_instance
instance (l : List Iv) : Decidable (xM l) := by unfold xM; infer_instance
def bas (l : List Iv) : Int := if xM l then 0 else 1
@[go_sem] def jax (x : Iv) (id : Nat) : D := .int .i64 (waf x.hash id)
@[go_sem] abbrev jck : FuncId := 67
@[go_sem] def vba : Tab := [(107, vO)]
theorem uau : za Tryz.prog vba := (za.cons uE za.nil)
set_option maxRecDepth 8000 in
set_option maxHeartbeats 1000000 in
theorem gaK (x : Iv) (id : Nat)  : yb Tryz.prog 67 [.agg [.c (.int .u64 (x.hash : Int)), .c (.int .u64 (x.n : Int)), .c (.int .u64 (x.till : Int)), .c (.int .i64 x.state)], .c (.int .u64 (id : Int))] (jax x id) := by
  refine .of (xdb uau (Nat.le_of_ble_eq_true rfl) ?_)
  simp -implicitDefEqProofs only [cdA, go_sem, Go.Proofs.Tryz.f67, reduceIte, reduceCtorEq, Nat.reduceEqDiff, Nat.reduceAdd, Nat.reduceLeDiff, Nat.reduceSub, Nat.reduceMul, Nat.reduceLT, Nat.reduceShiftRight, Nat.reduceMod, Int.reduceLE, Int.reduceLT, Int.reduceToNat, List.cons.injEq, cdB]
def kE : List D → Option (Prop × D × Fr)
  | [.agg [.c (.int .u64 z149), .c (.int .u64 z150), .c (.int .u64 z151), .c (.int .i64 z152)], .c (.int .u64 z153)] => some (z149 = (z149.toNat : Int) ∧ z150 = (z150.toNat : Int) ∧ z151 = (z151.toNat : Int) ∧ z153 = (z153.toNat : Int), jax (⟨z149.toNat, z150.toNat, z151.toNat, z152⟩ : Iv) z153.toNat, [])
  | _ => none
attribute [go_sem] kE
theorem zP : ∀ rs p r fr, kE rs = some (p, r, fr) → p → qg Tryz.prog 67 rs r fr := by
  intro rs p r fr h hp
  unfold kE at h
  split at h <;> cases h
  obtain ⟨hc0, hc1, hc2, hc3⟩ := hp
  rename_i z149 z150 z151 z152 z153
  obtain ⟨z149, rfl⟩ : ∃ m : Nat, z149 = m := ⟨_, hc0⟩
  obtain ⟨z150, rfl⟩ : ∃ m : Nat, z150 = m := ⟨_, hc1⟩
  obtain ⟨z151, rfl⟩ : ∃ m : Nat, z151 = m := ⟨_, hc2⟩
  obtain ⟨z153, rfl⟩ : ∃ m : Nat, z153 = m := ⟨_, hc3⟩
  simp only [Int.toNat_natCast]
  exact gaK ⟨z149, z150, z151, z152⟩ z153
@[go_sem] def zaL (n : Nat) : D := .bool (decide (n ≠ 0 ∧ n ≤ MM))
@[go_sem] abbrev qcw : FuncId := 68
@[go_sem] def qbt : Tab := [(40, jg)]
theorem xaG : za Tryz.prog qbt := (za.cons yg za.nil)
set_option maxRecDepth 8000 in
set_option maxHeartbeats 1000000 in
theorem jbb (n : Nat)  : yb Tryz.prog 68 [.c (.int .u64 (n : Int))] (zaL n) := by
  refine .of (vdg xaG (Nat.le_of_ble_eq_true rfl) ?_)
  simp -implicitDefEqProofs only [cdA, go_sem, Go.Proofs.Tryz.f68, reduceIte, reduceCtorEq, Nat.reduceEqDiff, Nat.reduceAdd, Nat.reduceLeDiff, Nat.reduceSub, Nat.reduceMul, Nat.reduceLT, Nat.reduceShiftRight, Nat.reduceMod, Int.reduceLE, Int.reduceLT, Int.reduceToNat, List.cons.injEq, cdB]
  have hm : xX [n] = 0 ↔ n ≤ MM := xak
  refine ⟨fun h => ?_, fun h => ?_⟩
  · rw [decide_eq_decide, hm]; exact ⟨fun h2 => ⟨by omega, h2⟩, fun h2 => h2.2⟩
  · exact (decide_eq_false fun h2 => h2.1 (by omega)).symm
def qK : List D → Option (Prop × D × Fr)
  | [.c (.int .u64 z154)] => some (z154 = (z154.toNat : Int), zaL z154.toNat, [])
  | _ => none
attribute [go_sem] qK
theorem qU : ∀ rs p r fr, qK rs = some (p, r, fr) → p → qg Tryz.prog 68 rs r fr := by
  intro rs p r fr h hp
  unfold qK at h
  split at h <;> cases h
  have hc0 := hp
  rename_i z154
  obtain ⟨z154, rfl⟩ : ∃ m : Nat, z154 = m := ⟨_, hc0⟩
  simp only [Int.toNat_natCast]
  exact jbb z154
@[go_sem] def yaD (l : List Iv) : D := .int .i64 (bas l)
@[go_sem] abbrev ycp : FuncId := 27
@[go_sem] def wa4 : Tab := [(68, qK), (67, kE)]
theorem bH : za Tryz.prog wa4 := (za.cons qU (za.cons zP za.nil))
set_option maxRecDepth 8000 in
set_option maxHeartbeats 1000000 in
theorem baL (l : List Iv)  : yb Tryz.prog 27 [.sl (ivs l)] (yaD l) := by
  refine .of (xdc bH (Nat.le_of_ble_eq_true rfl) ?_)
  simp -implicitDefEqProofs only [cdA, go_sem, Go.Proofs.Tryz.f27, reduceIte, reduceCtorEq, Nat.reduceEqDiff, Nat.reduceAdd, Nat.reduceLeDiff, Nat.reduceSub, Nat.reduceMul, Nat.reduceLT, Nat.reduceShiftRight, Nat.reduceMod, Int.reduceLE, Int.reduceLT, Int.reduceToNat, List.cons.injEq, cdB]
  have hbad : ¬ xM l → 1 = bas l := fun h => by rw [bas, if_neg h]
  refine fun _ => ⟨fun h => hbad fun ho => ?_, fun h _ => ?_⟩
  · have := ho.1; omega
  refine SWp.loop (ι := { i : Nat // i ≤ l.length ∧ (∀ j, j < i → zaE (l.getD j default) ∧ (0 < j → (l.getD (j - 1) default).hash < (l.getD j default).hash)) }) (fun i => ⟨[(0, .sl (ivs l)), (8, .sl (ivs l)), (9, .int .i64 l.length), (10, .int .i64 i.1)], [], 0⟩) (fun i => l.length - i.1) ⟨0, by simp⟩ ?_ ?_
  · simp [go_sem]
  · rintro ⟨i, hi, hall⟩
    refine qb bH.toS vcL _ _ _ rfl ?_
    simp -implicitDefEqProofs only [cdA, go_sem, reduceIte, reduceCtorEq, Nat.reduceEqDiff, Nat.reduceAdd, Nat.reduceLeDiff, Nat.reduceSub, Nat.reduceMul, Nat.reduceLT, Nat.reduceShiftRight, Nat.reduceMod, Int.reduceLE, Int.reduceLT, Int.reduceToNat, List.cons.injEq, cdB]
    refine ⟨fun h1 => ⟨by omega, ?_⟩, fun h1 => ?_⟩
    · refine uc.run qbP bH qa (by kernel_rfl) (by kernel_rfl) ?_
      simp -implicitDefEqProofs only [cdA, go_sem, reduceIte, reduceCtorEq, Nat.reduceEqDiff, Nat.reduceAdd, Nat.reduceLeDiff, Nat.reduceSub, Nat.reduceMul, Nat.reduceLT, Nat.reduceShiftRight, Nat.reduceMod, Int.reduceLE, Int.reduceLT, Int.reduceToNat, List.cons.injEq, cdB]
      have hi' : i < l.length := by omega
      have hnext : (0 < i → (l.getD (i - 1) default).hash < (l.getD i default).hash) →
          (¬(l.getD i default).n = 0 ∧ (l.getD i default).n ≤ MM → (¬(l.getD i default).state < 1 → (3 < (l.getD i default).state → 1 = bas l) ∧ (¬3 < (l.getD i default).state →
              ∃ i_1 : { i : Nat // i ≤ l.length ∧ (∀ j, j < i → zaE (l.getD j default) ∧ (0 < j → (l.getD (j - 1) default).hash < (l.getD j default).hash)) }, l.length - i_1.val < l.length - i ∧ IntKind.i64.wrap ((i : Int) + 1) = i_1.val)) ∧ ((l.getD i default).state < 1 → 1 = bas l)) ∧
          (¬(¬(l.getD i default).n = 0 ∧ (l.getD i default).n ≤ MM) → 1 = bas l) := fun ho => by
        have hm : xM l → zaE (l.getD i default) := fun h => h.2.1 _ (xb.2 ⟨i, hi', rfl⟩)
        refine ⟨fun h2 => ⟨fun h3 => ⟨fun h4 => hbad fun h => ?_, fun h4 => ⟨⟨i + 1, hi', fun j hj => ?_⟩, by dsimp only; omega, i64_in _ (by omega)⟩⟩, fun h3 => hbad fun h => ?_⟩, fun h2 => hbad fun h => h2 (hm h).1⟩
        · have := (hm h).2.2; omega
        · by_cases hji : j = i
          · subst hji; exact ⟨⟨h2, by omega, by omega⟩, ho⟩
          · exact hall j (by omega)
        · have := (hm h).2.1; omega
      refine ⟨fun h2 => ?_, fun h2 => hnext fun h => absurd h (by omega)⟩
      rw [i64_in _ (by omega), show ((i : Int) - 1).toNat = i - 1 by omega]
      have hc : ∀ a b : Nat, 0 ≤ waf a b ↔ ¬ a < b := fun a b => by
        have := xk (x := a) (y := b); omega
      rw [hc]
      exact ⟨by omega, fun h3 => hnext fun _ => by omega, fun h3 => hbad fun h => h3 (h.2.2 i hi' (by omega))⟩
    · have hi' : i = l.length := by omega
      subst hi'
      rw [bas, if_pos]
      exact ⟨by omega, fun x hx => by obtain ⟨j, hj, rfl⟩ := xb.1 hx; exact (hall j hj).1, fun j hj h0 => (hall j hj).2 h0⟩
def yx : List D → Option (Prop × D × Fr)
  | [.c (.sl z155)] => some (z155 = ivs (xm z155), yaD (xm z155), [])
  | _ => none
attribute [go_sem] yx
theorem vC : ∀ rs p r fr, yx rs = some (p, r, fr) → p → qg Tryz.prog 27 rs r fr := by
  intro rs p r fr h hp
  unfold yx at h
  split at h <;> cases h
  have hc0 := hp
  rename_i z155
  obtain ⟨z155, rfl⟩ : ∃ m, z155 = ivs m := ⟨_, hc0⟩
  simp only [qc]
  exact baL z155
end Dm

import Derived.Test.YtpaojpjhppgoeaaD8
set_option linter.unusedSimpArgs false
set_option linter.unusedVariables false
/-! What 'slices.Insert' makes of one element more. -/
namespace Dm
open Go
theorem fit_take {c sz n : Nat} {E : List (List C)} (h : n ≤ E.length) (h' : n ≤ c) : (fit c sz E).take n = E.take n := by
  rw [fit, List.take_take, Nat.min_eq_left h', List.take_append_of_le_length h]
theorem lay_length {E X : List (List C)} {i : Nat} (h : i + X.length ≤ E.length) : (lay E i X).length = E.length := setAt_length _ _ _ h
theorem lay_get {E X : List (List C)} {i p : Nat} (h : i + X.length ≤ E.length) : (lay E i X)[p]? = if i ≤ p ∧ p < i + X.length then X[p - i]? else E[p]? := setAt_get h
theorem ins_get {E : List (List C)} {x : List C} {i k : Nat} (h : i ≤ E.length) : (E.take i ++ x :: E.drop i)[k]? = if k < i then E[k]? else if k = i then some x else E[k - 1]? := by
  have h1 : (E.take i).length = i := by rw [List.length_take]; omega
  by_cases hk : k < i
  · rw [if_pos hk, List.getElem?_append_left (by omega), List.getElem?_take_of_lt hk]
  · rw [if_neg hk, List.getElem?_append_right (by omega), h1]
    by_cases hk2 : k = i
    · rw [if_pos hk2, hk2, Nat.sub_self]; rfl
    · rw [if_neg hk2, show k - i = (k - i - 1) + 1 by omega, List.getElem?_cons_succ, List.getElem?_drop]
      congr 1
      omega
theorem ins_lay {sz c i n : Nat} {E A : List (List C)} {x : List C} (hn : n = E.length) (hi : i < n) (h2 : n + 1 ≤ c) (hA : (lay A i [x]).length = c) (hA0 : ∀ k, k < i → A[k]? = E[k]?) (hAl : A.length = c) :
    (fit c sz (lay (fit c sz (lay A i [x])) (i + 1) (E.drop i))).take (n + 1) = E.take i ++ x :: E.drop i := by
  subst hn
  have hd : (E.drop i).length = E.length - i := List.length_drop
  rw [fit_eq hA, fit_eq (by rw [lay_length (by omega)]; exact hA)]
  apply List.ext_getElem?
  intro k
  rw [ins_get (by omega), List.getElem?_take]
  by_cases hk : k < E.length + 1
  · rw [if_pos hk, lay_get (by omega), lay_get (by simp only [List.length_singleton]; omega), hd]
    simp only [List.length_singleton]
    by_cases h3 : k < i
    · rw [if_neg (by omega), if_neg (by omega), if_pos h3, hA0 k h3]
    · rw [if_neg h3]
      by_cases h4 : k = i
      · rw [if_neg (by omega), if_pos (by omega), if_pos h4, h4, Nat.sub_self]; rfl
      · rw [if_pos (by omega), if_neg h4, List.getElem?_drop]
        congr 1
        omega
  · rw [if_neg hk, if_neg (by omega), if_neg (by omega), List.getElem?_eq_none (by omega)]
/-- Into a new row. -/
theorem ins_new {sz c c1 i : Nat} {E : List (List C)} {x z : List C} (hi : i < E.length) (hc : E.length ≤ c) (h2 : E.length + 1 ≤ c1) :
    (fit c1 sz (lay (fit c1 sz (lay (fit c1 sz ((fit c sz E).take i ++ List.replicate (E.length + 1 - i) z)) i ([x].take (E.length + 1 - i)))) (i + 1) ((((fit c sz E).take E.length).drop i).take (E.length + 1 - (i + 1))))).take (E.length + 1) = E.take i ++ x :: E.drop i := by
  rw [fit_take (c := c) (sz := sz) (E := E) (n := E.length) (Nat.le_refl _) hc, List.take_length, List.take_of_length_le (l := E.drop i) (by rw [List.length_drop]; omega), List.take_of_length_le (l := [x]) (by simp only [List.length_singleton]; omega), fit_take (c := c) (sz := sz) (E := E) (n := i) (by omega) (by omega)]
  refine ins_lay rfl hi h2 ?_ (fun k hk => ?_) (fit_length _ _ _)
  · rw [lay_length (by rw [fit_length]; simp only [List.length_singleton]; omega), fit_length]
  · rw [fit_get, if_pos (by omega), if_pos (by simp only [List.length_append, List.length_take, List.length_replicate]; omega), List.getElem?_append_left (by rw [List.length_take]; omega), List.getElem?_take_of_lt hk]
/-- In place. -/
theorem ins_old {sz c i : Nat} {E : List (List C)} {x : List C} (hi : i < E.length) (hc : E.length + 1 ≤ c) :
    (fit c sz (lay (fit c sz (lay (fit c sz E) (i + 1) ((((fit c sz E).take (E.length + 1)).drop i).take (E.length + 1 - (i + 1))))) i ([x].take (E.length + 1 - i)))).take (E.length + 1) = E.take i ++ x :: E.drop i := by
  have e1 : (((fit c sz E).take (E.length + 1)).drop i).take (E.length + 1 - (i + 1)) = E.drop i := by
    apply List.ext_getElem?
    intro k
    rw [List.getElem?_take, List.getElem?_drop, List.getElem?_drop, List.getElem?_take, fit_get]
    by_cases h : k < E.length + 1 - (i + 1)
    · rw [if_pos h, if_pos (by omega), if_pos (by omega), if_pos (by omega)]
    · rw [if_neg h, List.getElem?_eq_none (by omega)]
  have hd : (E.drop i).length = E.length - i := List.length_drop
  have hl : (lay (fit c sz E) (i + 1) (E.drop i)).length = c := by rw [lay_length (by rw [fit_length, hd]; omega), fit_length]
  rw [e1, List.take_of_length_le (l := [x]) (by simp only [List.length_singleton]; omega), fit_eq hl, fit_eq (by rw [lay_length (by rw [hl]; simp only [List.length_singleton]; omega), hl])]
  apply List.ext_getElem?
  intro k
  rw [ins_get (by omega), List.getElem?_take]
  by_cases hk : k < E.length + 1
  · rw [if_pos hk, lay_get (by rw [hl]; simp only [List.length_singleton]; omega), lay_get (by rw [fit_length, hd]; omega), hd]
    simp only [List.length_singleton]
    by_cases h3 : k < i
    · rw [if_neg (by omega), if_neg (by omega), if_pos h3, fit_get, if_pos (by omega), if_pos (by omega)]
    · rw [if_neg h3]
      by_cases h4 : k = i
      · rw [if_pos (by omega), if_pos h4, h4, Nat.sub_self]; rfl
      · rw [if_neg (by omega), if_pos (by omega), if_neg h4, List.getElem?_drop]
        congr 1
        omega
  · rw [if_neg hk, if_neg (by omega), if_neg (by omega), List.getElem?_eq_none (by omega)]
end Dm

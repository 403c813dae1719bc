import Derived.Test.YtfngdpmbhfejcaaS20
import Derived.Test.YtfngdpmbhfejcaaF3
set_option linter.unusedSimpArgs false
set_option linter.unusedVariables false
namespace Dm
open Go Go.Proofs Go.IntWalk
theorem rev_take {n k : Nat} (h : k < n) : (List.finRange n).reverse.take k ++ [⟨n - 1 - k, by omega⟩] = (List.finRange n).reverse.take (k + 1) := by
  have hl : k < (List.finRange n).reverse.length := by simpa using h
  rw [List.take_add_one, List.getElem?_eq_getElem hl]
  simp
set_option maxRecDepth 4000 in
theorem back_iter (l : List Ev) (hl : l.length ≤ 1000000) : IterOk Try.prog 30 [.rp [.sl (evs l)]] (m := l.length) (fun x => [.int .i64 x.1, .agg ((l.getD x.1 default).enc.map .c)]) (List.finRange l.length).reverse := by
  refine IterOk.of (n := 19) (fn := Try.f30) (by kernel_rfl) rfl rfl rfl (Nat.le_of_ble_eq_true rfl) rfl ?_ ?_
  · intro x d hd
    simp only [List.mem_cons, List.not_mem_nil, or_false] at hd
    rcases hd with rfl | rfl <;> rfl
  · intro y I J Jx enc hY
    refine SY.seq (SY.region .nil hY rfl ?_)
    simp -implicitDefEqProofs only [aopsY, yargs, go_sem, reduceIte, reduceCtorEq, Nat.reduceEqDiff, Nat.reduceAdd, Nat.reduceLeDiff, Nat.reduceSub, Nat.reduceMul, Nat.reduceLT]
    refine fun _ => SY.block (SY.loop l.length (fun k => ⟨[(0, .fn (.yield y) [] []), (1, .rp [.sl (evs l)]), (3, .int .i64 ((l.length : Int) - 1 - k))], [], 0⟩) (fun k => ((List.finRange l.length).reverse.take k, true)) 0 ?_ (Nat.zero_le _) ?_)
    · intro a w h
      rw [i64_in _ (by omega)] at h
      have h := h.sub (s' := ⟨[(0, .fn (.yield y) [] []), (1, .rp [.sl (evs l)]), (3, .int .i64 ((l.length : Int) - 1 - (0 : Nat)))], [], 0⟩) ⟨rfl, rfl, by simp [go_sem]⟩
      simpa using h
    · intro k hk
      refine SY.seq (SY.seq (SY.region .nil hY rfl ?_))
      simp -implicitDefEqProofs only [aopsY, yargs, go_sem, reduceIte, reduceCtorEq, Nat.reduceEqDiff, Nat.reduceAdd, Nat.reduceLeDiff, Nat.reduceSub, Nat.reduceMul, Nat.reduceLT]
      refine SY.cond rfl (fun hc => SY.skip ?_) (fun hc => SY.exit ?_)
      · have hk' : k < l.length := by simp at hc; omega
        refine SY.seq (SY.block (SY.seq (SY.region .nil hY rfl ?_)))
        simp -implicitDefEqProofs only [aopsY, yargs, go_sem, reduceIte, reduceCtorEq, Nat.reduceEqDiff, Nat.reduceAdd, Nat.reduceLeDiff, Nat.reduceSub, Nat.reduceMul, Nat.reduceLT]
        refine ⟨by omega, by simp; omega, ⟨l.length - 1 - k, by omega⟩, ?_, ?_, ?_⟩
        · have e1 : ((l.length : Int) - 1 - k).toNat = l.length - 1 - k := by omega
          have e2 : ((l.length : Int) - 1 - k) = ((l.length - 1 - k : Nat) : Int) := by omega
          rw [e1, e2]
        · refine SY.cond (b := false) rfl (fun h => by cases h) (fun _ => SY.skip (SY.region .nil hY rfl ?_))
          simp -implicitDefEqProofs only [aopsY, yargs, go_sem, reduceIte, reduceCtorEq, Nat.reduceEqDiff, Nat.reduceAdd, Nat.reduceLeDiff, Nat.reduceSub, Nat.reduceMul, Nat.reduceLT]
          rw [i64_in _ (by omega)]
          exact ⟨hk', by rw [rev_take hk'], by omega⟩
        · refine SY.cond (b := true) rfl (fun _ => SY.ret ?_) (fun h => by cases h)
          refine ⟨.inr rfl, .inr ⟨rfl, ?_⟩⟩
          rw [rev_take hk']
          exact List.take_prefix _ _
      · have hk' : k = l.length := by simp at hc; omega
        have : List.take l.length (List.finRange l.length).reverse = (List.finRange l.length).reverse := List.take_of_length_le (by simp)
        simp [hk', this]

theorem back_ok (l : List Ev) : PureFn Try.prog 25 [.sl (evs l)] (.fn (.func 30) [] [.rp [.sl (evs l)]]) := by
  refine .of (ac25 .nil (Nat.le_of_ble_eq_true rfl) ?_)
  simp -implicitDefEqProofs only [cd_t, cd_f, cd_dec, cd_not, cd_and, cd_or, grd_tt, grd_ff, grd_tf, grd_ft, grd_dt, grd_df, grd_nt, grd_nf, go_sem, Go.Proofs.Try.f25, reduceIte, reduceCtorEq, Nat.reduceEqDiff, Nat.reduceAdd, Nat.reduceLeDiff, Nat.reduceSub, Nat.reduceMul, Nat.reduceLT]
  exact ⟨_, rfl, rfl⟩
end Dm

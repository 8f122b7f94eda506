/- Contracts of functions of the program over the abstract machine. -/
import Derived.Test.YthbkdnojneffdaaT4
namespace Go.Proofs.Ythbkdnojneffdaa
open Go.Am

set_option maxHeartbeats 1000000 in
theorem c11 (l : List Cel) (hl : l.length < 4611686018427387904) : Contract Try.prog 11 [encL l] (.pure (.v (.bool (validB l)))) := by
  have c13l := c13 l hl
  unfold encL at c13l ⊢
  refine contract_g (fr := [.vs (l.map Cel.enc), .v undef, .v undef, .v undef, .v undef, .v undef, .v undef, .v undef, .v undef, .v undef, .v undef, .v undef, .v undef, .v undef, .v undef, .v undef, .v undef, .v undef]) Try.func11 a11_ok rfl ?_
  dsimp only [a11]
  (repeat' first
    | with_reducible refine G_seq ?_
    | with_reducible refine G_reg ?_
    | with_reducible refine regW_nil ?_
    | with_reducible refine Nx_code ?_
    | with_reducible refine Nx_blk ?_
    | with_reducible refine Ex_blk ?_
    | with_reducible refine Ex_code ?_
    | with_reducible refine Ex_inv ?_
    | with_reducible refine G_exit ?_
    | with_reducible refine G_block ?_
    | with_reducible refine G_ret ?_
    | with_reducible refine G_skip ?_
    | ((with_reducible refine G_draw mixed (by decide +kernel) ?_))
    | ((with_reducible apply regW_iaM); (focus (dsimp only [ev_t, ev_c, getD_zero, getD_succ]; try exact rfl)); (focus (dsimp only [ev_t, ev_c, getD_zero, getD_succ]; try exact rfl)); (focus assumption); (focus (with_unfolding_all exact rfl)); (focus (dsimp only [set_zero, set_succ]; try exact rfl)))
    | ((with_reducible apply regW_lenM); (focus (dsimp only [ev_t, ev_c, getD_zero, getD_succ]; try exact rfl)); (focus (dsimp only [set_zero, set_succ]; try exact rfl)))
    | ((with_reducible apply regW_add); (focus (dsimp only [ev_t, ev_c, getD_zero, getD_succ]; try exact rfl)); (focus (dsimp only [ev_t, ev_c, getD_zero, getD_succ]; try exact rfl)); (focus (first | assumption | exact rfl)); (focus (dsimp only [set_zero, set_succ]; try exact rfl)))
    | ((with_reducible apply regW_sub); (focus (dsimp only [ev_t, ev_c, getD_zero, getD_succ]; try exact rfl)); (focus (dsimp only [ev_t, ev_c, getD_zero, getD_succ]; try exact rfl)); (focus (first | assumption | exact rfl)); (focus (dsimp only [set_zero, set_succ]; try exact rfl)))
    | ((with_reducible apply regW_ldE); (focus (dsimp only [ev_t, ev_c, getD_zero, getD_succ]; try exact rfl)); (focus (with_unfolding_all exact rfl)); (focus (dsimp only [set_zero, set_succ]; try exact rfl)))
    | ((with_reducible apply regW_ldB); (focus (dsimp only [ev_t, ev_c, getD_zero, getD_succ]; try exact rfl)); (focus (dsimp only [sidx_zero, sidx_succ]; try exact rfl)); (focus (with_unfolding_all exact rfl)); (focus (dsimp only [set_zero, set_succ]; try exact rfl)))
    | ((with_reducible apply regW_stB); (focus (dsimp only [ev_t, ev_c, getD_zero, getD_succ]; try exact rfl)); (focus (dsimp only [ev_t, ev_c, getD_zero, getD_succ]; try exact rfl)); (focus (dsimp only [sidx_zero, sidx_succ]; try exact rfl)); (focus (with_unfolding_all exact rfl)); (focus (with_unfolding_all exact rfl)); (focus (with_unfolding_all exact rfl)); (focus (dsimp only [set_zero, set_succ]; try exact rfl)))
    | ((with_reducible apply regW_eqT); (focus (dsimp only [ev_t, ev_c, getD_zero, getD_succ]; try exact rfl)); (focus (dsimp only [ev_t, ev_c, getD_zero, getD_succ]; try exact rfl)); (focus (dsimp only [vals?, Cel.enc, Val.enc, Option.map_some]; try exact rfl)); (focus (dsimp only [vals?, Cel.enc, Val.enc, Option.map_some]; try exact rfl)); (focus (first | exact eqVz _ | exact eqzV _ | exact eqV _ _ | exact eqC _ _)); (focus (dsimp only [set_zero, set_succ]; try exact rfl)))
    | ((with_reducible apply regW_neT); (focus (dsimp only [ev_t, ev_c, getD_zero, getD_succ]; try exact rfl)); (focus (dsimp only [ev_t, ev_c, getD_zero, getD_succ]; try exact rfl)); (focus (dsimp only [vals?, Cel.enc, Val.enc, Option.map_some]; try exact rfl)); (focus (dsimp only [vals?, Cel.enc, Val.enc, Option.map_some]; try exact rfl)); (focus (first | exact eqVz _ | exact eqzV _ | exact eqV _ _ | exact eqC _ _)); (focus (dsimp only [set_zero, set_succ]; try exact rfl)))
    | ((with_reducible apply regW_bs1); (focus (dsimp only [ev_t, ev_c, getD_zero, getD_succ]; try exact rfl)); (focus (with_unfolding_all exact rfl)); (focus (with_unfolding_all exact rfl)); (focus (with_unfolding_all exact rfl)); (focus (dsimp only [set_zero, set_succ, List.length_cons, List.length_nil, Nat.reduceAdd]; try exact rfl)); (focus (dsimp only [List.cons_append, List.nil_append]; try exact rfl)))
    | ((with_reducible apply regW_app); (focus (dsimp only [ev_t, ev_c, getD_zero, getD_succ]; try exact rfl)); (focus (dsimp only [sidx_zero, sidx_succ]; try exact rfl)); (focus (with_reducible exact rfl)); (focus (dsimp only [ev_t, ev_c, getD_zero, getD_succ]; try exact rfl)); (focus (dsimp only [sidx_zero, sidx_succ]; try exact rfl)); (focus (with_unfolding_all exact rfl)); (focus assumption); (focus decide); (focus (dsimp only [set_zero, set_succ, List.length_cons, List.length_nil, Nat.reduceAdd]; try exact rfl)); (focus (dsimp only [set_zero, set_succ, List.cons_append, List.nil_append]; try exact rfl)))
    | ((with_reducible apply regW_opS); (focus (dsimp only [semF, ev_t, ev_c, getD_zero, getD_succ, bin_lss, bin_leq, bin_gtr, bin_geq, bin_eql, bin_neq, bin_add, bin_sub, bin_mul, bin_and, bin_shr20, bin_rem20, un_not, cond_true, cond_false, Nat.reduceAdd, Bool.not_true, Bool.not_false, scalar, Bool.and_self, if_true, if_false, Bool.false_eq_true, Option.map_some, AV.cells?, getCells, sidx_zero, sidx_succ, List.length_cons, List.length_nil, List.nil_append, List.cons_append, List.append_nil, List.drop, List.take, splice, Cel.enc, Val.enc]; try exact rfl)); (focus (dsimp only [set_zero, set_succ]; try exact rfl)))
    | ((with_reducible apply regW_op); (focus (dsimp only [semF, ev_t, ev_c, getD_zero, getD_succ, bin_lss, bin_leq, bin_gtr, bin_geq, bin_eql, bin_neq, bin_add, bin_sub, bin_mul, bin_and, bin_shr20, bin_rem20, un_not, cond_true, cond_false, Nat.reduceAdd, Bool.not_true, Bool.not_false, scalar, Bool.and_self, if_true, if_false, Bool.false_eq_true, Option.map_some, AV.cells?, getCells, sidx_zero, sidx_succ, List.length_cons, List.length_nil, List.nil_append, List.cons_append, List.append_nil, List.drop, List.take, splice]; try exact rfl)); (focus (dsimp only [set_zero, set_succ]; try exact rfl)))
    | ((with_reducible apply regW_shut'); (focus (dsimp only [getD_zero, getD_succ]; try (with_reducible exact rfl); done)); (focus (dsimp only [set_zero, set_succ]; try exact rfl)))
    | ((with_reducible apply regW_splitT); (focus (dsimp only [getD_zero, getD_succ]; try exact rfl)); all_goals (intro hc; (try dsimp only [set_zero, set_succ]); (try (with_reducible cases hc)); (try (with_reducible contradiction)); (try rw [hc])))
    | ((with_reducible apply regW_splitF); (focus (dsimp only [getD_zero, getD_succ]; try exact rfl)); all_goals (intro hc; (try dsimp only [set_zero, set_succ]); (try (with_reducible cases hc)); (try (with_reducible contradiction)); (try rw [hc])))
    | ((with_reducible apply regW_opN); (focus (dsimp only [semF, ev_t, ev_c, getD_zero, getD_succ, bin_lss, bin_leq, bin_gtr, bin_geq, bin_eql, bin_neq, bin_add, bin_sub, bin_mul, bin_and, bin_shr20, bin_rem20, un_not, cond_true, cond_false, Nat.reduceAdd, Bool.not_true, Bool.not_false, scalar, Bool.and_self, if_true, if_false, Bool.false_eq_true, Option.map_some, AV.cells?, getCells, sidx_zero, sidx_succ, List.length_cons, List.length_nil, List.nil_append, List.cons_append, List.append_nil, List.drop, List.take, splice, set_zero, set_succ]; try exact rfl)))
    | ((with_reducible apply G_cond); (focus (dsimp only [ev_t, ev_c, getD_zero, getD_succ]; try exact rfl)); all_goals (intro hc; (try (with_reducible cases hc)); (try (with_reducible contradiction)))))
  refine G_loopF (fun k : Nat => ⟨[.vs (l.map Cel.enc), .und, .und, .und, .und, .vs (l.map Cel.enc), .v (.int .i64 (l.length : Int)), .v (.int .i64 (k : Int)), .und, .und, .und, .und, .und, .und, .und, .und, .und, .und], []⟩) (fun k => k ≤ l.length ∧ validB l = (solidB (l.drop k) && writesB l)) (fun k => l.length - k) 0 [] ?_ ⟨by omega, rfl⟩ ?_
  · (refine ⟨by decide, rfl, ?_, ?_⟩ <;> repeat' first
      | exact True.intro
      | ((refine And.intro (Or.inl ?_) ?_); (focus (with_reducible exact rfl)))
      | ((refine And.intro (Or.inr (And.intro ?_ (And.intro rfl rfl))) ?_); (focus (dsimp only [AV.ren, getD_zero, getD_succ]; try (with_reducible exact rfl); done)))
      | (refine And.intro (Or.inr (And.intro ?_ (And.intro rfl rfl))) ?_)
      | (with_reducible exact weakO_row rfl)
      | (refine And.intro (Exists.intro _ (And.intro rfl ?_)) ?_)
      | (refine Exists.intro _ (And.intro rfl ?_))
      | (with_reducible exact rfl))
    rfl
  · intro k ⟨hk, hI⟩
    by_cases hlt : k < l.length
    · have hck : l[k]? = some l[k] := List.getElem?_eq_getElem hlt
      generalize l[k] = c at hck
      have hd : ¬ (decide ((k : Int) < (l.length : Int)) = false) := by simp; omega
      have hw1 := wrap_succ k (by omega)
      have hat : solidB (l.drop k) = (!c.v.beq Val.zero && solidB (l.drop (k + 1))) := by rw [drop_at hck]; simp [solidB]
      (repeat' first
    | with_reducible refine G_seq ?_
    | with_reducible refine G_reg ?_
    | with_reducible refine regW_nil ?_
    | with_reducible refine Nx_code ?_
    | with_reducible refine Nx_blk ?_
    | with_reducible refine Ex_blk ?_
    | with_reducible refine Ex_code ?_
    | with_reducible refine Ex_inv ?_
    | with_reducible refine G_exit ?_
    | with_reducible refine G_block ?_
    | with_reducible refine G_ret ?_
    | with_reducible refine G_skip ?_
    | ((with_reducible refine G_draw mixed (by decide +kernel) ?_))
    | ((with_reducible apply regW_iaM); (focus (dsimp only [ev_t, ev_c, getD_zero, getD_succ]; try exact rfl)); (focus (dsimp only [ev_t, ev_c, getD_zero, getD_succ]; try exact rfl)); (focus assumption); (focus (with_unfolding_all exact rfl)); (focus (dsimp only [set_zero, set_succ]; try exact rfl)))
    | ((with_reducible apply regW_lenM); (focus (dsimp only [ev_t, ev_c, getD_zero, getD_succ]; try exact rfl)); (focus (dsimp only [set_zero, set_succ]; try exact rfl)))
    | ((with_reducible apply regW_add); (focus (dsimp only [ev_t, ev_c, getD_zero, getD_succ]; try exact rfl)); (focus (dsimp only [ev_t, ev_c, getD_zero, getD_succ]; try exact rfl)); (focus (first | assumption | exact rfl)); (focus (dsimp only [set_zero, set_succ]; try exact rfl)))
    | ((with_reducible apply regW_sub); (focus (dsimp only [ev_t, ev_c, getD_zero, getD_succ]; try exact rfl)); (focus (dsimp only [ev_t, ev_c, getD_zero, getD_succ]; try exact rfl)); (focus (first | assumption | exact rfl)); (focus (dsimp only [set_zero, set_succ]; try exact rfl)))
    | ((with_reducible apply regW_ldE); (focus (dsimp only [ev_t, ev_c, getD_zero, getD_succ]; try exact rfl)); (focus (with_unfolding_all exact rfl)); (focus (dsimp only [set_zero, set_succ]; try exact rfl)))
    | ((with_reducible apply regW_ldB); (focus (dsimp only [ev_t, ev_c, getD_zero, getD_succ]; try exact rfl)); (focus (dsimp only [sidx_zero, sidx_succ]; try exact rfl)); (focus (with_unfolding_all exact rfl)); (focus (dsimp only [set_zero, set_succ]; try exact rfl)))
    | ((with_reducible apply regW_stB); (focus (dsimp only [ev_t, ev_c, getD_zero, getD_succ]; try exact rfl)); (focus (dsimp only [ev_t, ev_c, getD_zero, getD_succ]; try exact rfl)); (focus (dsimp only [sidx_zero, sidx_succ]; try exact rfl)); (focus (with_unfolding_all exact rfl)); (focus (with_unfolding_all exact rfl)); (focus (with_unfolding_all exact rfl)); (focus (dsimp only [set_zero, set_succ]; try exact rfl)))
    | ((with_reducible apply regW_eqT); (focus (dsimp only [ev_t, ev_c, getD_zero, getD_succ]; try exact rfl)); (focus (dsimp only [ev_t, ev_c, getD_zero, getD_succ]; try exact rfl)); (focus (dsimp only [vals?, Cel.enc, Val.enc, Option.map_some]; try exact rfl)); (focus (dsimp only [vals?, Cel.enc, Val.enc, Option.map_some]; try exact rfl)); (focus (first | exact eqVz _ | exact eqzV _ | exact eqV _ _ | exact eqC _ _)); (focus (dsimp only [set_zero, set_succ]; try exact rfl)))
    | ((with_reducible apply regW_neT); (focus (dsimp only [ev_t, ev_c, getD_zero, getD_succ]; try exact rfl)); (focus (dsimp only [ev_t, ev_c, getD_zero, getD_succ]; try exact rfl)); (focus (dsimp only [vals?, Cel.enc, Val.enc, Option.map_some]; try exact rfl)); (focus (dsimp only [vals?, Cel.enc, Val.enc, Option.map_some]; try exact rfl)); (focus (first | exact eqVz _ | exact eqzV _ | exact eqV _ _ | exact eqC _ _)); (focus (dsimp only [set_zero, set_succ]; try exact rfl)))
    | ((with_reducible apply regW_bs1); (focus (dsimp only [ev_t, ev_c, getD_zero, getD_succ]; try exact rfl)); (focus (with_unfolding_all exact rfl)); (focus (with_unfolding_all exact rfl)); (focus (with_unfolding_all exact rfl)); (focus (dsimp only [set_zero, set_succ, List.length_cons, List.length_nil, Nat.reduceAdd]; try exact rfl)); (focus (dsimp only [List.cons_append, List.nil_append]; try exact rfl)))
    | ((with_reducible apply regW_app); (focus (dsimp only [ev_t, ev_c, getD_zero, getD_succ]; try exact rfl)); (focus (dsimp only [sidx_zero, sidx_succ]; try exact rfl)); (focus (with_reducible exact rfl)); (focus (dsimp only [ev_t, ev_c, getD_zero, getD_succ]; try exact rfl)); (focus (dsimp only [sidx_zero, sidx_succ]; try exact rfl)); (focus (with_unfolding_all exact rfl)); (focus assumption); (focus decide); (focus (dsimp only [set_zero, set_succ, List.length_cons, List.length_nil, Nat.reduceAdd]; try exact rfl)); (focus (dsimp only [set_zero, set_succ, List.cons_append, List.nil_append]; try exact rfl)))
    | ((with_reducible apply regW_opS); (focus (dsimp only [semF, ev_t, ev_c, getD_zero, getD_succ, bin_lss, bin_leq, bin_gtr, bin_geq, bin_eql, bin_neq, bin_add, bin_sub, bin_mul, bin_and, bin_shr20, bin_rem20, un_not, cond_true, cond_false, Nat.reduceAdd, Bool.not_true, Bool.not_false, scalar, Bool.and_self, if_true, if_false, Bool.false_eq_true, Option.map_some, AV.cells?, getCells, sidx_zero, sidx_succ, List.length_cons, List.length_nil, List.nil_append, List.cons_append, List.append_nil, List.drop, List.take, splice, Cel.enc, Val.enc]; try exact rfl)); (focus (dsimp only [set_zero, set_succ]; try exact rfl)))
    | ((with_reducible apply regW_op); (focus (dsimp only [semF, ev_t, ev_c, getD_zero, getD_succ, bin_lss, bin_leq, bin_gtr, bin_geq, bin_eql, bin_neq, bin_add, bin_sub, bin_mul, bin_and, bin_shr20, bin_rem20, un_not, cond_true, cond_false, Nat.reduceAdd, Bool.not_true, Bool.not_false, scalar, Bool.and_self, if_true, if_false, Bool.false_eq_true, Option.map_some, AV.cells?, getCells, sidx_zero, sidx_succ, List.length_cons, List.length_nil, List.nil_append, List.cons_append, List.append_nil, List.drop, List.take, splice]; try exact rfl)); (focus (dsimp only [set_zero, set_succ]; try exact rfl)))
    | ((with_reducible apply regW_shut'); (focus (dsimp only [getD_zero, getD_succ]; try (with_reducible exact rfl); done)); (focus (dsimp only [set_zero, set_succ]; try exact rfl)))
    | ((with_reducible apply regW_splitT); (focus (dsimp only [getD_zero, getD_succ]; try exact rfl)); all_goals (intro hc; (try dsimp only [set_zero, set_succ]); (try (with_reducible cases hc)); (try (with_reducible contradiction)); (try rw [hc])))
    | ((with_reducible apply regW_splitF); (focus (dsimp only [getD_zero, getD_succ]; try exact rfl)); all_goals (intro hc; (try dsimp only [set_zero, set_succ]); (try (with_reducible cases hc)); (try (with_reducible contradiction)); (try rw [hc])))
    | ((with_reducible apply regW_opN); (focus (dsimp only [semF, ev_t, ev_c, getD_zero, getD_succ, bin_lss, bin_leq, bin_gtr, bin_geq, bin_eql, bin_neq, bin_add, bin_sub, bin_mul, bin_and, bin_shr20, bin_rem20, un_not, cond_true, cond_false, Nat.reduceAdd, Bool.not_true, Bool.not_false, scalar, Bool.and_self, if_true, if_false, Bool.false_eq_true, Option.map_some, AV.cells?, getCells, sidx_zero, sidx_succ, List.length_cons, List.length_nil, List.nil_append, List.cons_append, List.append_nil, List.drop, List.take, splice, set_zero, set_succ]; try exact rfl)))
    | ((with_reducible apply G_cond); (focus (dsimp only [ev_t, ev_c, getD_zero, getD_succ]; try exact rfl)); all_goals (intro hc; (try (with_reducible cases hc)); (try (with_reducible contradiction)))))
      all_goals first
        | (refine ⟨_, rfl, .inl ⟨_, rfl, ret_bool ?_⟩⟩; rw [hI, hat]; clear hI hat; grind)
        | (refine Nx_round (k + 1) [] ?_ ⟨by omega, ?_⟩ (by omega); (focus (refine ⟨by decide, rfl, ?_, ?_⟩ <;> repeat' first
      | exact True.intro
      | ((refine And.intro (Or.inl ?_) ?_); (focus (with_reducible exact rfl)))
      | ((refine And.intro (Or.inr (And.intro ?_ (And.intro rfl rfl))) ?_); (focus (dsimp only [AV.ren, getD_zero, getD_succ]; try (with_reducible exact rfl); done)))
      | (refine And.intro (Or.inr (And.intro ?_ (And.intro rfl rfl))) ?_)
      | (with_reducible exact weakO_row rfl)
      | (refine And.intro (Exists.intro _ (And.intro rfl ?_)) ?_)
      | (refine Exists.intro _ (And.intro rfl ?_))
      | (with_reducible exact rfl))); (rw [hI, hat]; clear hI hat; grind))
    · have hd : ¬ (decide ((k : Int) < (l.length : Int)) = true) := by simp; omega
      (repeat' first
    | with_reducible refine G_seq ?_
    | with_reducible refine G_reg ?_
    | with_reducible refine regW_nil ?_
    | with_reducible refine Nx_code ?_
    | with_reducible refine Nx_blk ?_
    | with_reducible refine Ex_blk ?_
    | with_reducible refine Ex_code ?_
    | with_reducible refine Ex_inv ?_
    | with_reducible refine G_exit ?_
    | with_reducible refine G_block ?_
    | with_reducible refine G_ret ?_
    | with_reducible refine G_skip ?_
    | ((with_reducible refine G_draw mixed (by decide +kernel) ?_))
    | ((with_reducible apply regW_iaM); (focus (dsimp only [ev_t, ev_c, getD_zero, getD_succ]; try exact rfl)); (focus (dsimp only [ev_t, ev_c, getD_zero, getD_succ]; try exact rfl)); (focus assumption); (focus (with_unfolding_all exact rfl)); (focus (dsimp only [set_zero, set_succ]; try exact rfl)))
    | ((with_reducible apply regW_lenM); (focus (dsimp only [ev_t, ev_c, getD_zero, getD_succ]; try exact rfl)); (focus (dsimp only [set_zero, set_succ]; try exact rfl)))
    | ((with_reducible apply regW_add); (focus (dsimp only [ev_t, ev_c, getD_zero, getD_succ]; try exact rfl)); (focus (dsimp only [ev_t, ev_c, getD_zero, getD_succ]; try exact rfl)); (focus (first | assumption | exact rfl)); (focus (dsimp only [set_zero, set_succ]; try exact rfl)))
    | ((with_reducible apply regW_sub); (focus (dsimp only [ev_t, ev_c, getD_zero, getD_succ]; try exact rfl)); (focus (dsimp only [ev_t, ev_c, getD_zero, getD_succ]; try exact rfl)); (focus (first | assumption | exact rfl)); (focus (dsimp only [set_zero, set_succ]; try exact rfl)))
    | ((with_reducible apply regW_ldE); (focus (dsimp only [ev_t, ev_c, getD_zero, getD_succ]; try exact rfl)); (focus (with_unfolding_all exact rfl)); (focus (dsimp only [set_zero, set_succ]; try exact rfl)))
    | ((with_reducible apply regW_ldB); (focus (dsimp only [ev_t, ev_c, getD_zero, getD_succ]; try exact rfl)); (focus (dsimp only [sidx_zero, sidx_succ]; try exact rfl)); (focus (with_unfolding_all exact rfl)); (focus (dsimp only [set_zero, set_succ]; try exact rfl)))
    | ((with_reducible apply regW_stB); (focus (dsimp only [ev_t, ev_c, getD_zero, getD_succ]; try exact rfl)); (focus (dsimp only [ev_t, ev_c, getD_zero, getD_succ]; try exact rfl)); (focus (dsimp only [sidx_zero, sidx_succ]; try exact rfl)); (focus (with_unfolding_all exact rfl)); (focus (with_unfolding_all exact rfl)); (focus (with_unfolding_all exact rfl)); (focus (dsimp only [set_zero, set_succ]; try exact rfl)))
    | ((with_reducible apply regW_eqT); (focus (dsimp only [ev_t, ev_c, getD_zero, getD_succ]; try exact rfl)); (focus (dsimp only [ev_t, ev_c, getD_zero, getD_succ]; try exact rfl)); (focus (dsimp only [vals?, Cel.enc, Val.enc, Option.map_some]; try exact rfl)); (focus (dsimp only [vals?, Cel.enc, Val.enc, Option.map_some]; try exact rfl)); (focus (first | exact eqVz _ | exact eqzV _ | exact eqV _ _ | exact eqC _ _)); (focus (dsimp only [set_zero, set_succ]; try exact rfl)))
    | ((with_reducible apply regW_neT); (focus (dsimp only [ev_t, ev_c, getD_zero, getD_succ]; try exact rfl)); (focus (dsimp only [ev_t, ev_c, getD_zero, getD_succ]; try exact rfl)); (focus (dsimp only [vals?, Cel.enc, Val.enc, Option.map_some]; try exact rfl)); (focus (dsimp only [vals?, Cel.enc, Val.enc, Option.map_some]; try exact rfl)); (focus (first | exact eqVz _ | exact eqzV _ | exact eqV _ _ | exact eqC _ _)); (focus (dsimp only [set_zero, set_succ]; try exact rfl)))
    | ((with_reducible apply regW_bs1); (focus (dsimp only [ev_t, ev_c, getD_zero, getD_succ]; try exact rfl)); (focus (with_unfolding_all exact rfl)); (focus (with_unfolding_all exact rfl)); (focus (with_unfolding_all exact rfl)); (focus (dsimp only [set_zero, set_succ, List.length_cons, List.length_nil, Nat.reduceAdd]; try exact rfl)); (focus (dsimp only [List.cons_append, List.nil_append]; try exact rfl)))
    | ((with_reducible apply regW_app); (focus (dsimp only [ev_t, ev_c, getD_zero, getD_succ]; try exact rfl)); (focus (dsimp only [sidx_zero, sidx_succ]; try exact rfl)); (focus (with_reducible exact rfl)); (focus (dsimp only [ev_t, ev_c, getD_zero, getD_succ]; try exact rfl)); (focus (dsimp only [sidx_zero, sidx_succ]; try exact rfl)); (focus (with_unfolding_all exact rfl)); (focus assumption); (focus decide); (focus (dsimp only [set_zero, set_succ, List.length_cons, List.length_nil, Nat.reduceAdd]; try exact rfl)); (focus (dsimp only [set_zero, set_succ, List.cons_append, List.nil_append]; try exact rfl)))
    | ((with_reducible apply regW_opS); (focus (dsimp only [semF, ev_t, ev_c, getD_zero, getD_succ, bin_lss, bin_leq, bin_gtr, bin_geq, bin_eql, bin_neq, bin_add, bin_sub, bin_mul, bin_and, bin_shr20, bin_rem20, un_not, cond_true, cond_false, Nat.reduceAdd, Bool.not_true, Bool.not_false, scalar, Bool.and_self, if_true, if_false, Bool.false_eq_true, Option.map_some, AV.cells?, getCells, sidx_zero, sidx_succ, List.length_cons, List.length_nil, List.nil_append, List.cons_append, List.append_nil, List.drop, List.take, splice, Cel.enc, Val.enc]; try exact rfl)); (focus (dsimp only [set_zero, set_succ]; try exact rfl)))
    | ((with_reducible apply regW_op); (focus (dsimp only [semF, ev_t, ev_c, getD_zero, getD_succ, bin_lss, bin_leq, bin_gtr, bin_geq, bin_eql, bin_neq, bin_add, bin_sub, bin_mul, bin_and, bin_shr20, bin_rem20, un_not, cond_true, cond_false, Nat.reduceAdd, Bool.not_true, Bool.not_false, scalar, Bool.and_self, if_true, if_false, Bool.false_eq_true, Option.map_some, AV.cells?, getCells, sidx_zero, sidx_succ, List.length_cons, List.length_nil, List.nil_append, List.cons_append, List.append_nil, List.drop, List.take, splice]; try exact rfl)); (focus (dsimp only [set_zero, set_succ]; try exact rfl)))
    | ((with_reducible apply regW_shut'); (focus (dsimp only [getD_zero, getD_succ]; try (with_reducible exact rfl); done)); (focus (dsimp only [set_zero, set_succ]; try exact rfl)))
    | ((with_reducible apply regW_splitT); (focus (dsimp only [getD_zero, getD_succ]; try exact rfl)); all_goals (intro hc; (try dsimp only [set_zero, set_succ]); (try (with_reducible cases hc)); (try (with_reducible contradiction)); (try rw [hc])))
    | ((with_reducible apply regW_splitF); (focus (dsimp only [getD_zero, getD_succ]; try exact rfl)); all_goals (intro hc; (try dsimp only [set_zero, set_succ]); (try (with_reducible cases hc)); (try (with_reducible contradiction)); (try rw [hc])))
    | ((with_reducible apply regW_opN); (focus (dsimp only [semF, ev_t, ev_c, getD_zero, getD_succ, bin_lss, bin_leq, bin_gtr, bin_geq, bin_eql, bin_neq, bin_add, bin_sub, bin_mul, bin_and, bin_shr20, bin_rem20, un_not, cond_true, cond_false, Nat.reduceAdd, Bool.not_true, Bool.not_false, scalar, Bool.and_self, if_true, if_false, Bool.false_eq_true, Option.map_some, AV.cells?, getCells, sidx_zero, sidx_succ, List.length_cons, List.length_nil, List.nil_append, List.cons_append, List.append_nil, List.drop, List.take, splice, set_zero, set_succ]; try exact rfl)))
    | ((with_reducible apply regW_call); (focus (dsimp only [List.map, ev_t, ev_c, getD_zero, getD_succ]; exact (.lend _ _ rfl c13l (.v _)))); (focus (dsimp only [set_zero, set_succ]; try exact rfl)))
    | ((with_reducible apply G_cond); (focus (dsimp only [ev_t, ev_c, getD_zero, getD_succ]; try exact rfl)); all_goals (intro hc; (try (with_reducible cases hc)); (try (with_reducible contradiction)))))
      refine ⟨_, rfl, .inl ⟨_, rfl, ret_bool ?_⟩⟩
      rw [hI, List.drop_eq_nil_of_le (by omega)]
      simp [solidB]

set_option maxHeartbeats 1000000 in
theorem c12 (l : List Cel) (hl : l.length < 4611686018427387904) : Contract Try.prog 12 [encL l] (.pure (.v (.bool (validB l)))) := by
  have c14l := c14 l hl
  unfold encL at c14l ⊢
  refine contract_g (fr := [.vs (l.map Cel.enc), .v undef, .v undef, .v undef, .v undef, .v undef, .v undef, .v undef, .v undef, .v undef, .v undef, .v undef, .v undef, .v undef, .v undef, .v undef, .v undef, .v undef, .v undef]) Try.func12 a12_ok rfl ?_
  dsimp only [a12]
  (repeat' first
    | with_reducible refine G_seq ?_
    | with_reducible refine G_reg ?_
    | with_reducible refine regW_nil ?_
    | with_reducible refine Nx_code ?_
    | with_reducible refine Nx_blk ?_
    | with_reducible refine Ex_blk ?_
    | with_reducible refine Ex_code ?_
    | with_reducible refine Ex_inv ?_
    | with_reducible refine G_exit ?_
    | with_reducible refine G_block ?_
    | with_reducible refine G_ret ?_
    | with_reducible refine G_skip ?_
    | ((with_reducible refine G_draw mixed (by decide +kernel) ?_))
    | ((with_reducible apply regW_iaM); (focus (dsimp only [ev_t, ev_c, getD_zero, getD_succ]; try exact rfl)); (focus (dsimp only [ev_t, ev_c, getD_zero, getD_succ]; try exact rfl)); (focus assumption); (focus (with_unfolding_all exact rfl)); (focus (dsimp only [set_zero, set_succ]; try exact rfl)))
    | ((with_reducible apply regW_lenM); (focus (dsimp only [ev_t, ev_c, getD_zero, getD_succ]; try exact rfl)); (focus (dsimp only [set_zero, set_succ]; try exact rfl)))
    | ((with_reducible apply regW_add); (focus (dsimp only [ev_t, ev_c, getD_zero, getD_succ]; try exact rfl)); (focus (dsimp only [ev_t, ev_c, getD_zero, getD_succ]; try exact rfl)); (focus (first | assumption | exact rfl)); (focus (dsimp only [set_zero, set_succ]; try exact rfl)))
    | ((with_reducible apply regW_sub); (focus (dsimp only [ev_t, ev_c, getD_zero, getD_succ]; try exact rfl)); (focus (dsimp only [ev_t, ev_c, getD_zero, getD_succ]; try exact rfl)); (focus (first | assumption | exact rfl)); (focus (dsimp only [set_zero, set_succ]; try exact rfl)))
    | ((with_reducible apply regW_ldE); (focus (dsimp only [ev_t, ev_c, getD_zero, getD_succ]; try exact rfl)); (focus (with_unfolding_all exact rfl)); (focus (dsimp only [set_zero, set_succ]; try exact rfl)))
    | ((with_reducible apply regW_ldB); (focus (dsimp only [ev_t, ev_c, getD_zero, getD_succ]; try exact rfl)); (focus (dsimp only [sidx_zero, sidx_succ]; try exact rfl)); (focus (with_unfolding_all exact rfl)); (focus (dsimp only [set_zero, set_succ]; try exact rfl)))
    | ((with_reducible apply regW_stB); (focus (dsimp only [ev_t, ev_c, getD_zero, getD_succ]; try exact rfl)); (focus (dsimp only [ev_t, ev_c, getD_zero, getD_succ]; try exact rfl)); (focus (dsimp only [sidx_zero, sidx_succ]; try exact rfl)); (focus (with_unfolding_all exact rfl)); (focus (with_unfolding_all exact rfl)); (focus (with_unfolding_all exact rfl)); (focus (dsimp only [set_zero, set_succ]; try exact rfl)))
    | ((with_reducible apply regW_eqT); (focus (dsimp only [ev_t, ev_c, getD_zero, getD_succ]; try exact rfl)); (focus (dsimp only [ev_t, ev_c, getD_zero, getD_succ]; try exact rfl)); (focus (dsimp only [vals?, Cel.enc, Val.enc, Option.map_some]; try exact rfl)); (focus (dsimp only [vals?, Cel.enc, Val.enc, Option.map_some]; try exact rfl)); (focus (first | exact eqVz _ | exact eqzV _ | exact eqV _ _ | exact eqC _ _)); (focus (dsimp only [set_zero, set_succ]; try exact rfl)))
    | ((with_reducible apply regW_neT); (focus (dsimp only [ev_t, ev_c, getD_zero, getD_succ]; try exact rfl)); (focus (dsimp only [ev_t, ev_c, getD_zero, getD_succ]; try exact rfl)); (focus (dsimp only [vals?, Cel.enc, Val.enc, Option.map_some]; try exact rfl)); (focus (dsimp only [vals?, Cel.enc, Val.enc, Option.map_some]; try exact rfl)); (focus (first | exact eqVz _ | exact eqzV _ | exact eqV _ _ | exact eqC _ _)); (focus (dsimp only [set_zero, set_succ]; try exact rfl)))
    | ((with_reducible apply regW_bs1); (focus (dsimp only [ev_t, ev_c, getD_zero, getD_succ]; try exact rfl)); (focus (with_unfolding_all exact rfl)); (focus (with_unfolding_all exact rfl)); (focus (with_unfolding_all exact rfl)); (focus (dsimp only [set_zero, set_succ, List.length_cons, List.length_nil, Nat.reduceAdd]; try exact rfl)); (focus (dsimp only [List.cons_append, List.nil_append]; try exact rfl)))
    | ((with_reducible apply regW_app); (focus (dsimp only [ev_t, ev_c, getD_zero, getD_succ]; try exact rfl)); (focus (dsimp only [sidx_zero, sidx_succ]; try exact rfl)); (focus (with_reducible exact rfl)); (focus (dsimp only [ev_t, ev_c, getD_zero, getD_succ]; try exact rfl)); (focus (dsimp only [sidx_zero, sidx_succ]; try exact rfl)); (focus (with_unfolding_all exact rfl)); (focus assumption); (focus decide); (focus (dsimp only [set_zero, set_succ, List.length_cons, List.length_nil, Nat.reduceAdd]; try exact rfl)); (focus (dsimp only [set_zero, set_succ, List.cons_append, List.nil_append]; try exact rfl)))
    | ((with_reducible apply regW_opS); (focus (dsimp only [semF, ev_t, ev_c, getD_zero, getD_succ, bin_lss, bin_leq, bin_gtr, bin_geq, bin_eql, bin_neq, bin_add, bin_sub, bin_mul, bin_and, bin_shr20, bin_rem20, un_not, cond_true, cond_false, Nat.reduceAdd, Bool.not_true, Bool.not_false, scalar, Bool.and_self, if_true, if_false, Bool.false_eq_true, Option.map_some, AV.cells?, getCells, sidx_zero, sidx_succ, List.length_cons, List.length_nil, List.nil_append, List.cons_append, List.append_nil, List.drop, List.take, splice, Cel.enc, Val.enc]; try exact rfl)); (focus (dsimp only [set_zero, set_succ]; try exact rfl)))
    | ((with_reducible apply regW_op); (focus (dsimp only [semF, ev_t, ev_c, getD_zero, getD_succ, bin_lss, bin_leq, bin_gtr, bin_geq, bin_eql, bin_neq, bin_add, bin_sub, bin_mul, bin_and, bin_shr20, bin_rem20, un_not, cond_true, cond_false, Nat.reduceAdd, Bool.not_true, Bool.not_false, scalar, Bool.and_self, if_true, if_false, Bool.false_eq_true, Option.map_some, AV.cells?, getCells, sidx_zero, sidx_succ, List.length_cons, List.length_nil, List.nil_append, List.cons_append, List.append_nil, List.drop, List.take, splice]; try exact rfl)); (focus (dsimp only [set_zero, set_succ]; try exact rfl)))
    | ((with_reducible apply regW_shut'); (focus (dsimp only [getD_zero, getD_succ]; try (with_reducible exact rfl); done)); (focus (dsimp only [set_zero, set_succ]; try exact rfl)))
    | ((with_reducible apply regW_splitT); (focus (dsimp only [getD_zero, getD_succ]; try exact rfl)); all_goals (intro hc; (try dsimp only [set_zero, set_succ]); (try (with_reducible cases hc)); (try (with_reducible contradiction)); (try rw [hc])))
    | ((with_reducible apply regW_splitF); (focus (dsimp only [getD_zero, getD_succ]; try exact rfl)); all_goals (intro hc; (try dsimp only [set_zero, set_succ]); (try (with_reducible cases hc)); (try (with_reducible contradiction)); (try rw [hc])))
    | ((with_reducible apply regW_opN); (focus (dsimp only [semF, ev_t, ev_c, getD_zero, getD_succ, bin_lss, bin_leq, bin_gtr, bin_geq, bin_eql, bin_neq, bin_add, bin_sub, bin_mul, bin_and, bin_shr20, bin_rem20, un_not, cond_true, cond_false, Nat.reduceAdd, Bool.not_true, Bool.not_false, scalar, Bool.and_self, if_true, if_false, Bool.false_eq_true, Option.map_some, AV.cells?, getCells, sidx_zero, sidx_succ, List.length_cons, List.length_nil, List.nil_append, List.cons_append, List.append_nil, List.drop, List.take, splice, set_zero, set_succ]; try exact rfl)))
    | ((with_reducible apply G_cond); (focus (dsimp only [ev_t, ev_c, getD_zero, getD_succ]; try exact rfl)); all_goals (intro hc; (try (with_reducible cases hc)); (try (with_reducible contradiction)))))
  refine G_loopF (fun k : Nat => ⟨[.vs (l.map Cel.enc), .und, .und, .v (.int .i64 (k : Int)), .und, .und, .und, .und, .und, .und, .und, .und, .und, .und, .und, .und, .und, .und, .und], []⟩) (fun k => k ≤ l.length ∧ validB l = (solidB (l.drop k) && writesB l)) (fun k => l.length - k) 0 [] ?_ ⟨by omega, rfl⟩ ?_
  · (refine ⟨by decide, rfl, ?_, ?_⟩ <;> repeat' first
      | exact True.intro
      | ((refine And.intro (Or.inl ?_) ?_); (focus (with_reducible exact rfl)))
      | ((refine And.intro (Or.inr (And.intro ?_ (And.intro rfl rfl))) ?_); (focus (dsimp only [AV.ren, getD_zero, getD_succ]; try (with_reducible exact rfl); done)))
      | (refine And.intro (Or.inr (And.intro ?_ (And.intro rfl rfl))) ?_)
      | (with_reducible exact weakO_row rfl)
      | (refine And.intro (Exists.intro _ (And.intro rfl ?_)) ?_)
      | (refine Exists.intro _ (And.intro rfl ?_))
      | (with_reducible exact rfl))
    rfl
  · intro k ⟨hk, hI⟩
    by_cases hlt : k < l.length
    · have hck : l[k]? = some l[k] := List.getElem?_eq_getElem hlt
      generalize l[k] = c at hck
      have hd : ¬ (decide ((k : Int) < (l.length : Int)) = false) := by simp; omega
      have hw1 := wrap_succ k (by omega)
      have hat : solidB (l.drop k) = (!c.v.beq Val.zero && solidB (l.drop (k + 1))) := by rw [drop_at hck]; simp [solidB]
      (repeat' first
    | with_reducible refine G_seq ?_
    | with_reducible refine G_reg ?_
    | with_reducible refine regW_nil ?_
    | with_reducible refine Nx_code ?_
    | with_reducible refine Nx_blk ?_
    | with_reducible refine Ex_blk ?_
    | with_reducible refine Ex_code ?_
    | with_reducible refine Ex_inv ?_
    | with_reducible refine G_exit ?_
    | with_reducible refine G_block ?_
    | with_reducible refine G_ret ?_
    | with_reducible refine G_skip ?_
    | ((with_reducible refine G_draw mixed (by decide +kernel) ?_))
    | ((with_reducible apply regW_iaM); (focus (dsimp only [ev_t, ev_c, getD_zero, getD_succ]; try exact rfl)); (focus (dsimp only [ev_t, ev_c, getD_zero, getD_succ]; try exact rfl)); (focus assumption); (focus (with_unfolding_all exact rfl)); (focus (dsimp only [set_zero, set_succ]; try exact rfl)))
    | ((with_reducible apply regW_lenM); (focus (dsimp only [ev_t, ev_c, getD_zero, getD_succ]; try exact rfl)); (focus (dsimp only [set_zero, set_succ]; try exact rfl)))
    | ((with_reducible apply regW_add); (focus (dsimp only [ev_t, ev_c, getD_zero, getD_succ]; try exact rfl)); (focus (dsimp only [ev_t, ev_c, getD_zero, getD_succ]; try exact rfl)); (focus (first | assumption | exact rfl)); (focus (dsimp only [set_zero, set_succ]; try exact rfl)))
    | ((with_reducible apply regW_sub); (focus (dsimp only [ev_t, ev_c, getD_zero, getD_succ]; try exact rfl)); (focus (dsimp only [ev_t, ev_c, getD_zero, getD_succ]; try exact rfl)); (focus (first | assumption | exact rfl)); (focus (dsimp only [set_zero, set_succ]; try exact rfl)))
    | ((with_reducible apply regW_ldE); (focus (dsimp only [ev_t, ev_c, getD_zero, getD_succ]; try exact rfl)); (focus (with_unfolding_all exact rfl)); (focus (dsimp only [set_zero, set_succ]; try exact rfl)))
    | ((with_reducible apply regW_ldB); (focus (dsimp only [ev_t, ev_c, getD_zero, getD_succ]; try exact rfl)); (focus (dsimp only [sidx_zero, sidx_succ]; try exact rfl)); (focus (with_unfolding_all exact rfl)); (focus (dsimp only [set_zero, set_succ]; try exact rfl)))
    | ((with_reducible apply regW_stB); (focus (dsimp only [ev_t, ev_c, getD_zero, getD_succ]; try exact rfl)); (focus (dsimp only [ev_t, ev_c, getD_zero, getD_succ]; try exact rfl)); (focus (dsimp only [sidx_zero, sidx_succ]; try exact rfl)); (focus (with_unfolding_all exact rfl)); (focus (with_unfolding_all exact rfl)); (focus (with_unfolding_all exact rfl)); (focus (dsimp only [set_zero, set_succ]; try exact rfl)))
    | ((with_reducible apply regW_eqT); (focus (dsimp only [ev_t, ev_c, getD_zero, getD_succ]; try exact rfl)); (focus (dsimp only [ev_t, ev_c, getD_zero, getD_succ]; try exact rfl)); (focus (dsimp only [vals?, Cel.enc, Val.enc, Option.map_some]; try exact rfl)); (focus (dsimp only [vals?, Cel.enc, Val.enc, Option.map_some]; try exact rfl)); (focus (first | exact eqVz _ | exact eqzV _ | exact eqV _ _ | exact eqC _ _)); (focus (dsimp only [set_zero, set_succ]; try exact rfl)))
    | ((with_reducible apply regW_neT); (focus (dsimp only [ev_t, ev_c, getD_zero, getD_succ]; try exact rfl)); (focus (dsimp only [ev_t, ev_c, getD_zero, getD_succ]; try exact rfl)); (focus (dsimp only [vals?, Cel.enc, Val.enc, Option.map_some]; try exact rfl)); (focus (dsimp only [vals?, Cel.enc, Val.enc, Option.map_some]; try exact rfl)); (focus (first | exact eqVz _ | exact eqzV _ | exact eqV _ _ | exact eqC _ _)); (focus (dsimp only [set_zero, set_succ]; try exact rfl)))
    | ((with_reducible apply regW_bs1); (focus (dsimp only [ev_t, ev_c, getD_zero, getD_succ]; try exact rfl)); (focus (with_unfolding_all exact rfl)); (focus (with_unfolding_all exact rfl)); (focus (with_unfolding_all exact rfl)); (focus (dsimp only [set_zero, set_succ, List.length_cons, List.length_nil, Nat.reduceAdd]; try exact rfl)); (focus (dsimp only [List.cons_append, List.nil_append]; try exact rfl)))
    | ((with_reducible apply regW_app); (focus (dsimp only [ev_t, ev_c, getD_zero, getD_succ]; try exact rfl)); (focus (dsimp only [sidx_zero, sidx_succ]; try exact rfl)); (focus (with_reducible exact rfl)); (focus (dsimp only [ev_t, ev_c, getD_zero, getD_succ]; try exact rfl)); (focus (dsimp only [sidx_zero, sidx_succ]; try exact rfl)); (focus (with_unfolding_all exact rfl)); (focus assumption); (focus decide); (focus (dsimp only [set_zero, set_succ, List.length_cons, List.length_nil, Nat.reduceAdd]; try exact rfl)); (focus (dsimp only [set_zero, set_succ, List.cons_append, List.nil_append]; try exact rfl)))
    | ((with_reducible apply regW_opS); (focus (dsimp only [semF, ev_t, ev_c, getD_zero, getD_succ, bin_lss, bin_leq, bin_gtr, bin_geq, bin_eql, bin_neq, bin_add, bin_sub, bin_mul, bin_and, bin_shr20, bin_rem20, un_not, cond_true, cond_false, Nat.reduceAdd, Bool.not_true, Bool.not_false, scalar, Bool.and_self, if_true, if_false, Bool.false_eq_true, Option.map_some, AV.cells?, getCells, sidx_zero, sidx_succ, List.length_cons, List.length_nil, List.nil_append, List.cons_append, List.append_nil, List.drop, List.take, splice, Cel.enc, Val.enc]; try exact rfl)); (focus (dsimp only [set_zero, set_succ]; try exact rfl)))
    | ((with_reducible apply regW_op); (focus (dsimp only [semF, ev_t, ev_c, getD_zero, getD_succ, bin_lss, bin_leq, bin_gtr, bin_geq, bin_eql, bin_neq, bin_add, bin_sub, bin_mul, bin_and, bin_shr20, bin_rem20, un_not, cond_true, cond_false, Nat.reduceAdd, Bool.not_true, Bool.not_false, scalar, Bool.and_self, if_true, if_false, Bool.false_eq_true, Option.map_some, AV.cells?, getCells, sidx_zero, sidx_succ, List.length_cons, List.length_nil, List.nil_append, List.cons_append, List.append_nil, List.drop, List.take, splice]; try exact rfl)); (focus (dsimp only [set_zero, set_succ]; try exact rfl)))
    | ((with_reducible apply regW_shut'); (focus (dsimp only [getD_zero, getD_succ]; try (with_reducible exact rfl); done)); (focus (dsimp only [set_zero, set_succ]; try exact rfl)))
    | ((with_reducible apply regW_splitT); (focus (dsimp only [getD_zero, getD_succ]; try exact rfl)); all_goals (intro hc; (try dsimp only [set_zero, set_succ]); (try (with_reducible cases hc)); (try (with_reducible contradiction)); (try rw [hc])))
    | ((with_reducible apply regW_splitF); (focus (dsimp only [getD_zero, getD_succ]; try exact rfl)); all_goals (intro hc; (try dsimp only [set_zero, set_succ]); (try (with_reducible cases hc)); (try (with_reducible contradiction)); (try rw [hc])))
    | ((with_reducible apply regW_opN); (focus (dsimp only [semF, ev_t, ev_c, getD_zero, getD_succ, bin_lss, bin_leq, bin_gtr, bin_geq, bin_eql, bin_neq, bin_add, bin_sub, bin_mul, bin_and, bin_shr20, bin_rem20, un_not, cond_true, cond_false, Nat.reduceAdd, Bool.not_true, Bool.not_false, scalar, Bool.and_self, if_true, if_false, Bool.false_eq_true, Option.map_some, AV.cells?, getCells, sidx_zero, sidx_succ, List.length_cons, List.length_nil, List.nil_append, List.cons_append, List.append_nil, List.drop, List.take, splice, set_zero, set_succ]; try exact rfl)))
    | ((with_reducible apply G_cond); (focus (dsimp only [ev_t, ev_c, getD_zero, getD_succ]; try exact rfl)); all_goals (intro hc; (try (with_reducible cases hc)); (try (with_reducible contradiction)))))
      all_goals first
        | (refine ⟨_, rfl, .inl ⟨_, rfl, ret_bool ?_⟩⟩; rw [hI, hat]; clear hI hat; grind)
        | (refine Nx_round (k + 1) [] ?_ ⟨by omega, ?_⟩ (by omega); (focus (refine ⟨by decide, rfl, ?_, ?_⟩ <;> repeat' first
      | exact True.intro
      | ((refine And.intro (Or.inl ?_) ?_); (focus (with_reducible exact rfl)))
      | ((refine And.intro (Or.inr (And.intro ?_ (And.intro rfl rfl))) ?_); (focus (dsimp only [AV.ren, getD_zero, getD_succ]; try (with_reducible exact rfl); done)))
      | (refine And.intro (Or.inr (And.intro ?_ (And.intro rfl rfl))) ?_)
      | (with_reducible exact weakO_row rfl)
      | (refine And.intro (Exists.intro _ (And.intro rfl ?_)) ?_)
      | (refine Exists.intro _ (And.intro rfl ?_))
      | (with_reducible exact rfl))); (rw [hI, hat]; clear hI hat; grind))
    · have hd : ¬ (decide ((k : Int) < (l.length : Int)) = true) := by simp; omega
      (repeat' first
    | with_reducible refine G_seq ?_
    | with_reducible refine G_reg ?_
    | with_reducible refine regW_nil ?_
    | with_reducible refine Nx_code ?_
    | with_reducible refine Nx_blk ?_
    | with_reducible refine Ex_blk ?_
    | with_reducible refine Ex_code ?_
    | with_reducible refine Ex_inv ?_
    | with_reducible refine G_exit ?_
    | with_reducible refine G_block ?_
    | with_reducible refine G_ret ?_
    | with_reducible refine G_skip ?_
    | ((with_reducible refine G_draw mixed (by decide +kernel) ?_))
    | ((with_reducible apply regW_iaM); (focus (dsimp only [ev_t, ev_c, getD_zero, getD_succ]; try exact rfl)); (focus (dsimp only [ev_t, ev_c, getD_zero, getD_succ]; try exact rfl)); (focus assumption); (focus (with_unfolding_all exact rfl)); (focus (dsimp only [set_zero, set_succ]; try exact rfl)))
    | ((with_reducible apply regW_lenM); (focus (dsimp only [ev_t, ev_c, getD_zero, getD_succ]; try exact rfl)); (focus (dsimp only [set_zero, set_succ]; try exact rfl)))
    | ((with_reducible apply regW_add); (focus (dsimp only [ev_t, ev_c, getD_zero, getD_succ]; try exact rfl)); (focus (dsimp only [ev_t, ev_c, getD_zero, getD_succ]; try exact rfl)); (focus (first | assumption | exact rfl)); (focus (dsimp only [set_zero, set_succ]; try exact rfl)))
    | ((with_reducible apply regW_sub); (focus (dsimp only [ev_t, ev_c, getD_zero, getD_succ]; try exact rfl)); (focus (dsimp only [ev_t, ev_c, getD_zero, getD_succ]; try exact rfl)); (focus (first | assumption | exact rfl)); (focus (dsimp only [set_zero, set_succ]; try exact rfl)))
    | ((with_reducible apply regW_ldE); (focus (dsimp only [ev_t, ev_c, getD_zero, getD_succ]; try exact rfl)); (focus (with_unfolding_all exact rfl)); (focus (dsimp only [set_zero, set_succ]; try exact rfl)))
    | ((with_reducible apply regW_ldB); (focus (dsimp only [ev_t, ev_c, getD_zero, getD_succ]; try exact rfl)); (focus (dsimp only [sidx_zero, sidx_succ]; try exact rfl)); (focus (with_unfolding_all exact rfl)); (focus (dsimp only [set_zero, set_succ]; try exact rfl)))
    | ((with_reducible apply regW_stB); (focus (dsimp only [ev_t, ev_c, getD_zero, getD_succ]; try exact rfl)); (focus (dsimp only [ev_t, ev_c, getD_zero, getD_succ]; try exact rfl)); (focus (dsimp only [sidx_zero, sidx_succ]; try exact rfl)); (focus (with_unfolding_all exact rfl)); (focus (with_unfolding_all exact rfl)); (focus (with_unfolding_all exact rfl)); (focus (dsimp only [set_zero, set_succ]; try exact rfl)))
    | ((with_reducible apply regW_eqT); (focus (dsimp only [ev_t, ev_c, getD_zero, getD_succ]; try exact rfl)); (focus (dsimp only [ev_t, ev_c, getD_zero, getD_succ]; try exact rfl)); (focus (dsimp only [vals?, Cel.enc, Val.enc, Option.map_some]; try exact rfl)); (focus (dsimp only [vals?, Cel.enc, Val.enc, Option.map_some]; try exact rfl)); (focus (first | exact eqVz _ | exact eqzV _ | exact eqV _ _ | exact eqC _ _)); (focus (dsimp only [set_zero, set_succ]; try exact rfl)))
    | ((with_reducible apply regW_neT); (focus (dsimp only [ev_t, ev_c, getD_zero, getD_succ]; try exact rfl)); (focus (dsimp only [ev_t, ev_c, getD_zero, getD_succ]; try exact rfl)); (focus (dsimp only [vals?, Cel.enc, Val.enc, Option.map_some]; try exact rfl)); (focus (dsimp only [vals?, Cel.enc, Val.enc, Option.map_some]; try exact rfl)); (focus (first | exact eqVz _ | exact eqzV _ | exact eqV _ _ | exact eqC _ _)); (focus (dsimp only [set_zero, set_succ]; try exact rfl)))
    | ((with_reducible apply regW_bs1); (focus (dsimp only [ev_t, ev_c, getD_zero, getD_succ]; try exact rfl)); (focus (with_unfolding_all exact rfl)); (focus (with_unfolding_all exact rfl)); (focus (with_unfolding_all exact rfl)); (focus (dsimp only [set_zero, set_succ, List.length_cons, List.length_nil, Nat.reduceAdd]; try exact rfl)); (focus (dsimp only [List.cons_append, List.nil_append]; try exact rfl)))
    | ((with_reducible apply regW_app); (focus (dsimp only [ev_t, ev_c, getD_zero, getD_succ]; try exact rfl)); (focus (dsimp only [sidx_zero, sidx_succ]; try exact rfl)); (focus (with_reducible exact rfl)); (focus (dsimp only [ev_t, ev_c, getD_zero, getD_succ]; try exact rfl)); (focus (dsimp only [sidx_zero, sidx_succ]; try exact rfl)); (focus (with_unfolding_all exact rfl)); (focus assumption); (focus decide); (focus (dsimp only [set_zero, set_succ, List.length_cons, List.length_nil, Nat.reduceAdd]; try exact rfl)); (focus (dsimp only [set_zero, set_succ, List.cons_append, List.nil_append]; try exact rfl)))
    | ((with_reducible apply regW_opS); (focus (dsimp only [semF, ev_t, ev_c, getD_zero, getD_succ, bin_lss, bin_leq, bin_gtr, bin_geq, bin_eql, bin_neq, bin_add, bin_sub, bin_mul, bin_and, bin_shr20, bin_rem20, un_not, cond_true, cond_false, Nat.reduceAdd, Bool.not_true, Bool.not_false, scalar, Bool.and_self, if_true, if_false, Bool.false_eq_true, Option.map_some, AV.cells?, getCells, sidx_zero, sidx_succ, List.length_cons, List.length_nil, List.nil_append, List.cons_append, List.append_nil, List.drop, List.take, splice, Cel.enc, Val.enc]; try exact rfl)); (focus (dsimp only [set_zero, set_succ]; try exact rfl)))
    | ((with_reducible apply regW_op); (focus (dsimp only [semF, ev_t, ev_c, getD_zero, getD_succ, bin_lss, bin_leq, bin_gtr, bin_geq, bin_eql, bin_neq, bin_add, bin_sub, bin_mul, bin_and, bin_shr20, bin_rem20, un_not, cond_true, cond_false, Nat.reduceAdd, Bool.not_true, Bool.not_false, scalar, Bool.and_self, if_true, if_false, Bool.false_eq_true, Option.map_some, AV.cells?, getCells, sidx_zero, sidx_succ, List.length_cons, List.length_nil, List.nil_append, List.cons_append, List.append_nil, List.drop, List.take, splice]; try exact rfl)); (focus (dsimp only [set_zero, set_succ]; try exact rfl)))
    | ((with_reducible apply regW_shut'); (focus (dsimp only [getD_zero, getD_succ]; try (with_reducible exact rfl); done)); (focus (dsimp only [set_zero, set_succ]; try exact rfl)))
    | ((with_reducible apply regW_splitT); (focus (dsimp only [getD_zero, getD_succ]; try exact rfl)); all_goals (intro hc; (try dsimp only [set_zero, set_succ]); (try (with_reducible cases hc)); (try (with_reducible contradiction)); (try rw [hc])))
    | ((with_reducible apply regW_splitF); (focus (dsimp only [getD_zero, getD_succ]; try exact rfl)); all_goals (intro hc; (try dsimp only [set_zero, set_succ]); (try (with_reducible cases hc)); (try (with_reducible contradiction)); (try rw [hc])))
    | ((with_reducible apply regW_opN); (focus (dsimp only [semF, ev_t, ev_c, getD_zero, getD_succ, bin_lss, bin_leq, bin_gtr, bin_geq, bin_eql, bin_neq, bin_add, bin_sub, bin_mul, bin_and, bin_shr20, bin_rem20, un_not, cond_true, cond_false, Nat.reduceAdd, Bool.not_true, Bool.not_false, scalar, Bool.and_self, if_true, if_false, Bool.false_eq_true, Option.map_some, AV.cells?, getCells, sidx_zero, sidx_succ, List.length_cons, List.length_nil, List.nil_append, List.cons_append, List.append_nil, List.drop, List.take, splice, set_zero, set_succ]; try exact rfl)))
    | ((with_reducible apply regW_call); (focus (dsimp only [List.map, ev_t, ev_c, getD_zero, getD_succ]; exact (.lend _ _ rfl c14l (.v _)))); (focus (dsimp only [set_zero, set_succ]; try exact rfl)))
    | ((with_reducible apply G_cond); (focus (dsimp only [ev_t, ev_c, getD_zero, getD_succ]; try exact rfl)); all_goals (intro hc; (try (with_reducible cases hc)); (try (with_reducible contradiction)))))
      refine ⟨_, rfl, .inl ⟨_, rfl, ret_bool ?_⟩⟩
      rw [hI, List.drop_eq_nil_of_le (by omega)]
      simp [solidB]

set_option maxHeartbeats 1000000 in
theorem c15 (a b : List Cel) (hl : a.length < 4611686018427387904) : Contract Try.prog 15 [encL a, encL b] (.pure (.v (.bool (sameB a b)))) := by
  unfold encL
  refine contract_g (fr := [.vs (a.map Cel.enc), .vs (b.map Cel.enc), .v undef, .v undef, .v undef, .v undef, .v undef, .v undef, .v undef, .v undef, .v undef, .v undef, .v undef, .v undef, .v undef, .v undef, .v undef, .v undef, .v undef, .v undef, .v undef, .v undef, .v undef, .v undef, .v undef, .v undef]) Try.func15 a15_ok rfl ?_
  dsimp only [a15]
  by_cases hab : a.length = b.length
  · have hd0 : ¬ (((a.length : Int) != (b.length : Int)) = true) := by simp; omega
    (repeat' first
    | with_reducible refine G_seq ?_
    | with_reducible refine G_reg ?_
    | with_reducible refine regW_nil ?_
    | with_reducible refine Nx_code ?_
    | with_reducible refine Nx_blk ?_
    | with_reducible refine Ex_blk ?_
    | with_reducible refine Ex_code ?_
    | with_reducible refine Ex_inv ?_
    | with_reducible refine G_exit ?_
    | with_reducible refine G_block ?_
    | with_reducible refine G_ret ?_
    | with_reducible refine G_skip ?_
    | ((with_reducible refine G_draw mixed (by decide +kernel) ?_))
    | ((with_reducible apply regW_iaM); (focus (dsimp only [ev_t, ev_c, getD_zero, getD_succ]; try exact rfl)); (focus (dsimp only [ev_t, ev_c, getD_zero, getD_succ]; try exact rfl)); (focus assumption); (focus (with_unfolding_all exact rfl)); (focus (dsimp only [set_zero, set_succ]; try exact rfl)))
    | ((with_reducible apply regW_lenM); (focus (dsimp only [ev_t, ev_c, getD_zero, getD_succ]; try exact rfl)); (focus (dsimp only [set_zero, set_succ]; try exact rfl)))
    | ((with_reducible apply regW_add); (focus (dsimp only [ev_t, ev_c, getD_zero, getD_succ]; try exact rfl)); (focus (dsimp only [ev_t, ev_c, getD_zero, getD_succ]; try exact rfl)); (focus (first | assumption | exact rfl)); (focus (dsimp only [set_zero, set_succ]; try exact rfl)))
    | ((with_reducible apply regW_sub); (focus (dsimp only [ev_t, ev_c, getD_zero, getD_succ]; try exact rfl)); (focus (dsimp only [ev_t, ev_c, getD_zero, getD_succ]; try exact rfl)); (focus (first | assumption | exact rfl)); (focus (dsimp only [set_zero, set_succ]; try exact rfl)))
    | ((with_reducible apply regW_ldE); (focus (dsimp only [ev_t, ev_c, getD_zero, getD_succ]; try exact rfl)); (focus (with_unfolding_all exact rfl)); (focus (dsimp only [set_zero, set_succ]; try exact rfl)))
    | ((with_reducible apply regW_ldB); (focus (dsimp only [ev_t, ev_c, getD_zero, getD_succ]; try exact rfl)); (focus (dsimp only [sidx_zero, sidx_succ]; try exact rfl)); (focus (with_unfolding_all exact rfl)); (focus (dsimp only [set_zero, set_succ]; try exact rfl)))
    | ((with_reducible apply regW_stB); (focus (dsimp only [ev_t, ev_c, getD_zero, getD_succ]; try exact rfl)); (focus (dsimp only [ev_t, ev_c, getD_zero, getD_succ]; try exact rfl)); (focus (dsimp only [sidx_zero, sidx_succ]; try exact rfl)); (focus (with_unfolding_all exact rfl)); (focus (with_unfolding_all exact rfl)); (focus (with_unfolding_all exact rfl)); (focus (dsimp only [set_zero, set_succ]; try exact rfl)))
    | ((with_reducible apply regW_eqT); (focus (dsimp only [ev_t, ev_c, getD_zero, getD_succ]; try exact rfl)); (focus (dsimp only [ev_t, ev_c, getD_zero, getD_succ]; try exact rfl)); (focus (dsimp only [vals?, Cel.enc, Val.enc, Option.map_some]; try exact rfl)); (focus (dsimp only [vals?, Cel.enc, Val.enc, Option.map_some]; try exact rfl)); (focus (first | exact eqVz _ | exact eqzV _ | exact eqV _ _ | exact eqC _ _)); (focus (dsimp only [set_zero, set_succ]; try exact rfl)))
    | ((with_reducible apply regW_neT); (focus (dsimp only [ev_t, ev_c, getD_zero, getD_succ]; try exact rfl)); (focus (dsimp only [ev_t, ev_c, getD_zero, getD_succ]; try exact rfl)); (focus (dsimp only [vals?, Cel.enc, Val.enc, Option.map_some]; try exact rfl)); (focus (dsimp only [vals?, Cel.enc, Val.enc, Option.map_some]; try exact rfl)); (focus (first | exact eqVz _ | exact eqzV _ | exact eqV _ _ | exact eqC _ _)); (focus (dsimp only [set_zero, set_succ]; try exact rfl)))
    | ((with_reducible apply regW_bs1); (focus (dsimp only [ev_t, ev_c, getD_zero, getD_succ]; try exact rfl)); (focus (with_unfolding_all exact rfl)); (focus (with_unfolding_all exact rfl)); (focus (with_unfolding_all exact rfl)); (focus (dsimp only [set_zero, set_succ, List.length_cons, List.length_nil, Nat.reduceAdd]; try exact rfl)); (focus (dsimp only [List.cons_append, List.nil_append]; try exact rfl)))
    | ((with_reducible apply regW_app); (focus (dsimp only [ev_t, ev_c, getD_zero, getD_succ]; try exact rfl)); (focus (dsimp only [sidx_zero, sidx_succ]; try exact rfl)); (focus (with_reducible exact rfl)); (focus (dsimp only [ev_t, ev_c, getD_zero, getD_succ]; try exact rfl)); (focus (dsimp only [sidx_zero, sidx_succ]; try exact rfl)); (focus (with_unfolding_all exact rfl)); (focus assumption); (focus decide); (focus (dsimp only [set_zero, set_succ, List.length_cons, List.length_nil, Nat.reduceAdd]; try exact rfl)); (focus (dsimp only [set_zero, set_succ, List.cons_append, List.nil_append]; try exact rfl)))
    | ((with_reducible apply regW_opS); (focus (dsimp only [semF, ev_t, ev_c, getD_zero, getD_succ, bin_lss, bin_leq, bin_gtr, bin_geq, bin_eql, bin_neq, bin_add, bin_sub, bin_mul, bin_and, bin_shr20, bin_rem20, un_not, cond_true, cond_false, Nat.reduceAdd, Bool.not_true, Bool.not_false, scalar, Bool.and_self, if_true, if_false, Bool.false_eq_true, Option.map_some, AV.cells?, getCells, sidx_zero, sidx_succ, List.length_cons, List.length_nil, List.nil_append, List.cons_append, List.append_nil, List.drop, List.take, splice, Cel.enc, Val.enc]; try exact rfl)); (focus (dsimp only [set_zero, set_succ]; try exact rfl)))
    | ((with_reducible apply regW_op); (focus (dsimp only [semF, ev_t, ev_c, getD_zero, getD_succ, bin_lss, bin_leq, bin_gtr, bin_geq, bin_eql, bin_neq, bin_add, bin_sub, bin_mul, bin_and, bin_shr20, bin_rem20, un_not, cond_true, cond_false, Nat.reduceAdd, Bool.not_true, Bool.not_false, scalar, Bool.and_self, if_true, if_false, Bool.false_eq_true, Option.map_some, AV.cells?, getCells, sidx_zero, sidx_succ, List.length_cons, List.length_nil, List.nil_append, List.cons_append, List.append_nil, List.drop, List.take, splice]; try exact rfl)); (focus (dsimp only [set_zero, set_succ]; try exact rfl)))
    | ((with_reducible apply regW_shut'); (focus (dsimp only [getD_zero, getD_succ]; try (with_reducible exact rfl); done)); (focus (dsimp only [set_zero, set_succ]; try exact rfl)))
    | ((with_reducible apply regW_splitT); (focus (dsimp only [getD_zero, getD_succ]; try exact rfl)); all_goals (intro hc; (try dsimp only [set_zero, set_succ]); (try (with_reducible cases hc)); (try (with_reducible contradiction)); (try rw [hc])))
    | ((with_reducible apply regW_splitF); (focus (dsimp only [getD_zero, getD_succ]; try exact rfl)); all_goals (intro hc; (try dsimp only [set_zero, set_succ]); (try (with_reducible cases hc)); (try (with_reducible contradiction)); (try rw [hc])))
    | ((with_reducible apply regW_opN); (focus (dsimp only [semF, ev_t, ev_c, getD_zero, getD_succ, bin_lss, bin_leq, bin_gtr, bin_geq, bin_eql, bin_neq, bin_add, bin_sub, bin_mul, bin_and, bin_shr20, bin_rem20, un_not, cond_true, cond_false, Nat.reduceAdd, Bool.not_true, Bool.not_false, scalar, Bool.and_self, if_true, if_false, Bool.false_eq_true, Option.map_some, AV.cells?, getCells, sidx_zero, sidx_succ, List.length_cons, List.length_nil, List.nil_append, List.cons_append, List.append_nil, List.drop, List.take, splice, set_zero, set_succ]; try exact rfl)))
    | ((with_reducible apply G_cond); (focus (dsimp only [ev_t, ev_c, getD_zero, getD_succ]; try exact rfl)); all_goals (intro hc; (try (with_reducible cases hc)); (try (with_reducible contradiction)))))
    refine G_loopF (fun k : Nat => ⟨[.vs (a.map Cel.enc), .vs (b.map Cel.enc), .und, .und, .und, .v (.int .i64 (k : Int)), .und, .und, .und, .und, .und, .und, .und, .und, .und, .und, .und, .und, .und, .und, .und, .und, .und, .und, .und, .und], []⟩) (fun k => k ≤ a.length ∧ sameB a b = sameB (a.drop k) (b.drop k)) (fun k => a.length - k) 0 [] ?_ ⟨by omega, rfl⟩ ?_
    · (refine ⟨by decide, rfl, ?_, ?_⟩ <;> repeat' first
      | exact True.intro
      | ((refine And.intro (Or.inl ?_) ?_); (focus (with_reducible exact rfl)))
      | ((refine And.intro (Or.inr (And.intro ?_ (And.intro rfl rfl))) ?_); (focus (dsimp only [AV.ren, getD_zero, getD_succ]; try (with_reducible exact rfl); done)))
      | (refine And.intro (Or.inr (And.intro ?_ (And.intro rfl rfl))) ?_)
      | (with_reducible exact weakO_row rfl)
      | (refine And.intro (Exists.intro _ (And.intro rfl ?_)) ?_)
      | (refine Exists.intro _ (And.intro rfl ?_))
      | (with_reducible exact rfl))
      rfl
    · intro k ⟨hk, hI⟩
      by_cases hlt : k < a.length
      · have hck : a[k]? = some a[k] := List.getElem?_eq_getElem hlt
        generalize a[k] = c at hck
        have hcd : b[k]? = some (b[k]'(by omega)) := List.getElem?_eq_getElem (by omega)
        generalize b[k]'(by omega) = d at hcd
        have hd : ¬ (decide ((k : Int) < (a.length : Int)) = false) := by simp; omega
        have hw1 := wrap_succ k (by omega)
        have hat : sameB (a.drop k) (b.drop k) = (c.beq d && sameB (a.drop (k + 1)) (b.drop (k + 1))) := by rw [drop_at hck, drop_at hcd]; rfl
        (repeat' first
    | with_reducible refine G_seq ?_
    | with_reducible refine G_reg ?_
    | with_reducible refine regW_nil ?_
    | with_reducible refine Nx_code ?_
    | with_reducible refine Nx_blk ?_
    | with_reducible refine Ex_blk ?_
    | with_reducible refine Ex_code ?_
    | with_reducible refine Ex_inv ?_
    | with_reducible refine G_exit ?_
    | with_reducible refine G_block ?_
    | with_reducible refine G_ret ?_
    | with_reducible refine G_skip ?_
    | ((with_reducible refine G_draw mixed (by decide +kernel) ?_))
    | ((with_reducible apply regW_iaM); (focus (dsimp only [ev_t, ev_c, getD_zero, getD_succ]; try exact rfl)); (focus (dsimp only [ev_t, ev_c, getD_zero, getD_succ]; try exact rfl)); (focus assumption); (focus (with_unfolding_all exact rfl)); (focus (dsimp only [set_zero, set_succ]; try exact rfl)))
    | ((with_reducible apply regW_lenM); (focus (dsimp only [ev_t, ev_c, getD_zero, getD_succ]; try exact rfl)); (focus (dsimp only [set_zero, set_succ]; try exact rfl)))
    | ((with_reducible apply regW_add); (focus (dsimp only [ev_t, ev_c, getD_zero, getD_succ]; try exact rfl)); (focus (dsimp only [ev_t, ev_c, getD_zero, getD_succ]; try exact rfl)); (focus (first | assumption | exact rfl)); (focus (dsimp only [set_zero, set_succ]; try exact rfl)))
    | ((with_reducible apply regW_sub); (focus (dsimp only [ev_t, ev_c, getD_zero, getD_succ]; try exact rfl)); (focus (dsimp only [ev_t, ev_c, getD_zero, getD_succ]; try exact rfl)); (focus (first | assumption | exact rfl)); (focus (dsimp only [set_zero, set_succ]; try exact rfl)))
    | ((with_reducible apply regW_ldE); (focus (dsimp only [ev_t, ev_c, getD_zero, getD_succ]; try exact rfl)); (focus (with_unfolding_all exact rfl)); (focus (dsimp only [set_zero, set_succ]; try exact rfl)))
    | ((with_reducible apply regW_ldB); (focus (dsimp only [ev_t, ev_c, getD_zero, getD_succ]; try exact rfl)); (focus (dsimp only [sidx_zero, sidx_succ]; try exact rfl)); (focus (with_unfolding_all exact rfl)); (focus (dsimp only [set_zero, set_succ]; try exact rfl)))
    | ((with_reducible apply regW_stB); (focus (dsimp only [ev_t, ev_c, getD_zero, getD_succ]; try exact rfl)); (focus (dsimp only [ev_t, ev_c, getD_zero, getD_succ]; try exact rfl)); (focus (dsimp only [sidx_zero, sidx_succ]; try exact rfl)); (focus (with_unfolding_all exact rfl)); (focus (with_unfolding_all exact rfl)); (focus (with_unfolding_all exact rfl)); (focus (dsimp only [set_zero, set_succ]; try exact rfl)))
    | ((with_reducible apply regW_eqT); (focus (dsimp only [ev_t, ev_c, getD_zero, getD_succ]; try exact rfl)); (focus (dsimp only [ev_t, ev_c, getD_zero, getD_succ]; try exact rfl)); (focus (dsimp only [vals?, Cel.enc, Val.enc, Option.map_some]; try exact rfl)); (focus (dsimp only [vals?, Cel.enc, Val.enc, Option.map_some]; try exact rfl)); (focus (first | exact eqVz _ | exact eqzV _ | exact eqV _ _ | exact eqC _ _)); (focus (dsimp only [set_zero, set_succ]; try exact rfl)))
    | ((with_reducible apply regW_neT); (focus (dsimp only [ev_t, ev_c, getD_zero, getD_succ]; try exact rfl)); (focus (dsimp only [ev_t, ev_c, getD_zero, getD_succ]; try exact rfl)); (focus (dsimp only [vals?, Cel.enc, Val.enc, Option.map_some]; try exact rfl)); (focus (dsimp only [vals?, Cel.enc, Val.enc, Option.map_some]; try exact rfl)); (focus (first | exact eqVz _ | exact eqzV _ | exact eqV _ _ | exact eqC _ _)); (focus (dsimp only [set_zero, set_succ]; try exact rfl)))
    | ((with_reducible apply regW_bs1); (focus (dsimp only [ev_t, ev_c, getD_zero, getD_succ]; try exact rfl)); (focus (with_unfolding_all exact rfl)); (focus (with_unfolding_all exact rfl)); (focus (with_unfolding_all exact rfl)); (focus (dsimp only [set_zero, set_succ, List.length_cons, List.length_nil, Nat.reduceAdd]; try exact rfl)); (focus (dsimp only [List.cons_append, List.nil_append]; try exact rfl)))
    | ((with_reducible apply regW_app); (focus (dsimp only [ev_t, ev_c, getD_zero, getD_succ]; try exact rfl)); (focus (dsimp only [sidx_zero, sidx_succ]; try exact rfl)); (focus (with_reducible exact rfl)); (focus (dsimp only [ev_t, ev_c, getD_zero, getD_succ]; try exact rfl)); (focus (dsimp only [sidx_zero, sidx_succ]; try exact rfl)); (focus (with_unfolding_all exact rfl)); (focus assumption); (focus decide); (focus (dsimp only [set_zero, set_succ, List.length_cons, List.length_nil, Nat.reduceAdd]; try exact rfl)); (focus (dsimp only [set_zero, set_succ, List.cons_append, List.nil_append]; try exact rfl)))
    | ((with_reducible apply regW_opS); (focus (dsimp only [semF, ev_t, ev_c, getD_zero, getD_succ, bin_lss, bin_leq, bin_gtr, bin_geq, bin_eql, bin_neq, bin_add, bin_sub, bin_mul, bin_and, bin_shr20, bin_rem20, un_not, cond_true, cond_false, Nat.reduceAdd, Bool.not_true, Bool.not_false, scalar, Bool.and_self, if_true, if_false, Bool.false_eq_true, Option.map_some, AV.cells?, getCells, sidx_zero, sidx_succ, List.length_cons, List.length_nil, List.nil_append, List.cons_append, List.append_nil, List.drop, List.take, splice, Cel.enc, Val.enc]; try exact rfl)); (focus (dsimp only [set_zero, set_succ]; try exact rfl)))
    | ((with_reducible apply regW_op); (focus (dsimp only [semF, ev_t, ev_c, getD_zero, getD_succ, bin_lss, bin_leq, bin_gtr, bin_geq, bin_eql, bin_neq, bin_add, bin_sub, bin_mul, bin_and, bin_shr20, bin_rem20, un_not, cond_true, cond_false, Nat.reduceAdd, Bool.not_true, Bool.not_false, scalar, Bool.and_self, if_true, if_false, Bool.false_eq_true, Option.map_some, AV.cells?, getCells, sidx_zero, sidx_succ, List.length_cons, List.length_nil, List.nil_append, List.cons_append, List.append_nil, List.drop, List.take, splice]; try exact rfl)); (focus (dsimp only [set_zero, set_succ]; try exact rfl)))
    | ((with_reducible apply regW_shut'); (focus (dsimp only [getD_zero, getD_succ]; try (with_reducible exact rfl); done)); (focus (dsimp only [set_zero, set_succ]; try exact rfl)))
    | ((with_reducible apply regW_splitT); (focus (dsimp only [getD_zero, getD_succ]; try exact rfl)); all_goals (intro hc; (try dsimp only [set_zero, set_succ]); (try (with_reducible cases hc)); (try (with_reducible contradiction)); (try rw [hc])))
    | ((with_reducible apply regW_splitF); (focus (dsimp only [getD_zero, getD_succ]; try exact rfl)); all_goals (intro hc; (try dsimp only [set_zero, set_succ]); (try (with_reducible cases hc)); (try (with_reducible contradiction)); (try rw [hc])))
    | ((with_reducible apply regW_opN); (focus (dsimp only [semF, ev_t, ev_c, getD_zero, getD_succ, bin_lss, bin_leq, bin_gtr, bin_geq, bin_eql, bin_neq, bin_add, bin_sub, bin_mul, bin_and, bin_shr20, bin_rem20, un_not, cond_true, cond_false, Nat.reduceAdd, Bool.not_true, Bool.not_false, scalar, Bool.and_self, if_true, if_false, Bool.false_eq_true, Option.map_some, AV.cells?, getCells, sidx_zero, sidx_succ, List.length_cons, List.length_nil, List.nil_append, List.cons_append, List.append_nil, List.drop, List.take, splice, set_zero, set_succ]; try exact rfl)))
    | ((with_reducible apply G_cond); (focus (dsimp only [ev_t, ev_c, getD_zero, getD_succ]; try exact rfl)); all_goals (intro hc; (try (with_reducible cases hc)); (try (with_reducible contradiction)))))
        all_goals first
          | (refine ⟨_, rfl, .inl ⟨_, rfl, ret_bool ?_⟩⟩; rw [hI, hat]; clear hI hat; grind)
          | (refine Nx_round (k + 1) [] ?_ ⟨by omega, ?_⟩ (by omega); (focus (refine ⟨by decide, rfl, ?_, ?_⟩ <;> repeat' first
      | exact True.intro
      | ((refine And.intro (Or.inl ?_) ?_); (focus (with_reducible exact rfl)))
      | ((refine And.intro (Or.inr (And.intro ?_ (And.intro rfl rfl))) ?_); (focus (dsimp only [AV.ren, getD_zero, getD_succ]; try (with_reducible exact rfl); done)))
      | (refine And.intro (Or.inr (And.intro ?_ (And.intro rfl rfl))) ?_)
      | (with_reducible exact weakO_row rfl)
      | (refine And.intro (Exists.intro _ (And.intro rfl ?_)) ?_)
      | (refine Exists.intro _ (And.intro rfl ?_))
      | (with_reducible exact rfl))); (rw [hI, hat]; clear hI hat; grind))
      · have hd : ¬ (decide ((k : Int) < (a.length : Int)) = true) := by simp; omega
        (repeat' first
    | with_reducible refine G_seq ?_
    | with_reducible refine G_reg ?_
    | with_reducible refine regW_nil ?_
    | with_reducible refine Nx_code ?_
    | with_reducible refine Nx_blk ?_
    | with_reducible refine Ex_blk ?_
    | with_reducible refine Ex_code ?_
    | with_reducible refine Ex_inv ?_
    | with_reducible refine G_exit ?_
    | with_reducible refine G_block ?_
    | with_reducible refine G_ret ?_
    | with_reducible refine G_skip ?_
    | ((with_reducible refine G_draw mixed (by decide +kernel) ?_))
    | ((with_reducible apply regW_iaM); (focus (dsimp only [ev_t, ev_c, getD_zero, getD_succ]; try exact rfl)); (focus (dsimp only [ev_t, ev_c, getD_zero, getD_succ]; try exact rfl)); (focus assumption); (focus (with_unfolding_all exact rfl)); (focus (dsimp only [set_zero, set_succ]; try exact rfl)))
    | ((with_reducible apply regW_lenM); (focus (dsimp only [ev_t, ev_c, getD_zero, getD_succ]; try exact rfl)); (focus (dsimp only [set_zero, set_succ]; try exact rfl)))
    | ((with_reducible apply regW_add); (focus (dsimp only [ev_t, ev_c, getD_zero, getD_succ]; try exact rfl)); (focus (dsimp only [ev_t, ev_c, getD_zero, getD_succ]; try exact rfl)); (focus (first | assumption | exact rfl)); (focus (dsimp only [set_zero, set_succ]; try exact rfl)))
    | ((with_reducible apply regW_sub); (focus (dsimp only [ev_t, ev_c, getD_zero, getD_succ]; try exact rfl)); (focus (dsimp only [ev_t, ev_c, getD_zero, getD_succ]; try exact rfl)); (focus (first | assumption | exact rfl)); (focus (dsimp only [set_zero, set_succ]; try exact rfl)))
    | ((with_reducible apply regW_ldE); (focus (dsimp only [ev_t, ev_c, getD_zero, getD_succ]; try exact rfl)); (focus (with_unfolding_all exact rfl)); (focus (dsimp only [set_zero, set_succ]; try exact rfl)))
    | ((with_reducible apply regW_ldB); (focus (dsimp only [ev_t, ev_c, getD_zero, getD_succ]; try exact rfl)); (focus (dsimp only [sidx_zero, sidx_succ]; try exact rfl)); (focus (with_unfolding_all exact rfl)); (focus (dsimp only [set_zero, set_succ]; try exact rfl)))
    | ((with_reducible apply regW_stB); (focus (dsimp only [ev_t, ev_c, getD_zero, getD_succ]; try exact rfl)); (focus (dsimp only [ev_t, ev_c, getD_zero, getD_succ]; try exact rfl)); (focus (dsimp only [sidx_zero, sidx_succ]; try exact rfl)); (focus (with_unfolding_all exact rfl)); (focus (with_unfolding_all exact rfl)); (focus (with_unfolding_all exact rfl)); (focus (dsimp only [set_zero, set_succ]; try exact rfl)))
    | ((with_reducible apply regW_eqT); (focus (dsimp only [ev_t, ev_c, getD_zero, getD_succ]; try exact rfl)); (focus (dsimp only [ev_t, ev_c, getD_zero, getD_succ]; try exact rfl)); (focus (dsimp only [vals?, Cel.enc, Val.enc, Option.map_some]; try exact rfl)); (focus (dsimp only [vals?, Cel.enc, Val.enc, Option.map_some]; try exact rfl)); (focus (first | exact eqVz _ | exact eqzV _ | exact eqV _ _ | exact eqC _ _)); (focus (dsimp only [set_zero, set_succ]; try exact rfl)))
    | ((with_reducible apply regW_neT); (focus (dsimp only [ev_t, ev_c, getD_zero, getD_succ]; try exact rfl)); (focus (dsimp only [ev_t, ev_c, getD_zero, getD_succ]; try exact rfl)); (focus (dsimp only [vals?, Cel.enc, Val.enc, Option.map_some]; try exact rfl)); (focus (dsimp only [vals?, Cel.enc, Val.enc, Option.map_some]; try exact rfl)); (focus (first | exact eqVz _ | exact eqzV _ | exact eqV _ _ | exact eqC _ _)); (focus (dsimp only [set_zero, set_succ]; try exact rfl)))
    | ((with_reducible apply regW_bs1); (focus (dsimp only [ev_t, ev_c, getD_zero, getD_succ]; try exact rfl)); (focus (with_unfolding_all exact rfl)); (focus (with_unfolding_all exact rfl)); (focus (with_unfolding_all exact rfl)); (focus (dsimp only [set_zero, set_succ, List.length_cons, List.length_nil, Nat.reduceAdd]; try exact rfl)); (focus (dsimp only [List.cons_append, List.nil_append]; try exact rfl)))
    | ((with_reducible apply regW_app); (focus (dsimp only [ev_t, ev_c, getD_zero, getD_succ]; try exact rfl)); (focus (dsimp only [sidx_zero, sidx_succ]; try exact rfl)); (focus (with_reducible exact rfl)); (focus (dsimp only [ev_t, ev_c, getD_zero, getD_succ]; try exact rfl)); (focus (dsimp only [sidx_zero, sidx_succ]; try exact rfl)); (focus (with_unfolding_all exact rfl)); (focus assumption); (focus decide); (focus (dsimp only [set_zero, set_succ, List.length_cons, List.length_nil, Nat.reduceAdd]; try exact rfl)); (focus (dsimp only [set_zero, set_succ, List.cons_append, List.nil_append]; try exact rfl)))
    | ((with_reducible apply regW_opS); (focus (dsimp only [semF, ev_t, ev_c, getD_zero, getD_succ, bin_lss, bin_leq, bin_gtr, bin_geq, bin_eql, bin_neq, bin_add, bin_sub, bin_mul, bin_and, bin_shr20, bin_rem20, un_not, cond_true, cond_false, Nat.reduceAdd, Bool.not_true, Bool.not_false, scalar, Bool.and_self, if_true, if_false, Bool.false_eq_true, Option.map_some, AV.cells?, getCells, sidx_zero, sidx_succ, List.length_cons, List.length_nil, List.nil_append, List.cons_append, List.append_nil, List.drop, List.take, splice, Cel.enc, Val.enc]; try exact rfl)); (focus (dsimp only [set_zero, set_succ]; try exact rfl)))
    | ((with_reducible apply regW_op); (focus (dsimp only [semF, ev_t, ev_c, getD_zero, getD_succ, bin_lss, bin_leq, bin_gtr, bin_geq, bin_eql, bin_neq, bin_add, bin_sub, bin_mul, bin_and, bin_shr20, bin_rem20, un_not, cond_true, cond_false, Nat.reduceAdd, Bool.not_true, Bool.not_false, scalar, Bool.and_self, if_true, if_false, Bool.false_eq_true, Option.map_some, AV.cells?, getCells, sidx_zero, sidx_succ, List.length_cons, List.length_nil, List.nil_append, List.cons_append, List.append_nil, List.drop, List.take, splice]; try exact rfl)); (focus (dsimp only [set_zero, set_succ]; try exact rfl)))
    | ((with_reducible apply regW_shut'); (focus (dsimp only [getD_zero, getD_succ]; try (with_reducible exact rfl); done)); (focus (dsimp only [set_zero, set_succ]; try exact rfl)))
    | ((with_reducible apply regW_splitT); (focus (dsimp only [getD_zero, getD_succ]; try exact rfl)); all_goals (intro hc; (try dsimp only [set_zero, set_succ]); (try (with_reducible cases hc)); (try (with_reducible contradiction)); (try rw [hc])))
    | ((with_reducible apply regW_splitF); (focus (dsimp only [getD_zero, getD_succ]; try exact rfl)); all_goals (intro hc; (try dsimp only [set_zero, set_succ]); (try (with_reducible cases hc)); (try (with_reducible contradiction)); (try rw [hc])))
    | ((with_reducible apply regW_opN); (focus (dsimp only [semF, ev_t, ev_c, getD_zero, getD_succ, bin_lss, bin_leq, bin_gtr, bin_geq, bin_eql, bin_neq, bin_add, bin_sub, bin_mul, bin_and, bin_shr20, bin_rem20, un_not, cond_true, cond_false, Nat.reduceAdd, Bool.not_true, Bool.not_false, scalar, Bool.and_self, if_true, if_false, Bool.false_eq_true, Option.map_some, AV.cells?, getCells, sidx_zero, sidx_succ, List.length_cons, List.length_nil, List.nil_append, List.cons_append, List.append_nil, List.drop, List.take, splice, set_zero, set_succ]; try exact rfl)))
    | ((with_reducible apply G_cond); (focus (dsimp only [ev_t, ev_c, getD_zero, getD_succ]; try exact rfl)); all_goals (intro hc; (try (with_reducible cases hc)); (try (with_reducible contradiction)))))
        refine ⟨_, rfl, .inl ⟨_, rfl, ret_bool ?_⟩⟩
        rw [hI, List.drop_eq_nil_of_le (by omega), List.drop_eq_nil_of_le (by omega)]
        rfl
  · have hd0 : ¬ (((a.length : Int) != (b.length : Int)) = false) := by simp; omega
    rw [sameB_len hab]
    (repeat' first
    | with_reducible refine G_seq ?_
    | with_reducible refine G_reg ?_
    | with_reducible refine regW_nil ?_
    | with_reducible refine Nx_code ?_
    | with_reducible refine Nx_blk ?_
    | with_reducible refine Ex_blk ?_
    | with_reducible refine Ex_code ?_
    | with_reducible refine Ex_inv ?_
    | with_reducible refine G_exit ?_
    | with_reducible refine G_block ?_
    | with_reducible refine G_ret ?_
    | with_reducible refine G_skip ?_
    | ((with_reducible refine G_draw mixed (by decide +kernel) ?_))
    | ((with_reducible apply regW_iaM); (focus (dsimp only [ev_t, ev_c, getD_zero, getD_succ]; try exact rfl)); (focus (dsimp only [ev_t, ev_c, getD_zero, getD_succ]; try exact rfl)); (focus assumption); (focus (with_unfolding_all exact rfl)); (focus (dsimp only [set_zero, set_succ]; try exact rfl)))
    | ((with_reducible apply regW_lenM); (focus (dsimp only [ev_t, ev_c, getD_zero, getD_succ]; try exact rfl)); (focus (dsimp only [set_zero, set_succ]; try exact rfl)))
    | ((with_reducible apply regW_add); (focus (dsimp only [ev_t, ev_c, getD_zero, getD_succ]; try exact rfl)); (focus (dsimp only [ev_t, ev_c, getD_zero, getD_succ]; try exact rfl)); (focus (first | assumption | exact rfl)); (focus (dsimp only [set_zero, set_succ]; try exact rfl)))
    | ((with_reducible apply regW_sub); (focus (dsimp only [ev_t, ev_c, getD_zero, getD_succ]; try exact rfl)); (focus (dsimp only [ev_t, ev_c, getD_zero, getD_succ]; try exact rfl)); (focus (first | assumption | exact rfl)); (focus (dsimp only [set_zero, set_succ]; try exact rfl)))
    | ((with_reducible apply regW_ldE); (focus (dsimp only [ev_t, ev_c, getD_zero, getD_succ]; try exact rfl)); (focus (with_unfolding_all exact rfl)); (focus (dsimp only [set_zero, set_succ]; try exact rfl)))
    | ((with_reducible apply regW_ldB); (focus (dsimp only [ev_t, ev_c, getD_zero, getD_succ]; try exact rfl)); (focus (dsimp only [sidx_zero, sidx_succ]; try exact rfl)); (focus (with_unfolding_all exact rfl)); (focus (dsimp only [set_zero, set_succ]; try exact rfl)))
    | ((with_reducible apply regW_stB); (focus (dsimp only [ev_t, ev_c, getD_zero, getD_succ]; try exact rfl)); (focus (dsimp only [ev_t, ev_c, getD_zero, getD_succ]; try exact rfl)); (focus (dsimp only [sidx_zero, sidx_succ]; try exact rfl)); (focus (with_unfolding_all exact rfl)); (focus (with_unfolding_all exact rfl)); (focus (with_unfolding_all exact rfl)); (focus (dsimp only [set_zero, set_succ]; try exact rfl)))
    | ((with_reducible apply regW_eqT); (focus (dsimp only [ev_t, ev_c, getD_zero, getD_succ]; try exact rfl)); (focus (dsimp only [ev_t, ev_c, getD_zero, getD_succ]; try exact rfl)); (focus (dsimp only [vals?, Cel.enc, Val.enc, Option.map_some]; try exact rfl)); (focus (dsimp only [vals?, Cel.enc, Val.enc, Option.map_some]; try exact rfl)); (focus (first | exact eqVz _ | exact eqzV _ | exact eqV _ _ | exact eqC _ _)); (focus (dsimp only [set_zero, set_succ]; try exact rfl)))
    | ((with_reducible apply regW_neT); (focus (dsimp only [ev_t, ev_c, getD_zero, getD_succ]; try exact rfl)); (focus (dsimp only [ev_t, ev_c, getD_zero, getD_succ]; try exact rfl)); (focus (dsimp only [vals?, Cel.enc, Val.enc, Option.map_some]; try exact rfl)); (focus (dsimp only [vals?, Cel.enc, Val.enc, Option.map_some]; try exact rfl)); (focus (first | exact eqVz _ | exact eqzV _ | exact eqV _ _ | exact eqC _ _)); (focus (dsimp only [set_zero, set_succ]; try exact rfl)))
    | ((with_reducible apply regW_bs1); (focus (dsimp only [ev_t, ev_c, getD_zero, getD_succ]; try exact rfl)); (focus (with_unfolding_all exact rfl)); (focus (with_unfolding_all exact rfl)); (focus (with_unfolding_all exact rfl)); (focus (dsimp only [set_zero, set_succ, List.length_cons, List.length_nil, Nat.reduceAdd]; try exact rfl)); (focus (dsimp only [List.cons_append, List.nil_append]; try exact rfl)))
    | ((with_reducible apply regW_app); (focus (dsimp only [ev_t, ev_c, getD_zero, getD_succ]; try exact rfl)); (focus (dsimp only [sidx_zero, sidx_succ]; try exact rfl)); (focus (with_reducible exact rfl)); (focus (dsimp only [ev_t, ev_c, getD_zero, getD_succ]; try exact rfl)); (focus (dsimp only [sidx_zero, sidx_succ]; try exact rfl)); (focus (with_unfolding_all exact rfl)); (focus assumption); (focus decide); (focus (dsimp only [set_zero, set_succ, List.length_cons, List.length_nil, Nat.reduceAdd]; try exact rfl)); (focus (dsimp only [set_zero, set_succ, List.cons_append, List.nil_append]; try exact rfl)))
    | ((with_reducible apply regW_opS); (focus (dsimp only [semF, ev_t, ev_c, getD_zero, getD_succ, bin_lss, bin_leq, bin_gtr, bin_geq, bin_eql, bin_neq, bin_add, bin_sub, bin_mul, bin_and, bin_shr20, bin_rem20, un_not, cond_true, cond_false, Nat.reduceAdd, Bool.not_true, Bool.not_false, scalar, Bool.and_self, if_true, if_false, Bool.false_eq_true, Option.map_some, AV.cells?, getCells, sidx_zero, sidx_succ, List.length_cons, List.length_nil, List.nil_append, List.cons_append, List.append_nil, List.drop, List.take, splice, Cel.enc, Val.enc]; try exact rfl)); (focus (dsimp only [set_zero, set_succ]; try exact rfl)))
    | ((with_reducible apply regW_op); (focus (dsimp only [semF, ev_t, ev_c, getD_zero, getD_succ, bin_lss, bin_leq, bin_gtr, bin_geq, bin_eql, bin_neq, bin_add, bin_sub, bin_mul, bin_and, bin_shr20, bin_rem20, un_not, cond_true, cond_false, Nat.reduceAdd, Bool.not_true, Bool.not_false, scalar, Bool.and_self, if_true, if_false, Bool.false_eq_true, Option.map_some, AV.cells?, getCells, sidx_zero, sidx_succ, List.length_cons, List.length_nil, List.nil_append, List.cons_append, List.append_nil, List.drop, List.take, splice]; try exact rfl)); (focus (dsimp only [set_zero, set_succ]; try exact rfl)))
    | ((with_reducible apply regW_shut'); (focus (dsimp only [getD_zero, getD_succ]; try (with_reducible exact rfl); done)); (focus (dsimp only [set_zero, set_succ]; try exact rfl)))
    | ((with_reducible apply regW_splitT); (focus (dsimp only [getD_zero, getD_succ]; try exact rfl)); all_goals (intro hc; (try dsimp only [set_zero, set_succ]); (try (with_reducible cases hc)); (try (with_reducible contradiction)); (try rw [hc])))
    | ((with_reducible apply regW_splitF); (focus (dsimp only [getD_zero, getD_succ]; try exact rfl)); all_goals (intro hc; (try dsimp only [set_zero, set_succ]); (try (with_reducible cases hc)); (try (with_reducible contradiction)); (try rw [hc])))
    | ((with_reducible apply regW_opN); (focus (dsimp only [semF, ev_t, ev_c, getD_zero, getD_succ, bin_lss, bin_leq, bin_gtr, bin_geq, bin_eql, bin_neq, bin_add, bin_sub, bin_mul, bin_and, bin_shr20, bin_rem20, un_not, cond_true, cond_false, Nat.reduceAdd, Bool.not_true, Bool.not_false, scalar, Bool.and_self, if_true, if_false, Bool.false_eq_true, Option.map_some, AV.cells?, getCells, sidx_zero, sidx_succ, List.length_cons, List.length_nil, List.nil_append, List.cons_append, List.append_nil, List.drop, List.take, splice, set_zero, set_succ]; try exact rfl)))
    | ((with_reducible apply G_cond); (focus (dsimp only [ev_t, ev_c, getD_zero, getD_succ]; try exact rfl)); all_goals (intro hc; (try (with_reducible cases hc)); (try (with_reducible contradiction)))))
    exact ⟨_, rfl, .inl ⟨_, rfl, rfl⟩⟩

end Go.Proofs.Ythbkdnojneffdaa

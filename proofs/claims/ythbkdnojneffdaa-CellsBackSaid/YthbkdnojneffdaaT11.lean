/- Contracts of functions of the program over the abstract machine. -/
import Derived.Test.YthbkdnojneffdaaT10
namespace Go.Proofs.Ythbkdnojneffdaa
open Go.Am

theorem cmpC_cases (a b : Cel) : cmpC a b = -1 ∨ cmpC a b = 0 ∨ cmpC a b = 1 := by
  unfold cmpC
  rcases cmpI_cases a.id b.id with ⟨h, e⟩ | ⟨h, e⟩ | ⟨h, e⟩ <;> rw [e] <;> simp
  rcases cmpI_cases a.field b.field with ⟨h', e'⟩ | ⟨h', e'⟩ | ⟨h', e'⟩ <;> rw [e'] <;> simp
theorem nm : ¬ (decide ((-1 : Int) < 0) = false) ∧ ¬ (decide ((0 : Int) < -1) = true) ∧ ¬ (decide ((-1 : Int) ≤ 0) = false) ∧ ¬ (decide ((0 : Int) ≤ -1) = true) := by decide
theorem nz : ¬ (decide ((0 : Int) < 0) = true) ∧ ¬ (decide ((0 : Int) ≤ 0) = false) := by decide
theorem np : ¬ (decide ((1 : Int) < 0) = true) ∧ ¬ (decide ((0 : Int) < 1) = false) ∧ ¬ (decide ((1 : Int) ≤ 0) = true) ∧ ¬ (decide ((0 : Int) ≤ 1) = false) := by decide

set_option maxHeartbeats 2000000 in
theorem c18 (a0 b0 : List Cel) (hla : a0.length ≤ 50000) (hlb : b0.length ≤ 50000) : Contract Try.prog 18 [encL a0, encL b0] (.fresh 31 6 ((diffB a0 b0).map Cel.enc)) := by
  have c11a := c11 a0 (by omega)
  have c11b := c11 b0 (by omega)
  unfold encL at c11a c11b ⊢
  unfold diffB
  obtain ⟨nm1, nm2, nm3, nm4⟩ := nm
  obtain ⟨nz1, nz2⟩ := nz
  obtain ⟨np1, np2, np3, np4⟩ := np
  by_cases hv : validB a0 = true
  case neg =>
    rw [Bool.not_eq_true] at hv
    rw [hv] at c11a ⊢
    (refine contract_g (fr := [.vs (a0.map Cel.enc), .vs (b0.map Cel.enc), .v undef, .v undef, .v undef, .v undef, .v undef, .v undef, .v undef, .v undef, .v undef, .v undef, .v undef, .v undef, .v undef, .v undef, .v undef, .v undef, .v undef, .v undef, .v undef, .v undef, .v undef, .v undef, .v undef, .v undef, .v undef, .v undef, .v undef, .v undef, .v undef, .v undef, .v undef, .v undef, .v undef, .v undef, .v undef, .v undef, .v undef, .v undef, .v undef, .v undef, .v undef, .v undef, .v undef, .v undef, .v undef, .v undef, .v undef, .v undef, .v undef, .v undef, .v undef, .v undef, .v undef, .v undef, .v undef, .v undef, .v undef, .v undef, .v undef, .v undef, .v undef, .v undef, .v undef, .v undef, .v undef, .v undef, .v undef, .v undef, .v undef, .v undef, .v undef, .v undef, .v undef, .v undef, .v undef, .v undef, .v undef, .v undef, .v undef, .v undef]) Try.func18 a18_ok rfl ?_; dsimp only [a18])
    (repeat' first
    | with_reducible refine G_seq ?_
    | with_reducible refine G_reg ?_
    | with_reducible refine regW_nil ?_
    | with_reducible refine Nx_code ?_
    | with_reducible refine Nx_blk ?_
    | with_reducible refine Ex_blk ?_
    | with_reducible refine Ex_code ?_
    | with_reducible refine Ex_inv ?_
    | with_reducible refine G_exit ?_
    | with_reducible refine G_block ?_
    | with_reducible refine G_ret ?_
    | with_reducible refine G_skip ?_
    | ((with_reducible refine G_draw mixed (by decide +kernel) ?_))
    | ((with_reducible apply regW_ia0); (focus ((try dsimp only [ev_t, ev_c, getD_zero, getD_succ]); first | done | exact rfl)); (focus (with_unfolding_all exact rfl)); (focus (dsimp only [set_zero, set_succ]; try exact rfl)))
    | ((with_reducible apply regW_tail); (focus ((try dsimp only [ev_t, ev_c, getD_zero, getD_succ]); first | done | exact rfl)); (focus (intro; (with_unfolding_all exact rfl))); (focus (dsimp only [set_zero, set_succ]; try exact rfl)))
    | ((with_reducible apply regW_iaM); (focus (dsimp only [ev_t, ev_c, getD_zero, getD_succ]; try exact rfl)); (focus (dsimp only [ev_t, ev_c, getD_zero, getD_succ]; try exact rfl)); (focus assumption); (focus (with_unfolding_all exact rfl)); (focus (dsimp only [set_zero, set_succ]; try exact rfl)))
    | ((with_reducible apply regW_lenM); (focus (dsimp only [ev_t, ev_c, getD_zero, getD_succ]; try exact rfl)); (focus (dsimp only [set_zero, set_succ]; try exact rfl)))
    | ((with_reducible apply regW_lenO); (focus ((try dsimp only [ev_t, ev_c, getD_zero, getD_succ]); first | done | exact rfl)); (focus (dsimp only [set_zero, set_succ]; try exact rfl)))
    | ((with_reducible apply regW_add); (focus (dsimp only [ev_t, ev_c, getD_zero, getD_succ]; try exact rfl)); (focus (dsimp only [ev_t, ev_c, getD_zero, getD_succ]; try exact rfl)); (focus (first | assumption | exact rfl)); (focus (dsimp only [set_zero, set_succ]; try exact rfl)))
    | ((with_reducible apply regW_sub); (focus (dsimp only [ev_t, ev_c, getD_zero, getD_succ]; try exact rfl)); (focus (dsimp only [ev_t, ev_c, getD_zero, getD_succ]; try exact rfl)); (focus (first | assumption | exact rfl)); (focus (dsimp only [set_zero, set_succ]; try exact rfl)))
    | ((with_reducible apply regW_ldE); (focus (dsimp only [ev_t, ev_c, getD_zero, getD_succ]; try exact rfl)); (focus (with_unfolding_all exact rfl)); (focus (dsimp only [set_zero, set_succ]; try exact rfl)))
    | ((with_reducible apply regW_ldB); (focus (dsimp only [ev_t, ev_c, getD_zero, getD_succ]; try exact rfl)); (focus (dsimp only [sidx_zero, sidx_succ]; try exact rfl)); (focus (with_unfolding_all exact rfl)); (focus (dsimp only [set_zero, set_succ]; try exact rfl)))
    | ((with_reducible apply regW_stB); (focus (dsimp only [ev_t, ev_c, getD_zero, getD_succ]; try exact rfl)); (focus (dsimp only [ev_t, ev_c, getD_zero, getD_succ]; try exact rfl)); (focus (dsimp only [sidx_zero, sidx_succ]; try exact rfl)); (focus (with_unfolding_all exact rfl)); (focus (with_unfolding_all exact rfl)); (focus (with_unfolding_all exact rfl)); (focus (dsimp only [set_zero, set_succ]; try exact rfl)))
    | ((with_reducible apply regW_eqT); (focus (dsimp only [ev_t, ev_c, getD_zero, getD_succ]; try exact rfl)); (focus (dsimp only [ev_t, ev_c, getD_zero, getD_succ]; try exact rfl)); (focus (dsimp only [vals?, Cel.enc, Val.enc, Option.map_some]; try exact rfl)); (focus (dsimp only [vals?, Cel.enc, Val.enc, Option.map_some]; try exact rfl)); (focus (first | exact eqVz _ | exact eqzV _ | exact eqV _ _ | exact eqC _ _)); (focus (dsimp only [set_zero, set_succ]; try exact rfl)))
    | ((with_reducible apply regW_neT); (focus (dsimp only [ev_t, ev_c, getD_zero, getD_succ]; try exact rfl)); (focus (dsimp only [ev_t, ev_c, getD_zero, getD_succ]; try exact rfl)); (focus (dsimp only [vals?, Cel.enc, Val.enc, Option.map_some]; try exact rfl)); (focus (dsimp only [vals?, Cel.enc, Val.enc, Option.map_some]; try exact rfl)); (focus (first | exact eqVz _ | exact eqzV _ | exact eqV _ _ | exact eqC _ _)); (focus (dsimp only [set_zero, set_succ]; try exact rfl)))
    | ((with_reducible apply regW_bs1); (focus (first | exact congrArg AV.agg hfold | (dsimp only [ev_t, ev_c, getD_zero, getD_succ]; first | done | exact rfl))); (focus (with_unfolding_all exact rfl)); (focus (with_unfolding_all exact rfl)); (focus (with_unfolding_all exact rfl)); (focus (dsimp only [set_zero, set_succ, List.length_cons, List.length_nil, Nat.reduceAdd]; try exact rfl)); (focus (dsimp only [List.cons_append, List.nil_append]; try exact rfl)))
    | ((with_reducible apply regW_app); (focus (dsimp only [ev_t, ev_c, getD_zero, getD_succ]; try exact rfl)); (focus (dsimp only [sidx_zero, sidx_succ]; try exact rfl)); (focus (with_reducible exact rfl)); (focus (dsimp only [ev_t, ev_c, getD_zero, getD_succ]; try exact rfl)); (focus (dsimp only [sidx_zero, sidx_succ]; try exact rfl)); (focus (with_unfolding_all exact rfl)); (focus assumption); (focus decide); (focus (dsimp only [set_zero, set_succ, List.length_cons, List.length_nil, Nat.reduceAdd]; try exact rfl)); (focus (dsimp only [set_zero, set_succ, List.cons_append, List.nil_append]; try exact rfl)))
    | ((with_reducible apply regW_appE); (focus ((try dsimp only [ev_t, ev_c, getD_zero, getD_succ]); first | done | exact rfl)); (focus ((try dsimp only [ev_t, ev_c, getD_zero, getD_succ]); first | done | exact rfl)); (focus (dsimp only [set_zero, set_succ]; try exact rfl)))
    | ((with_reducible apply regW_appL); (focus ((try dsimp only [ev_t, ev_c, getD_zero, getD_succ]); first | done | exact rfl)); (focus (dsimp only [sidx_zero, sidx_succ]; try exact rfl)); (focus (with_reducible exact rfl)); (focus ((try dsimp only [ev_t, ev_c, getD_zero, getD_succ]); first | done | exact rfl)); (focus assumption); (focus (intros; (with_unfolding_all exact rfl))); (focus assumption); (focus decide); (focus (dsimp only [set_zero, set_succ, List.length_cons, List.length_nil, Nat.reduceAdd]; try exact rfl)); (focus (dsimp only [set_zero, set_succ, List.cons_append, List.nil_append]; try exact rfl)))
    | ((with_reducible apply regW_opS); (focus (dsimp only [semF, ev_t, ev_c, getD_zero, getD_succ, bin_lss, bin_leq, bin_gtr, bin_geq, bin_eql, bin_neq, bin_add, bin_sub, bin_mul, bin_and, bin_shr20, bin_rem20, un_not, cond_true, cond_false, Nat.reduceAdd, Bool.not_true, Bool.not_false, scalar, Bool.and_self, if_true, if_false, Bool.false_eq_true, Option.map_some, AV.cells?, getCells, sidx_zero, sidx_succ, List.length_cons, List.length_nil, List.nil_append, List.cons_append, List.append_nil, List.drop, List.take, splice, fillA, Cel.enc, Val.enc]; try exact rfl)); (focus (dsimp only [set_zero, set_succ]; try exact rfl)))
    | ((with_reducible apply regW_op); (focus (dsimp only [semF, ev_t, ev_c, getD_zero, getD_succ, bin_lss, bin_leq, bin_gtr, bin_geq, bin_eql, bin_neq, bin_add, bin_sub, bin_mul, bin_and, bin_shr20, bin_rem20, un_not, cond_true, cond_false, Nat.reduceAdd, Bool.not_true, Bool.not_false, scalar, Bool.and_self, if_true, if_false, Bool.false_eq_true, Option.map_some, AV.cells?, getCells, sidx_zero, sidx_succ, List.length_cons, List.length_nil, List.nil_append, List.cons_append, List.append_nil, List.drop, List.take, splice, fillA]; try exact rfl)); (focus (dsimp only [set_zero, set_succ]; try exact rfl)))
    | ((with_reducible apply regW_shut'); (focus (dsimp only [getD_zero, getD_succ]; try (with_reducible exact rfl); done)); (focus (dsimp only [set_zero, set_succ]; try exact rfl)))
    | ((with_reducible apply regW_splitT); (focus (dsimp only [getD_zero, getD_succ]; try exact rfl)); all_goals (intro hc; (try dsimp only [set_zero, set_succ]); (try (with_reducible cases hc)); (try (with_reducible contradiction)); (try rw [hc])))
    | ((with_reducible apply regW_splitF); (focus (dsimp only [getD_zero, getD_succ]; try exact rfl)); all_goals (intro hc; (try dsimp only [set_zero, set_succ]); (try (with_reducible cases hc)); (try (with_reducible contradiction)); (try rw [hc])))
    | ((with_reducible apply regW_opN); (focus (dsimp only [semF, ev_t, ev_c, getD_zero, getD_succ, bin_lss, bin_leq, bin_gtr, bin_geq, bin_eql, bin_neq, bin_add, bin_sub, bin_mul, bin_and, bin_shr20, bin_rem20, un_not, cond_true, cond_false, Nat.reduceAdd, Bool.not_true, Bool.not_false, scalar, Bool.and_self, if_true, if_false, Bool.false_eq_true, Option.map_some, AV.cells?, getCells, sidx_zero, sidx_succ, List.length_cons, List.length_nil, List.nil_append, List.cons_append, List.append_nil, List.drop, List.take, splice, fillA, set_zero, set_succ]; try exact rfl)))
    | ((with_reducible apply regW_callV); (focus (dsimp only [List.map, ev_t, ev_c, getD_zero, getD_succ]; try exact rfl)); (focus (repeat' first | exact reifyAll_nil | (apply reifyAll_vs) | (apply reifyAll_nils Cel.enc) | ((apply reifyAll_own); (focus (dsimp only [sidx_zero, sidx_succ]; try exact rfl)); (focus (with_reducible exact rfl))) | (apply reifyAll_val rfl))); (focus (exact c11a)); (focus (first | exact Flat.v _ | exact val_flat _)); (focus (dsimp only [set_zero, set_succ]; try exact rfl)))
    | ((with_reducible apply G_cond); (focus (dsimp only [ev_t, ev_c, getD_zero, getD_succ]; try exact rfl)); all_goals (intro hc; (try (with_reducible cases hc)); (try (with_reducible contradiction)))))
    exact ⟨_, rfl, .inr (.inr ⟨_, _, rfl, rfl⟩)⟩
  rw [hv] at c11a ⊢
  by_cases hw : validB b0 = true
  case neg =>
    rw [Bool.not_eq_true] at hw
    rw [hw] at c11b ⊢
    (refine contract_g (fr := [.vs (a0.map Cel.enc), .vs (b0.map Cel.enc), .v undef, .v undef, .v undef, .v undef, .v undef, .v undef, .v undef, .v undef, .v undef, .v undef, .v undef, .v undef, .v undef, .v undef, .v undef, .v undef, .v undef, .v undef, .v undef, .v undef, .v undef, .v undef, .v undef, .v undef, .v undef, .v undef, .v undef, .v undef, .v undef, .v undef, .v undef, .v undef, .v undef, .v undef, .v undef, .v undef, .v undef, .v undef, .v undef, .v undef, .v undef, .v undef, .v undef, .v undef, .v undef, .v undef, .v undef, .v undef, .v undef, .v undef, .v undef, .v undef, .v undef, .v undef, .v undef, .v undef, .v undef, .v undef, .v undef, .v undef, .v undef, .v undef, .v undef, .v undef, .v undef, .v undef, .v undef, .v undef, .v undef, .v undef, .v undef, .v undef, .v undef, .v undef, .v undef, .v undef, .v undef, .v undef, .v undef, .v undef]) Try.func18 a18_ok rfl ?_; dsimp only [a18])
    (repeat' first
    | with_reducible refine G_seq ?_
    | with_reducible refine G_reg ?_
    | with_reducible refine regW_nil ?_
    | with_reducible refine Nx_code ?_
    | with_reducible refine Nx_blk ?_
    | with_reducible refine Ex_blk ?_
    | with_reducible refine Ex_code ?_
    | with_reducible refine Ex_inv ?_
    | with_reducible refine G_exit ?_
    | with_reducible refine G_block ?_
    | with_reducible refine G_ret ?_
    | with_reducible refine G_skip ?_
    | ((with_reducible refine G_draw mixed (by decide +kernel) ?_))
    | ((with_reducible apply regW_ia0); (focus ((try dsimp only [ev_t, ev_c, getD_zero, getD_succ]); first | done | exact rfl)); (focus (with_unfolding_all exact rfl)); (focus (dsimp only [set_zero, set_succ]; try exact rfl)))
    | ((with_reducible apply regW_tail); (focus ((try dsimp only [ev_t, ev_c, getD_zero, getD_succ]); first | done | exact rfl)); (focus (intro; (with_unfolding_all exact rfl))); (focus (dsimp only [set_zero, set_succ]; try exact rfl)))
    | ((with_reducible apply regW_iaM); (focus (dsimp only [ev_t, ev_c, getD_zero, getD_succ]; try exact rfl)); (focus (dsimp only [ev_t, ev_c, getD_zero, getD_succ]; try exact rfl)); (focus assumption); (focus (with_unfolding_all exact rfl)); (focus (dsimp only [set_zero, set_succ]; try exact rfl)))
    | ((with_reducible apply regW_lenM); (focus (dsimp only [ev_t, ev_c, getD_zero, getD_succ]; try exact rfl)); (focus (dsimp only [set_zero, set_succ]; try exact rfl)))
    | ((with_reducible apply regW_lenO); (focus ((try dsimp only [ev_t, ev_c, getD_zero, getD_succ]); first | done | exact rfl)); (focus (dsimp only [set_zero, set_succ]; try exact rfl)))
    | ((with_reducible apply regW_add); (focus (dsimp only [ev_t, ev_c, getD_zero, getD_succ]; try exact rfl)); (focus (dsimp only [ev_t, ev_c, getD_zero, getD_succ]; try exact rfl)); (focus (first | assumption | exact rfl)); (focus (dsimp only [set_zero, set_succ]; try exact rfl)))
    | ((with_reducible apply regW_sub); (focus (dsimp only [ev_t, ev_c, getD_zero, getD_succ]; try exact rfl)); (focus (dsimp only [ev_t, ev_c, getD_zero, getD_succ]; try exact rfl)); (focus (first | assumption | exact rfl)); (focus (dsimp only [set_zero, set_succ]; try exact rfl)))
    | ((with_reducible apply regW_ldE); (focus (dsimp only [ev_t, ev_c, getD_zero, getD_succ]; try exact rfl)); (focus (with_unfolding_all exact rfl)); (focus (dsimp only [set_zero, set_succ]; try exact rfl)))
    | ((with_reducible apply regW_ldB); (focus (dsimp only [ev_t, ev_c, getD_zero, getD_succ]; try exact rfl)); (focus (dsimp only [sidx_zero, sidx_succ]; try exact rfl)); (focus (with_unfolding_all exact rfl)); (focus (dsimp only [set_zero, set_succ]; try exact rfl)))
    | ((with_reducible apply regW_stB); (focus (dsimp only [ev_t, ev_c, getD_zero, getD_succ]; try exact rfl)); (focus (dsimp only [ev_t, ev_c, getD_zero, getD_succ]; try exact rfl)); (focus (dsimp only [sidx_zero, sidx_succ]; try exact rfl)); (focus (with_unfolding_all exact rfl)); (focus (with_unfolding_all exact rfl)); (focus (with_unfolding_all exact rfl)); (focus (dsimp only [set_zero, set_succ]; try exact rfl)))
    | ((with_reducible apply regW_eqT); (focus (dsimp only [ev_t, ev_c, getD_zero, getD_succ]; try exact rfl)); (focus (dsimp only [ev_t, ev_c, getD_zero, getD_succ]; try exact rfl)); (focus (dsimp only [vals?, Cel.enc, Val.enc, Option.map_some]; try exact rfl)); (focus (dsimp only [vals?, Cel.enc, Val.enc, Option.map_some]; try exact rfl)); (focus (first | exact eqVz _ | exact eqzV _ | exact eqV _ _ | exact eqC _ _)); (focus (dsimp only [set_zero, set_succ]; try exact rfl)))
    | ((with_reducible apply regW_neT); (focus (dsimp only [ev_t, ev_c, getD_zero, getD_succ]; try exact rfl)); (focus (dsimp only [ev_t, ev_c, getD_zero, getD_succ]; try exact rfl)); (focus (dsimp only [vals?, Cel.enc, Val.enc, Option.map_some]; try exact rfl)); (focus (dsimp only [vals?, Cel.enc, Val.enc, Option.map_some]; try exact rfl)); (focus (first | exact eqVz _ | exact eqzV _ | exact eqV _ _ | exact eqC _ _)); (focus (dsimp only [set_zero, set_succ]; try exact rfl)))
    | ((with_reducible apply regW_bs1); (focus (first | exact congrArg AV.agg hfold | (dsimp only [ev_t, ev_c, getD_zero, getD_succ]; first | done | exact rfl))); (focus (with_unfolding_all exact rfl)); (focus (with_unfolding_all exact rfl)); (focus (with_unfolding_all exact rfl)); (focus (dsimp only [set_zero, set_succ, List.length_cons, List.length_nil, Nat.reduceAdd]; try exact rfl)); (focus (dsimp only [List.cons_append, List.nil_append]; try exact rfl)))
    | ((with_reducible apply regW_app); (focus (dsimp only [ev_t, ev_c, getD_zero, getD_succ]; try exact rfl)); (focus (dsimp only [sidx_zero, sidx_succ]; try exact rfl)); (focus (with_reducible exact rfl)); (focus (dsimp only [ev_t, ev_c, getD_zero, getD_succ]; try exact rfl)); (focus (dsimp only [sidx_zero, sidx_succ]; try exact rfl)); (focus (with_unfolding_all exact rfl)); (focus assumption); (focus decide); (focus (dsimp only [set_zero, set_succ, List.length_cons, List.length_nil, Nat.reduceAdd]; try exact rfl)); (focus (dsimp only [set_zero, set_succ, List.cons_append, List.nil_append]; try exact rfl)))
    | ((with_reducible apply regW_appE); (focus ((try dsimp only [ev_t, ev_c, getD_zero, getD_succ]); first | done | exact rfl)); (focus ((try dsimp only [ev_t, ev_c, getD_zero, getD_succ]); first | done | exact rfl)); (focus (dsimp only [set_zero, set_succ]; try exact rfl)))
    | ((with_reducible apply regW_appL); (focus ((try dsimp only [ev_t, ev_c, getD_zero, getD_succ]); first | done | exact rfl)); (focus (dsimp only [sidx_zero, sidx_succ]; try exact rfl)); (focus (with_reducible exact rfl)); (focus ((try dsimp only [ev_t, ev_c, getD_zero, getD_succ]); first | done | exact rfl)); (focus assumption); (focus (intros; (with_unfolding_all exact rfl))); (focus assumption); (focus decide); (focus (dsimp only [set_zero, set_succ, List.length_cons, List.length_nil, Nat.reduceAdd]; try exact rfl)); (focus (dsimp only [set_zero, set_succ, List.cons_append, List.nil_append]; try exact rfl)))
    | ((with_reducible apply regW_opS); (focus (dsimp only [semF, ev_t, ev_c, getD_zero, getD_succ, bin_lss, bin_leq, bin_gtr, bin_geq, bin_eql, bin_neq, bin_add, bin_sub, bin_mul, bin_and, bin_shr20, bin_rem20, un_not, cond_true, cond_false, Nat.reduceAdd, Bool.not_true, Bool.not_false, scalar, Bool.and_self, if_true, if_false, Bool.false_eq_true, Option.map_some, AV.cells?, getCells, sidx_zero, sidx_succ, List.length_cons, List.length_nil, List.nil_append, List.cons_append, List.append_nil, List.drop, List.take, splice, fillA, Cel.enc, Val.enc]; try exact rfl)); (focus (dsimp only [set_zero, set_succ]; try exact rfl)))
    | ((with_reducible apply regW_op); (focus (dsimp only [semF, ev_t, ev_c, getD_zero, getD_succ, bin_lss, bin_leq, bin_gtr, bin_geq, bin_eql, bin_neq, bin_add, bin_sub, bin_mul, bin_and, bin_shr20, bin_rem20, un_not, cond_true, cond_false, Nat.reduceAdd, Bool.not_true, Bool.not_false, scalar, Bool.and_self, if_true, if_false, Bool.false_eq_true, Option.map_some, AV.cells?, getCells, sidx_zero, sidx_succ, List.length_cons, List.length_nil, List.nil_append, List.cons_append, List.append_nil, List.drop, List.take, splice, fillA]; try exact rfl)); (focus (dsimp only [set_zero, set_succ]; try exact rfl)))
    | ((with_reducible apply regW_shut'); (focus (dsimp only [getD_zero, getD_succ]; try (with_reducible exact rfl); done)); (focus (dsimp only [set_zero, set_succ]; try exact rfl)))
    | ((with_reducible apply regW_splitT); (focus (dsimp only [getD_zero, getD_succ]; try exact rfl)); all_goals (intro hc; (try dsimp only [set_zero, set_succ]); (try (with_reducible cases hc)); (try (with_reducible contradiction)); (try rw [hc])))
    | ((with_reducible apply regW_splitF); (focus (dsimp only [getD_zero, getD_succ]; try exact rfl)); all_goals (intro hc; (try dsimp only [set_zero, set_succ]); (try (with_reducible cases hc)); (try (with_reducible contradiction)); (try rw [hc])))
    | ((with_reducible apply regW_opN); (focus (dsimp only [semF, ev_t, ev_c, getD_zero, getD_succ, bin_lss, bin_leq, bin_gtr, bin_geq, bin_eql, bin_neq, bin_add, bin_sub, bin_mul, bin_and, bin_shr20, bin_rem20, un_not, cond_true, cond_false, Nat.reduceAdd, Bool.not_true, Bool.not_false, scalar, Bool.and_self, if_true, if_false, Bool.false_eq_true, Option.map_some, AV.cells?, getCells, sidx_zero, sidx_succ, List.length_cons, List.length_nil, List.nil_append, List.cons_append, List.append_nil, List.drop, List.take, splice, fillA, set_zero, set_succ]; try exact rfl)))
    | ((with_reducible apply regW_callV); (focus (dsimp only [List.map, ev_t, ev_c, getD_zero, getD_succ]; try exact rfl)); (focus (repeat' first | exact reifyAll_nil | (apply reifyAll_vs) | (apply reifyAll_nils Cel.enc) | ((apply reifyAll_own); (focus (dsimp only [sidx_zero, sidx_succ]; try exact rfl)); (focus (with_reducible exact rfl))) | (apply reifyAll_val rfl))); (focus (exact c11a)); (focus (first | exact Flat.v _ | exact val_flat _)); (focus (dsimp only [set_zero, set_succ]; try exact rfl)))
    | ((with_reducible apply regW_callV); (focus (dsimp only [List.map, ev_t, ev_c, getD_zero, getD_succ]; try exact rfl)); (focus (repeat' first | exact reifyAll_nil | (apply reifyAll_vs) | (apply reifyAll_nils Cel.enc) | ((apply reifyAll_own); (focus (dsimp only [sidx_zero, sidx_succ]; try exact rfl)); (focus (with_reducible exact rfl))) | (apply reifyAll_val rfl))); (focus (exact c11b)); (focus (first | exact Flat.v _ | exact val_flat _)); (focus (dsimp only [set_zero, set_succ]; try exact rfl)))
    | ((with_reducible apply G_cond); (focus (dsimp only [ev_t, ev_c, getD_zero, getD_succ]; try exact rfl)); all_goals (intro hc; (try (with_reducible cases hc)); (try (with_reducible contradiction)))))
    exact ⟨_, rfl, .inr (.inr ⟨_, _, rfl, rfl⟩)⟩
  rw [hw] at c11b ⊢
  rw [Bool.and_self, if_pos rfl]
  (refine contract_g (fr := [.vs (a0.map Cel.enc), .vs (b0.map Cel.enc), .v undef, .v undef, .v undef, .v undef, .v undef, .v undef, .v undef, .v undef, .v undef, .v undef, .v undef, .v undef, .v undef, .v undef, .v undef, .v undef, .v undef, .v undef, .v undef, .v undef, .v undef, .v undef, .v undef, .v undef, .v undef, .v undef, .v undef, .v undef, .v undef, .v undef, .v undef, .v undef, .v undef, .v undef, .v undef, .v undef, .v undef, .v undef, .v undef, .v undef, .v undef, .v undef, .v undef, .v undef, .v undef, .v undef, .v undef, .v undef, .v undef, .v undef, .v undef, .v undef, .v undef, .v undef, .v undef, .v undef, .v undef, .v undef, .v undef, .v undef, .v undef, .v undef, .v undef, .v undef, .v undef, .v undef, .v undef, .v undef, .v undef, .v undef, .v undef, .v undef, .v undef, .v undef, .v undef, .v undef, .v undef, .v undef, .v undef, .v undef]) Try.func18 a18_ok rfl ?_; dsimp only [a18])
  (repeat' first
    | with_reducible refine G_seq ?_
    | with_reducible refine G_reg ?_
    | with_reducible refine regW_nil ?_
    | with_reducible refine Nx_code ?_
    | with_reducible refine Nx_blk ?_
    | with_reducible refine Ex_blk ?_
    | with_reducible refine Ex_code ?_
    | with_reducible refine Ex_inv ?_
    | with_reducible refine G_exit ?_
    | with_reducible refine G_block ?_
    | with_reducible refine G_ret ?_
    | with_reducible refine G_skip ?_
    | ((with_reducible refine G_draw mixed (by decide +kernel) ?_))
    | ((with_reducible apply regW_ia0); (focus ((try dsimp only [ev_t, ev_c, getD_zero, getD_succ]); first | done | exact rfl)); (focus (with_unfolding_all exact rfl)); (focus (dsimp only [set_zero, set_succ]; try exact rfl)))
    | ((with_reducible apply regW_tail); (focus ((try dsimp only [ev_t, ev_c, getD_zero, getD_succ]); first | done | exact rfl)); (focus (intro; (with_unfolding_all exact rfl))); (focus (dsimp only [set_zero, set_succ]; try exact rfl)))
    | ((with_reducible apply regW_iaM); (focus (dsimp only [ev_t, ev_c, getD_zero, getD_succ]; try exact rfl)); (focus (dsimp only [ev_t, ev_c, getD_zero, getD_succ]; try exact rfl)); (focus assumption); (focus (with_unfolding_all exact rfl)); (focus (dsimp only [set_zero, set_succ]; try exact rfl)))
    | ((with_reducible apply regW_lenM); (focus (dsimp only [ev_t, ev_c, getD_zero, getD_succ]; try exact rfl)); (focus (dsimp only [set_zero, set_succ]; try exact rfl)))
    | ((with_reducible apply regW_lenO); (focus ((try dsimp only [ev_t, ev_c, getD_zero, getD_succ]); first | done | exact rfl)); (focus (dsimp only [set_zero, set_succ]; try exact rfl)))
    | ((with_reducible apply regW_add); (focus (dsimp only [ev_t, ev_c, getD_zero, getD_succ]; try exact rfl)); (focus (dsimp only [ev_t, ev_c, getD_zero, getD_succ]; try exact rfl)); (focus (first | assumption | exact rfl)); (focus (dsimp only [set_zero, set_succ]; try exact rfl)))
    | ((with_reducible apply regW_sub); (focus (dsimp only [ev_t, ev_c, getD_zero, getD_succ]; try exact rfl)); (focus (dsimp only [ev_t, ev_c, getD_zero, getD_succ]; try exact rfl)); (focus (first | assumption | exact rfl)); (focus (dsimp only [set_zero, set_succ]; try exact rfl)))
    | ((with_reducible apply regW_ldE); (focus (dsimp only [ev_t, ev_c, getD_zero, getD_succ]; try exact rfl)); (focus (with_unfolding_all exact rfl)); (focus (dsimp only [set_zero, set_succ]; try exact rfl)))
    | ((with_reducible apply regW_ldB); (focus (dsimp only [ev_t, ev_c, getD_zero, getD_succ]; try exact rfl)); (focus (dsimp only [sidx_zero, sidx_succ]; try exact rfl)); (focus (with_unfolding_all exact rfl)); (focus (dsimp only [set_zero, set_succ]; try exact rfl)))
    | ((with_reducible apply regW_stB); (focus (dsimp only [ev_t, ev_c, getD_zero, getD_succ]; try exact rfl)); (focus (dsimp only [ev_t, ev_c, getD_zero, getD_succ]; try exact rfl)); (focus (dsimp only [sidx_zero, sidx_succ]; try exact rfl)); (focus (with_unfolding_all exact rfl)); (focus (with_unfolding_all exact rfl)); (focus (with_unfolding_all exact rfl)); (focus (dsimp only [set_zero, set_succ]; try exact rfl)))
    | ((with_reducible apply regW_eqT); (focus (dsimp only [ev_t, ev_c, getD_zero, getD_succ]; try exact rfl)); (focus (dsimp only [ev_t, ev_c, getD_zero, getD_succ]; try exact rfl)); (focus (dsimp only [vals?, Cel.enc, Val.enc, Option.map_some]; try exact rfl)); (focus (dsimp only [vals?, Cel.enc, Val.enc, Option.map_some]; try exact rfl)); (focus (first | exact eqVz _ | exact eqzV _ | exact eqV _ _ | exact eqC _ _)); (focus (dsimp only [set_zero, set_succ]; try exact rfl)))
    | ((with_reducible apply regW_neT); (focus (dsimp only [ev_t, ev_c, getD_zero, getD_succ]; try exact rfl)); (focus (dsimp only [ev_t, ev_c, getD_zero, getD_succ]; try exact rfl)); (focus (dsimp only [vals?, Cel.enc, Val.enc, Option.map_some]; try exact rfl)); (focus (dsimp only [vals?, Cel.enc, Val.enc, Option.map_some]; try exact rfl)); (focus (first | exact eqVz _ | exact eqzV _ | exact eqV _ _ | exact eqC _ _)); (focus (dsimp only [set_zero, set_succ]; try exact rfl)))
    | ((with_reducible apply regW_bs1); (focus (first | exact congrArg AV.agg hfold | (dsimp only [ev_t, ev_c, getD_zero, getD_succ]; first | done | exact rfl))); (focus (with_unfolding_all exact rfl)); (focus (with_unfolding_all exact rfl)); (focus (with_unfolding_all exact rfl)); (focus (dsimp only [set_zero, set_succ, List.length_cons, List.length_nil, Nat.reduceAdd]; try exact rfl)); (focus (dsimp only [List.cons_append, List.nil_append]; try exact rfl)))
    | ((with_reducible apply regW_app); (focus (dsimp only [ev_t, ev_c, getD_zero, getD_succ]; try exact rfl)); (focus (dsimp only [sidx_zero, sidx_succ]; try exact rfl)); (focus (with_reducible exact rfl)); (focus (dsimp only [ev_t, ev_c, getD_zero, getD_succ]; try exact rfl)); (focus (dsimp only [sidx_zero, sidx_succ]; try exact rfl)); (focus (with_unfolding_all exact rfl)); (focus assumption); (focus decide); (focus (dsimp only [set_zero, set_succ, List.length_cons, List.length_nil, Nat.reduceAdd]; try exact rfl)); (focus (dsimp only [set_zero, set_succ, List.cons_append, List.nil_append]; try exact rfl)))
    | ((with_reducible apply regW_appE); (focus ((try dsimp only [ev_t, ev_c, getD_zero, getD_succ]); first | done | exact rfl)); (focus ((try dsimp only [ev_t, ev_c, getD_zero, getD_succ]); first | done | exact rfl)); (focus (dsimp only [set_zero, set_succ]; try exact rfl)))
    | ((with_reducible apply regW_appL); (focus ((try dsimp only [ev_t, ev_c, getD_zero, getD_succ]); first | done | exact rfl)); (focus (dsimp only [sidx_zero, sidx_succ]; try exact rfl)); (focus (with_reducible exact rfl)); (focus ((try dsimp only [ev_t, ev_c, getD_zero, getD_succ]); first | done | exact rfl)); (focus assumption); (focus (intros; (with_unfolding_all exact rfl))); (focus assumption); (focus decide); (focus (dsimp only [set_zero, set_succ, List.length_cons, List.length_nil, Nat.reduceAdd]; try exact rfl)); (focus (dsimp only [set_zero, set_succ, List.cons_append, List.nil_append]; try exact rfl)))
    | ((with_reducible apply regW_opS); (focus (dsimp only [semF, ev_t, ev_c, getD_zero, getD_succ, bin_lss, bin_leq, bin_gtr, bin_geq, bin_eql, bin_neq, bin_add, bin_sub, bin_mul, bin_and, bin_shr20, bin_rem20, un_not, cond_true, cond_false, Nat.reduceAdd, Bool.not_true, Bool.not_false, scalar, Bool.and_self, if_true, if_false, Bool.false_eq_true, Option.map_some, AV.cells?, getCells, sidx_zero, sidx_succ, List.length_cons, List.length_nil, List.nil_append, List.cons_append, List.append_nil, List.drop, List.take, splice, fillA, Cel.enc, Val.enc]; try exact rfl)); (focus (dsimp only [set_zero, set_succ]; try exact rfl)))
    | ((with_reducible apply regW_op); (focus (dsimp only [semF, ev_t, ev_c, getD_zero, getD_succ, bin_lss, bin_leq, bin_gtr, bin_geq, bin_eql, bin_neq, bin_add, bin_sub, bin_mul, bin_and, bin_shr20, bin_rem20, un_not, cond_true, cond_false, Nat.reduceAdd, Bool.not_true, Bool.not_false, scalar, Bool.and_self, if_true, if_false, Bool.false_eq_true, Option.map_some, AV.cells?, getCells, sidx_zero, sidx_succ, List.length_cons, List.length_nil, List.nil_append, List.cons_append, List.append_nil, List.drop, List.take, splice, fillA]; try exact rfl)); (focus (dsimp only [set_zero, set_succ]; try exact rfl)))
    | ((with_reducible apply regW_shut'); (focus (dsimp only [getD_zero, getD_succ]; try (with_reducible exact rfl); done)); (focus (dsimp only [set_zero, set_succ]; try exact rfl)))
    | ((with_reducible apply regW_splitT); (focus (dsimp only [getD_zero, getD_succ]; try exact rfl)); all_goals (intro hc; (try dsimp only [set_zero, set_succ]); (try (with_reducible cases hc)); (try (with_reducible contradiction)); (try rw [hc])))
    | ((with_reducible apply regW_splitF); (focus (dsimp only [getD_zero, getD_succ]; try exact rfl)); all_goals (intro hc; (try dsimp only [set_zero, set_succ]); (try (with_reducible cases hc)); (try (with_reducible contradiction)); (try rw [hc])))
    | ((with_reducible apply regW_opN); (focus (dsimp only [semF, ev_t, ev_c, getD_zero, getD_succ, bin_lss, bin_leq, bin_gtr, bin_geq, bin_eql, bin_neq, bin_add, bin_sub, bin_mul, bin_and, bin_shr20, bin_rem20, un_not, cond_true, cond_false, Nat.reduceAdd, Bool.not_true, Bool.not_false, scalar, Bool.and_self, if_true, if_false, Bool.false_eq_true, Option.map_some, AV.cells?, getCells, sidx_zero, sidx_succ, List.length_cons, List.length_nil, List.nil_append, List.cons_append, List.append_nil, List.drop, List.take, splice, fillA, set_zero, set_succ]; try exact rfl)))
    | ((with_reducible apply regW_callV); (focus (dsimp only [List.map, ev_t, ev_c, getD_zero, getD_succ]; try exact rfl)); (focus (repeat' first | exact reifyAll_nil | (apply reifyAll_vs) | (apply reifyAll_nils Cel.enc) | ((apply reifyAll_own); (focus (dsimp only [sidx_zero, sidx_succ]; try exact rfl)); (focus (with_reducible exact rfl))) | (apply reifyAll_val rfl))); (focus (exact c11a)); (focus (first | exact Flat.v _ | exact val_flat _)); (focus (dsimp only [set_zero, set_succ]; try exact rfl)))
    | ((with_reducible apply regW_callV); (focus (dsimp only [List.map, ev_t, ev_c, getD_zero, getD_succ]; try exact rfl)); (focus (repeat' first | exact reifyAll_nil | (apply reifyAll_vs) | (apply reifyAll_nils Cel.enc) | ((apply reifyAll_own); (focus (dsimp only [sidx_zero, sidx_succ]; try exact rfl)); (focus (with_reducible exact rfl))) | (apply reifyAll_val rfl))); (focus (exact c11b)); (focus (first | exact Flat.v _ | exact val_flat _)); (focus (dsimp only [set_zero, set_succ]; try exact rfl)))
    | ((with_reducible apply G_cond); (focus (dsimp only [ev_t, ev_c, getD_zero, getD_succ]; try exact rfl)); all_goals (intro hc; (try (with_reducible cases hc)); (try (with_reducible contradiction)))))
  refine G_nil 5 31 6 rfl rfl ?_
  refine G_loopF (fun g : List Cel × List Cel × List Cel => ⟨[.vs (g.1.map Cel.enc), .vs (g.2.1.map Cel.enc), .und, .und, .und, .own 0 0 g.2.2.length, .und, .und, .und, .und, .und, .und, .und, .und, .und, .und, .und, .und, .und, .und, .und, .und, .und, .und, .und, .und, .und, .und, .und, .und, .und, .und, .und, .und, .und, .und, .und, .und, .und, .und, .und, .und, .und, .und, .und, .und, .und, .und, .und, .und, .und, .und, .und, .und, .und, .und, .und, .und, .und, .und, .und, .und, .und, .und, .und, .und, .und, .und, .und, .und, .und, .und, .und, .und, .und, .und, .und, .und, .und, .und, .und, .und], [.row true 31 6 (g.2.2.map Cel.enc)]⟩) (fun g => g.2.2.length + g.1.length + g.2.1.length ≤ a0.length + b0.length ∧ diff a0 b0 = g.2.2 ++ diff g.1 g.2.1) (fun g => g.1.length + g.2.1.length) (a0, b0, []) [0] ?_ ⟨by simp, rfl⟩ ?_
  · (refine ⟨by decide, rfl, ?_, ?_⟩ <;> repeat' first
      | exact True.intro
      | ((refine And.intro (Or.inl ?_) ?_); (focus (with_reducible exact rfl)))
      | ((refine And.intro (Or.inr (And.intro ?_ (And.intro rfl rfl))) ?_); (focus (dsimp only [AV.ren, getD_zero, getD_succ]; try (with_reducible exact rfl); done)))
      | (refine And.intro (Or.inr (And.intro ?_ (And.intro rfl rfl))) ?_)
      | (with_reducible exact weakO_row rfl)
      | (refine And.intro (Exists.intro _ (And.intro rfl ?_)) ?_)
      | (refine Exists.intro _ (And.intro rfl ?_))
      | (with_reducible exact rfl))
    all_goals rfl
  · intro ⟨a, b, acc⟩ ⟨ha, hI⟩
    dsimp only at ha hI ⊢
    have hroom : (acc.length + 1) * 56 ≤ maxRow := by unfold maxRow; omega
    have he0 : ¬ (decide ((0 : Int) < (([] : List Cel).length : Int)) = true) := by simp
    have he1 : ¬ (((([] : List Cel).length : Int) == 0) = false) := by simp
    cases a with
    | nil =>
      cases b with
      | nil =>
        rw [diff_nil_l, List.append_nil] at hI
        rw [hI]
        (repeat' first
    | with_reducible refine G_seq ?_
    | with_reducible refine G_reg ?_
    | with_reducible refine regW_nil ?_
    | with_reducible refine Nx_code ?_
    | with_reducible refine Nx_blk ?_
    | with_reducible refine Ex_blk ?_
    | with_reducible refine Ex_code ?_
    | with_reducible refine Ex_inv ?_
    | with_reducible refine G_exit ?_
    | with_reducible refine G_block ?_
    | with_reducible refine G_ret ?_
    | with_reducible refine G_skip ?_
    | ((with_reducible refine G_draw mixed (by decide +kernel) ?_))
    | ((with_reducible apply regW_ia0); (focus ((try dsimp only [ev_t, ev_c, getD_zero, getD_succ]); first | done | exact rfl)); (focus (with_unfolding_all exact rfl)); (focus (dsimp only [set_zero, set_succ]; try exact rfl)))
    | ((with_reducible apply regW_tail); (focus ((try dsimp only [ev_t, ev_c, getD_zero, getD_succ]); first | done | exact rfl)); (focus (intro; (with_unfolding_all exact rfl))); (focus (dsimp only [set_zero, set_succ]; try exact rfl)))
    | ((with_reducible apply regW_iaM); (focus (dsimp only [ev_t, ev_c, getD_zero, getD_succ]; try exact rfl)); (focus (dsimp only [ev_t, ev_c, getD_zero, getD_succ]; try exact rfl)); (focus assumption); (focus (with_unfolding_all exact rfl)); (focus (dsimp only [set_zero, set_succ]; try exact rfl)))
    | ((with_reducible apply regW_lenM); (focus (dsimp only [ev_t, ev_c, getD_zero, getD_succ]; try exact rfl)); (focus (dsimp only [set_zero, set_succ]; try exact rfl)))
    | ((with_reducible apply regW_lenO); (focus ((try dsimp only [ev_t, ev_c, getD_zero, getD_succ]); first | done | exact rfl)); (focus (dsimp only [set_zero, set_succ]; try exact rfl)))
    | ((with_reducible apply regW_add); (focus (dsimp only [ev_t, ev_c, getD_zero, getD_succ]; try exact rfl)); (focus (dsimp only [ev_t, ev_c, getD_zero, getD_succ]; try exact rfl)); (focus (first | assumption | exact rfl)); (focus (dsimp only [set_zero, set_succ]; try exact rfl)))
    | ((with_reducible apply regW_sub); (focus (dsimp only [ev_t, ev_c, getD_zero, getD_succ]; try exact rfl)); (focus (dsimp only [ev_t, ev_c, getD_zero, getD_succ]; try exact rfl)); (focus (first | assumption | exact rfl)); (focus (dsimp only [set_zero, set_succ]; try exact rfl)))
    | ((with_reducible apply regW_ldE); (focus (dsimp only [ev_t, ev_c, getD_zero, getD_succ]; try exact rfl)); (focus (with_unfolding_all exact rfl)); (focus (dsimp only [set_zero, set_succ]; try exact rfl)))
    | ((with_reducible apply regW_ldB); (focus (dsimp only [ev_t, ev_c, getD_zero, getD_succ]; try exact rfl)); (focus (dsimp only [sidx_zero, sidx_succ]; try exact rfl)); (focus (with_unfolding_all exact rfl)); (focus (dsimp only [set_zero, set_succ]; try exact rfl)))
    | ((with_reducible apply regW_stB); (focus (dsimp only [ev_t, ev_c, getD_zero, getD_succ]; try exact rfl)); (focus (dsimp only [ev_t, ev_c, getD_zero, getD_succ]; try exact rfl)); (focus (dsimp only [sidx_zero, sidx_succ]; try exact rfl)); (focus (with_unfolding_all exact rfl)); (focus (with_unfolding_all exact rfl)); (focus (with_unfolding_all exact rfl)); (focus (dsimp only [set_zero, set_succ]; try exact rfl)))
    | ((with_reducible apply regW_eqT); (focus (dsimp only [ev_t, ev_c, getD_zero, getD_succ]; try exact rfl)); (focus (dsimp only [ev_t, ev_c, getD_zero, getD_succ]; try exact rfl)); (focus (dsimp only [vals?, Cel.enc, Val.enc, Option.map_some]; try exact rfl)); (focus (dsimp only [vals?, Cel.enc, Val.enc, Option.map_some]; try exact rfl)); (focus (first | exact eqVz _ | exact eqzV _ | exact eqV _ _ | exact eqC _ _)); (focus (dsimp only [set_zero, set_succ]; try exact rfl)))
    | ((with_reducible apply regW_neT); (focus (dsimp only [ev_t, ev_c, getD_zero, getD_succ]; try exact rfl)); (focus (dsimp only [ev_t, ev_c, getD_zero, getD_succ]; try exact rfl)); (focus (dsimp only [vals?, Cel.enc, Val.enc, Option.map_some]; try exact rfl)); (focus (dsimp only [vals?, Cel.enc, Val.enc, Option.map_some]; try exact rfl)); (focus (first | exact eqVz _ | exact eqzV _ | exact eqV _ _ | exact eqC _ _)); (focus (dsimp only [set_zero, set_succ]; try exact rfl)))
    | ((with_reducible apply regW_bs1); (focus (first | exact congrArg AV.agg hfold | (dsimp only [ev_t, ev_c, getD_zero, getD_succ]; first | done | exact rfl))); (focus (with_unfolding_all exact rfl)); (focus (with_unfolding_all exact rfl)); (focus (with_unfolding_all exact rfl)); (focus (dsimp only [set_zero, set_succ, List.length_cons, List.length_nil, Nat.reduceAdd]; try exact rfl)); (focus (dsimp only [List.cons_append, List.nil_append]; try exact rfl)))
    | ((with_reducible apply regW_app); (focus (dsimp only [ev_t, ev_c, getD_zero, getD_succ]; try exact rfl)); (focus (dsimp only [sidx_zero, sidx_succ]; try exact rfl)); (focus (with_reducible exact rfl)); (focus (dsimp only [ev_t, ev_c, getD_zero, getD_succ]; try exact rfl)); (focus (dsimp only [sidx_zero, sidx_succ]; try exact rfl)); (focus (with_unfolding_all exact rfl)); (focus assumption); (focus decide); (focus (dsimp only [set_zero, set_succ, List.length_cons, List.length_nil, Nat.reduceAdd]; try exact rfl)); (focus (dsimp only [set_zero, set_succ, List.cons_append, List.nil_append]; try exact rfl)))
    | ((with_reducible apply regW_appE); (focus ((try dsimp only [ev_t, ev_c, getD_zero, getD_succ]); first | done | exact rfl)); (focus ((try dsimp only [ev_t, ev_c, getD_zero, getD_succ]); first | done | exact rfl)); (focus (dsimp only [set_zero, set_succ]; try exact rfl)))
    | ((with_reducible apply regW_appL); (focus ((try dsimp only [ev_t, ev_c, getD_zero, getD_succ]); first | done | exact rfl)); (focus (dsimp only [sidx_zero, sidx_succ]; try exact rfl)); (focus (with_reducible exact rfl)); (focus ((try dsimp only [ev_t, ev_c, getD_zero, getD_succ]); first | done | exact rfl)); (focus assumption); (focus (intros; (with_unfolding_all exact rfl))); (focus assumption); (focus decide); (focus (dsimp only [set_zero, set_succ, List.length_cons, List.length_nil, Nat.reduceAdd]; try exact rfl)); (focus (dsimp only [set_zero, set_succ, List.cons_append, List.nil_append]; try exact rfl)))
    | ((with_reducible apply regW_opS); (focus (dsimp only [semF, ev_t, ev_c, getD_zero, getD_succ, bin_lss, bin_leq, bin_gtr, bin_geq, bin_eql, bin_neq, bin_add, bin_sub, bin_mul, bin_and, bin_shr20, bin_rem20, un_not, cond_true, cond_false, Nat.reduceAdd, Bool.not_true, Bool.not_false, scalar, Bool.and_self, if_true, if_false, Bool.false_eq_true, Option.map_some, AV.cells?, getCells, sidx_zero, sidx_succ, List.length_cons, List.length_nil, List.nil_append, List.cons_append, List.append_nil, List.drop, List.take, splice, fillA, Cel.enc, Val.enc]; try exact rfl)); (focus (dsimp only [set_zero, set_succ]; try exact rfl)))
    | ((with_reducible apply regW_op); (focus (dsimp only [semF, ev_t, ev_c, getD_zero, getD_succ, bin_lss, bin_leq, bin_gtr, bin_geq, bin_eql, bin_neq, bin_add, bin_sub, bin_mul, bin_and, bin_shr20, bin_rem20, un_not, cond_true, cond_false, Nat.reduceAdd, Bool.not_true, Bool.not_false, scalar, Bool.and_self, if_true, if_false, Bool.false_eq_true, Option.map_some, AV.cells?, getCells, sidx_zero, sidx_succ, List.length_cons, List.length_nil, List.nil_append, List.cons_append, List.append_nil, List.drop, List.take, splice, fillA]; try exact rfl)); (focus (dsimp only [set_zero, set_succ]; try exact rfl)))
    | ((with_reducible apply regW_shut'); (focus (dsimp only [getD_zero, getD_succ]; try (with_reducible exact rfl); done)); (focus (dsimp only [set_zero, set_succ]; try exact rfl)))
    | ((with_reducible apply regW_splitT); (focus (dsimp only [getD_zero, getD_succ]; try exact rfl)); all_goals (intro hc; (try dsimp only [set_zero, set_succ]); (try (with_reducible cases hc)); (try (with_reducible contradiction)); (try rw [hc])))
    | ((with_reducible apply regW_splitF); (focus (dsimp only [getD_zero, getD_succ]; try exact rfl)); all_goals (intro hc; (try dsimp only [set_zero, set_succ]); (try (with_reducible cases hc)); (try (with_reducible contradiction)); (try rw [hc])))
    | ((with_reducible apply regW_opN); (focus (dsimp only [semF, ev_t, ev_c, getD_zero, getD_succ, bin_lss, bin_leq, bin_gtr, bin_geq, bin_eql, bin_neq, bin_add, bin_sub, bin_mul, bin_and, bin_shr20, bin_rem20, un_not, cond_true, cond_false, Nat.reduceAdd, Bool.not_true, Bool.not_false, scalar, Bool.and_self, if_true, if_false, Bool.false_eq_true, Option.map_some, AV.cells?, getCells, sidx_zero, sidx_succ, List.length_cons, List.length_nil, List.nil_append, List.cons_append, List.append_nil, List.drop, List.take, splice, fillA, set_zero, set_succ]; try exact rfl)))
    | ((with_reducible apply G_cond); (focus (dsimp only [ev_t, ev_c, getD_zero, getD_succ]; try exact rfl)); all_goals (intro hc; (try (with_reducible cases hc)); (try (with_reducible contradiction)))))
        exact ⟨_, rfl, .inr (.inl ⟨0, 31, 6, acc.map Cel.enc, by simp, rfl, rfl⟩)⟩
      | cons y b =>
        have hb0 : ¬ (decide ((0 : Int) < ((b.length + 1 : Nat) : Int)) = false) := by rw [decide_eq_false_iff_not]; omega
        have hb1 : ¬ ((((b.length + 1 : Nat) : Int) == 0) = true) := by simp; omega
        rw [diff_nil_l] at hI
        (repeat' first
    | with_reducible refine G_seq ?_
    | with_reducible refine G_reg ?_
    | with_reducible refine regW_nil ?_
    | with_reducible refine Nx_code ?_
    | with_reducible refine Nx_blk ?_
    | with_reducible refine Ex_blk ?_
    | with_reducible refine Ex_code ?_
    | with_reducible refine Ex_inv ?_
    | with_reducible refine G_exit ?_
    | with_reducible refine G_block ?_
    | with_reducible refine G_ret ?_
    | with_reducible refine G_skip ?_
    | ((with_reducible refine G_draw mixed (by decide +kernel) ?_))
    | ((with_reducible apply regW_ia0); (focus ((try dsimp only [ev_t, ev_c, getD_zero, getD_succ]); first | done | exact rfl)); (focus (with_unfolding_all exact rfl)); (focus (dsimp only [set_zero, set_succ]; try exact rfl)))
    | ((with_reducible apply regW_tail); (focus ((try dsimp only [ev_t, ev_c, getD_zero, getD_succ]); first | done | exact rfl)); (focus (intro; (with_unfolding_all exact rfl))); (focus (dsimp only [set_zero, set_succ]; try exact rfl)))
    | ((with_reducible apply regW_iaM); (focus (dsimp only [ev_t, ev_c, getD_zero, getD_succ]; try exact rfl)); (focus (dsimp only [ev_t, ev_c, getD_zero, getD_succ]; try exact rfl)); (focus assumption); (focus (with_unfolding_all exact rfl)); (focus (dsimp only [set_zero, set_succ]; try exact rfl)))
    | ((with_reducible apply regW_lenM); (focus (dsimp only [ev_t, ev_c, getD_zero, getD_succ]; try exact rfl)); (focus (dsimp only [set_zero, set_succ]; try exact rfl)))
    | ((with_reducible apply regW_lenO); (focus ((try dsimp only [ev_t, ev_c, getD_zero, getD_succ]); first | done | exact rfl)); (focus (dsimp only [set_zero, set_succ]; try exact rfl)))
    | ((with_reducible apply regW_add); (focus (dsimp only [ev_t, ev_c, getD_zero, getD_succ]; try exact rfl)); (focus (dsimp only [ev_t, ev_c, getD_zero, getD_succ]; try exact rfl)); (focus (first | assumption | exact rfl)); (focus (dsimp only [set_zero, set_succ]; try exact rfl)))
    | ((with_reducible apply regW_sub); (focus (dsimp only [ev_t, ev_c, getD_zero, getD_succ]; try exact rfl)); (focus (dsimp only [ev_t, ev_c, getD_zero, getD_succ]; try exact rfl)); (focus (first | assumption | exact rfl)); (focus (dsimp only [set_zero, set_succ]; try exact rfl)))
    | ((with_reducible apply regW_ldE); (focus (dsimp only [ev_t, ev_c, getD_zero, getD_succ]; try exact rfl)); (focus (with_unfolding_all exact rfl)); (focus (dsimp only [set_zero, set_succ]; try exact rfl)))
    | ((with_reducible apply regW_ldB); (focus (dsimp only [ev_t, ev_c, getD_zero, getD_succ]; try exact rfl)); (focus (dsimp only [sidx_zero, sidx_succ]; try exact rfl)); (focus (with_unfolding_all exact rfl)); (focus (dsimp only [set_zero, set_succ]; try exact rfl)))
    | ((with_reducible apply regW_stB); (focus (dsimp only [ev_t, ev_c, getD_zero, getD_succ]; try exact rfl)); (focus (dsimp only [ev_t, ev_c, getD_zero, getD_succ]; try exact rfl)); (focus (dsimp only [sidx_zero, sidx_succ]; try exact rfl)); (focus (with_unfolding_all exact rfl)); (focus (with_unfolding_all exact rfl)); (focus (with_unfolding_all exact rfl)); (focus (dsimp only [set_zero, set_succ]; try exact rfl)))
    | ((with_reducible apply regW_eqT); (focus (dsimp only [ev_t, ev_c, getD_zero, getD_succ]; try exact rfl)); (focus (dsimp only [ev_t, ev_c, getD_zero, getD_succ]; try exact rfl)); (focus (dsimp only [vals?, Cel.enc, Val.enc, Option.map_some]; try exact rfl)); (focus (dsimp only [vals?, Cel.enc, Val.enc, Option.map_some]; try exact rfl)); (focus (first | exact eqVz _ | exact eqzV _ | exact eqV _ _ | exact eqC _ _)); (focus (dsimp only [set_zero, set_succ]; try exact rfl)))
    | ((with_reducible apply regW_neT); (focus (dsimp only [ev_t, ev_c, getD_zero, getD_succ]; try exact rfl)); (focus (dsimp only [ev_t, ev_c, getD_zero, getD_succ]; try exact rfl)); (focus (dsimp only [vals?, Cel.enc, Val.enc, Option.map_some]; try exact rfl)); (focus (dsimp only [vals?, Cel.enc, Val.enc, Option.map_some]; try exact rfl)); (focus (first | exact eqVz _ | exact eqzV _ | exact eqV _ _ | exact eqC _ _)); (focus (dsimp only [set_zero, set_succ]; try exact rfl)))
    | ((with_reducible apply regW_bs1); (focus (first | exact congrArg AV.agg hfold | (dsimp only [ev_t, ev_c, getD_zero, getD_succ]; first | done | exact rfl))); (focus (with_unfolding_all exact rfl)); (focus (with_unfolding_all exact rfl)); (focus (with_unfolding_all exact rfl)); (focus (dsimp only [set_zero, set_succ, List.length_cons, List.length_nil, Nat.reduceAdd]; try exact rfl)); (focus (dsimp only [List.cons_append, List.nil_append]; try exact rfl)))
    | ((with_reducible apply regW_app); (focus (dsimp only [ev_t, ev_c, getD_zero, getD_succ]; try exact rfl)); (focus (dsimp only [sidx_zero, sidx_succ]; try exact rfl)); (focus (with_reducible exact rfl)); (focus (dsimp only [ev_t, ev_c, getD_zero, getD_succ]; try exact rfl)); (focus (dsimp only [sidx_zero, sidx_succ]; try exact rfl)); (focus (with_unfolding_all exact rfl)); (focus assumption); (focus decide); (focus (dsimp only [set_zero, set_succ, List.length_cons, List.length_nil, Nat.reduceAdd]; try exact rfl)); (focus (dsimp only [set_zero, set_succ, List.cons_append, List.nil_append]; try exact rfl)))
    | ((with_reducible apply regW_appE); (focus ((try dsimp only [ev_t, ev_c, getD_zero, getD_succ]); first | done | exact rfl)); (focus ((try dsimp only [ev_t, ev_c, getD_zero, getD_succ]); first | done | exact rfl)); (focus (dsimp only [set_zero, set_succ]; try exact rfl)))
    | ((with_reducible apply regW_appL); (focus ((try dsimp only [ev_t, ev_c, getD_zero, getD_succ]); first | done | exact rfl)); (focus (dsimp only [sidx_zero, sidx_succ]; try exact rfl)); (focus (with_reducible exact rfl)); (focus ((try dsimp only [ev_t, ev_c, getD_zero, getD_succ]); first | done | exact rfl)); (focus assumption); (focus (intros; (with_unfolding_all exact rfl))); (focus assumption); (focus decide); (focus (dsimp only [set_zero, set_succ, List.length_cons, List.length_nil, Nat.reduceAdd]; try exact rfl)); (focus (dsimp only [set_zero, set_succ, List.cons_append, List.nil_append]; try exact rfl)))
    | ((with_reducible apply regW_opS); (focus (dsimp only [semF, ev_t, ev_c, getD_zero, getD_succ, bin_lss, bin_leq, bin_gtr, bin_geq, bin_eql, bin_neq, bin_add, bin_sub, bin_mul, bin_and, bin_shr20, bin_rem20, un_not, cond_true, cond_false, Nat.reduceAdd, Bool.not_true, Bool.not_false, scalar, Bool.and_self, if_true, if_false, Bool.false_eq_true, Option.map_some, AV.cells?, getCells, sidx_zero, sidx_succ, List.length_cons, List.length_nil, List.nil_append, List.cons_append, List.append_nil, List.drop, List.take, splice, fillA, Cel.enc, Val.enc]; try exact rfl)); (focus (dsimp only [set_zero, set_succ]; try exact rfl)))
    | ((with_reducible apply regW_op); (focus (dsimp only [semF, ev_t, ev_c, getD_zero, getD_succ, bin_lss, bin_leq, bin_gtr, bin_geq, bin_eql, bin_neq, bin_add, bin_sub, bin_mul, bin_and, bin_shr20, bin_rem20, un_not, cond_true, cond_false, Nat.reduceAdd, Bool.not_true, Bool.not_false, scalar, Bool.and_self, if_true, if_false, Bool.false_eq_true, Option.map_some, AV.cells?, getCells, sidx_zero, sidx_succ, List.length_cons, List.length_nil, List.nil_append, List.cons_append, List.append_nil, List.drop, List.take, splice, fillA]; try exact rfl)); (focus (dsimp only [set_zero, set_succ]; try exact rfl)))
    | ((with_reducible apply regW_shut'); (focus (dsimp only [getD_zero, getD_succ]; try (with_reducible exact rfl); done)); (focus (dsimp only [set_zero, set_succ]; try exact rfl)))
    | ((with_reducible apply regW_splitT); (focus (dsimp only [getD_zero, getD_succ]; try exact rfl)); all_goals (intro hc; (try dsimp only [set_zero, set_succ]); (try (with_reducible cases hc)); (try (with_reducible contradiction)); (try rw [hc])))
    | ((with_reducible apply regW_splitF); (focus (dsimp only [getD_zero, getD_succ]; try exact rfl)); all_goals (intro hc; (try dsimp only [set_zero, set_succ]); (try (with_reducible cases hc)); (try (with_reducible contradiction)); (try rw [hc])))
    | ((with_reducible apply regW_opN); (focus (dsimp only [semF, ev_t, ev_c, getD_zero, getD_succ, bin_lss, bin_leq, bin_gtr, bin_geq, bin_eql, bin_neq, bin_add, bin_sub, bin_mul, bin_and, bin_shr20, bin_rem20, un_not, cond_true, cond_false, Nat.reduceAdd, Bool.not_true, Bool.not_false, scalar, Bool.and_self, if_true, if_false, Bool.false_eq_true, Option.map_some, AV.cells?, getCells, sidx_zero, sidx_succ, List.length_cons, List.length_nil, List.nil_append, List.cons_append, List.append_nil, List.drop, List.take, splice, fillA, set_zero, set_succ]; try exact rfl)))
    | ((with_reducible apply G_cond); (focus (dsimp only [ev_t, ev_c, getD_zero, getD_succ]; try exact rfl)); all_goals (intro hc; (try (with_reducible cases hc)); (try (with_reducible contradiction)))))
        refine Nx_inv ⟨([], b, acc ++ [y]), [2], ?_, ⟨(by simp at ha ⊢; omega), ?_⟩, (by simp)⟩
        · (refine ⟨by decide, rfl, ?_, ?_⟩ <;> repeat' first
      | exact True.intro
      | ((refine And.intro (Or.inl ?_) ?_); (focus (with_reducible exact rfl)))
      | ((refine And.intro (Or.inr (And.intro ?_ (And.intro rfl rfl))) ?_); (focus (dsimp only [AV.ren, getD_zero, getD_succ]; try (with_reducible exact rfl); done)))
      | (refine And.intro (Or.inr (And.intro ?_ (And.intro rfl rfl))) ?_)
      | (with_reducible exact weakO_row rfl)
      | (refine And.intro (Exists.intro _ (And.intro rfl ?_)) ?_)
      | (refine Exists.intro _ (And.intro rfl ?_))
      | (with_reducible exact rfl))
        · rw [hI, diff_nil_l]; simp
    | cons x a =>
      have ha0 : ¬ (decide ((0 : Int) < ((a.length + 1 : Nat) : Int)) = false) := by rw [decide_eq_false_iff_not]; omega
      have ha1 : ¬ ((((a.length + 1 : Nat) : Int) == 0) = true) := by simp; omega
      have hfold : [.v (.int .i64 x.id), .v (.int .i64 x.field), .v (.int .i64 0), .v (.bool false), .v (.string ⟨#[]⟩), .v (.int .i64 0)] = Cel.enc ⟨x.id, x.field, Val.zero⟩ := rfl
      cases b with
      | nil =>
        rw [diff_nil_r] at hI
        (repeat' first
    | with_reducible refine G_seq ?_
    | with_reducible refine G_reg ?_
    | with_reducible refine regW_nil ?_
    | with_reducible refine Nx_code ?_
    | with_reducible refine Nx_blk ?_
    | with_reducible refine Ex_blk ?_
    | with_reducible refine Ex_code ?_
    | with_reducible refine Ex_inv ?_
    | with_reducible refine G_exit ?_
    | with_reducible refine G_block ?_
    | with_reducible refine G_ret ?_
    | with_reducible refine G_skip ?_
    | ((with_reducible refine G_draw mixed (by decide +kernel) ?_))
    | ((with_reducible apply regW_ia0); (focus ((try dsimp only [ev_t, ev_c, getD_zero, getD_succ]); first | done | exact rfl)); (focus (with_unfolding_all exact rfl)); (focus (dsimp only [set_zero, set_succ]; try exact rfl)))
    | ((with_reducible apply regW_tail); (focus ((try dsimp only [ev_t, ev_c, getD_zero, getD_succ]); first | done | exact rfl)); (focus (intro; (with_unfolding_all exact rfl))); (focus (dsimp only [set_zero, set_succ]; try exact rfl)))
    | ((with_reducible apply regW_iaM); (focus (dsimp only [ev_t, ev_c, getD_zero, getD_succ]; try exact rfl)); (focus (dsimp only [ev_t, ev_c, getD_zero, getD_succ]; try exact rfl)); (focus assumption); (focus (with_unfolding_all exact rfl)); (focus (dsimp only [set_zero, set_succ]; try exact rfl)))
    | ((with_reducible apply regW_lenM); (focus (dsimp only [ev_t, ev_c, getD_zero, getD_succ]; try exact rfl)); (focus (dsimp only [set_zero, set_succ]; try exact rfl)))
    | ((with_reducible apply regW_lenO); (focus ((try dsimp only [ev_t, ev_c, getD_zero, getD_succ]); first | done | exact rfl)); (focus (dsimp only [set_zero, set_succ]; try exact rfl)))
    | ((with_reducible apply regW_add); (focus (dsimp only [ev_t, ev_c, getD_zero, getD_succ]; try exact rfl)); (focus (dsimp only [ev_t, ev_c, getD_zero, getD_succ]; try exact rfl)); (focus (first | assumption | exact rfl)); (focus (dsimp only [set_zero, set_succ]; try exact rfl)))
    | ((with_reducible apply regW_sub); (focus (dsimp only [ev_t, ev_c, getD_zero, getD_succ]; try exact rfl)); (focus (dsimp only [ev_t, ev_c, getD_zero, getD_succ]; try exact rfl)); (focus (first | assumption | exact rfl)); (focus (dsimp only [set_zero, set_succ]; try exact rfl)))
    | ((with_reducible apply regW_ldE); (focus (dsimp only [ev_t, ev_c, getD_zero, getD_succ]; try exact rfl)); (focus (with_unfolding_all exact rfl)); (focus (dsimp only [set_zero, set_succ]; try exact rfl)))
    | ((with_reducible apply regW_ldB); (focus (dsimp only [ev_t, ev_c, getD_zero, getD_succ]; try exact rfl)); (focus (dsimp only [sidx_zero, sidx_succ]; try exact rfl)); (focus (with_unfolding_all exact rfl)); (focus (dsimp only [set_zero, set_succ]; try exact rfl)))
    | ((with_reducible apply regW_stB); (focus (dsimp only [ev_t, ev_c, getD_zero, getD_succ]; try exact rfl)); (focus (dsimp only [ev_t, ev_c, getD_zero, getD_succ]; try exact rfl)); (focus (dsimp only [sidx_zero, sidx_succ]; try exact rfl)); (focus (with_unfolding_all exact rfl)); (focus (with_unfolding_all exact rfl)); (focus (with_unfolding_all exact rfl)); (focus (dsimp only [set_zero, set_succ]; try exact rfl)))
    | ((with_reducible apply regW_eqT); (focus (dsimp only [ev_t, ev_c, getD_zero, getD_succ]; try exact rfl)); (focus (dsimp only [ev_t, ev_c, getD_zero, getD_succ]; try exact rfl)); (focus (dsimp only [vals?, Cel.enc, Val.enc, Option.map_some]; try exact rfl)); (focus (dsimp only [vals?, Cel.enc, Val.enc, Option.map_some]; try exact rfl)); (focus (first | exact eqVz _ | exact eqzV _ | exact eqV _ _ | exact eqC _ _)); (focus (dsimp only [set_zero, set_succ]; try exact rfl)))
    | ((with_reducible apply regW_neT); (focus (dsimp only [ev_t, ev_c, getD_zero, getD_succ]; try exact rfl)); (focus (dsimp only [ev_t, ev_c, getD_zero, getD_succ]; try exact rfl)); (focus (dsimp only [vals?, Cel.enc, Val.enc, Option.map_some]; try exact rfl)); (focus (dsimp only [vals?, Cel.enc, Val.enc, Option.map_some]; try exact rfl)); (focus (first | exact eqVz _ | exact eqzV _ | exact eqV _ _ | exact eqC _ _)); (focus (dsimp only [set_zero, set_succ]; try exact rfl)))
    | ((with_reducible apply regW_bs1); (focus (first | exact congrArg AV.agg hfold | (dsimp only [ev_t, ev_c, getD_zero, getD_succ]; first | done | exact rfl))); (focus (with_unfolding_all exact rfl)); (focus (with_unfolding_all exact rfl)); (focus (with_unfolding_all exact rfl)); (focus (dsimp only [set_zero, set_succ, List.length_cons, List.length_nil, Nat.reduceAdd]; try exact rfl)); (focus (dsimp only [List.cons_append, List.nil_append]; try exact rfl)))
    | ((with_reducible apply regW_app); (focus (dsimp only [ev_t, ev_c, getD_zero, getD_succ]; try exact rfl)); (focus (dsimp only [sidx_zero, sidx_succ]; try exact rfl)); (focus (with_reducible exact rfl)); (focus (dsimp only [ev_t, ev_c, getD_zero, getD_succ]; try exact rfl)); (focus (dsimp only [sidx_zero, sidx_succ]; try exact rfl)); (focus (with_unfolding_all exact rfl)); (focus assumption); (focus decide); (focus (dsimp only [set_zero, set_succ, List.length_cons, List.length_nil, Nat.reduceAdd]; try exact rfl)); (focus (dsimp only [set_zero, set_succ, List.cons_append, List.nil_append]; try exact rfl)))
    | ((with_reducible apply regW_appE); (focus ((try dsimp only [ev_t, ev_c, getD_zero, getD_succ]); first | done | exact rfl)); (focus ((try dsimp only [ev_t, ev_c, getD_zero, getD_succ]); first | done | exact rfl)); (focus (dsimp only [set_zero, set_succ]; try exact rfl)))
    | ((with_reducible apply regW_appL); (focus ((try dsimp only [ev_t, ev_c, getD_zero, getD_succ]); first | done | exact rfl)); (focus (dsimp only [sidx_zero, sidx_succ]; try exact rfl)); (focus (with_reducible exact rfl)); (focus ((try dsimp only [ev_t, ev_c, getD_zero, getD_succ]); first | done | exact rfl)); (focus assumption); (focus (intros; (with_unfolding_all exact rfl))); (focus assumption); (focus decide); (focus (dsimp only [set_zero, set_succ, List.length_cons, List.length_nil, Nat.reduceAdd]; try exact rfl)); (focus (dsimp only [set_zero, set_succ, List.cons_append, List.nil_append]; try exact rfl)))
    | ((with_reducible apply regW_opS); (focus (dsimp only [semF, ev_t, ev_c, getD_zero, getD_succ, bin_lss, bin_leq, bin_gtr, bin_geq, bin_eql, bin_neq, bin_add, bin_sub, bin_mul, bin_and, bin_shr20, bin_rem20, un_not, cond_true, cond_false, Nat.reduceAdd, Bool.not_true, Bool.not_false, scalar, Bool.and_self, if_true, if_false, Bool.false_eq_true, Option.map_some, AV.cells?, getCells, sidx_zero, sidx_succ, List.length_cons, List.length_nil, List.nil_append, List.cons_append, List.append_nil, List.drop, List.take, splice, fillA, Cel.enc, Val.enc]; try exact rfl)); (focus (dsimp only [set_zero, set_succ]; try exact rfl)))
    | ((with_reducible apply regW_op); (focus (dsimp only [semF, ev_t, ev_c, getD_zero, getD_succ, bin_lss, bin_leq, bin_gtr, bin_geq, bin_eql, bin_neq, bin_add, bin_sub, bin_mul, bin_and, bin_shr20, bin_rem20, un_not, cond_true, cond_false, Nat.reduceAdd, Bool.not_true, Bool.not_false, scalar, Bool.and_self, if_true, if_false, Bool.false_eq_true, Option.map_some, AV.cells?, getCells, sidx_zero, sidx_succ, List.length_cons, List.length_nil, List.nil_append, List.cons_append, List.append_nil, List.drop, List.take, splice, fillA]; try exact rfl)); (focus (dsimp only [set_zero, set_succ]; try exact rfl)))
    | ((with_reducible apply regW_shut'); (focus (dsimp only [getD_zero, getD_succ]; try (with_reducible exact rfl); done)); (focus (dsimp only [set_zero, set_succ]; try exact rfl)))
    | ((with_reducible apply regW_splitT); (focus (dsimp only [getD_zero, getD_succ]; try exact rfl)); all_goals (intro hc; (try dsimp only [set_zero, set_succ]); (try (with_reducible cases hc)); (try (with_reducible contradiction)); (try rw [hc])))
    | ((with_reducible apply regW_splitF); (focus (dsimp only [getD_zero, getD_succ]; try exact rfl)); all_goals (intro hc; (try dsimp only [set_zero, set_succ]); (try (with_reducible cases hc)); (try (with_reducible contradiction)); (try rw [hc])))
    | ((with_reducible apply regW_opN); (focus (dsimp only [semF, ev_t, ev_c, getD_zero, getD_succ, bin_lss, bin_leq, bin_gtr, bin_geq, bin_eql, bin_neq, bin_add, bin_sub, bin_mul, bin_and, bin_shr20, bin_rem20, un_not, cond_true, cond_false, Nat.reduceAdd, Bool.not_true, Bool.not_false, scalar, Bool.and_self, if_true, if_false, Bool.false_eq_true, Option.map_some, AV.cells?, getCells, sidx_zero, sidx_succ, List.length_cons, List.length_nil, List.nil_append, List.cons_append, List.append_nil, List.drop, List.take, splice, fillA, set_zero, set_succ]; try exact rfl)))
    | ((with_reducible apply G_cond); (focus (dsimp only [ev_t, ev_c, getD_zero, getD_succ]; try exact rfl)); all_goals (intro hc; (try (with_reducible cases hc)); (try (with_reducible contradiction)))))
        refine Nx_inv ⟨(a, [], acc ++ [⟨x.id, x.field, Val.zero⟩]), [2], ?_, ⟨(by simp at ha ⊢; omega), ?_⟩, (by simp)⟩
        · (refine ⟨by decide, rfl, ?_, ?_⟩ <;> repeat' first
      | exact True.intro
      | ((refine And.intro (Or.inl ?_) ?_); (focus (with_reducible exact rfl)))
      | ((refine And.intro (Or.inr (And.intro ?_ (And.intro rfl rfl))) ?_); (focus (dsimp only [AV.ren, getD_zero, getD_succ]; try (with_reducible exact rfl); done)))
      | (refine And.intro (Or.inr (And.intro ?_ (And.intro rfl rfl))) ?_)
      | (with_reducible exact weakO_row rfl)
      | (refine And.intro (Exists.intro _ (And.intro rfl ?_)) ?_)
      | (refine Exists.intro _ (And.intro rfl ?_))
      | (with_reducible exact rfl))
        · rw [hI]; simp
      | cons y b =>
        have hb0 : ¬ (decide ((0 : Int) < ((b.length + 1 : Nat) : Int)) = false) := by rw [decide_eq_false_iff_not]; omega
        have hb1 : ¬ ((((b.length + 1 : Nat) : Int) == 0) = true) := by simp; omega
        have c27x := c27 x y
        rw [diff_cons] at hI
        rcases cmpC_cases x y with hc | hc | hc
        · rw [hc] at c27x hI
          rw [if_pos (by decide)] at hI
          (repeat' first
    | with_reducible refine G_seq ?_
    | with_reducible refine G_reg ?_
    | with_reducible refine regW_nil ?_
    | with_reducible refine Nx_code ?_
    | with_reducible refine Nx_blk ?_
    | with_reducible refine Ex_blk ?_
    | with_reducible refine Ex_code ?_
    | with_reducible refine Ex_inv ?_
    | with_reducible refine G_exit ?_
    | with_reducible refine G_block ?_
    | with_reducible refine G_ret ?_
    | with_reducible refine G_skip ?_
    | ((with_reducible refine G_draw mixed (by decide +kernel) ?_))
    | ((with_reducible apply regW_ia0); (focus ((try dsimp only [ev_t, ev_c, getD_zero, getD_succ]); first | done | exact rfl)); (focus (with_unfolding_all exact rfl)); (focus (dsimp only [set_zero, set_succ]; try exact rfl)))
    | ((with_reducible apply regW_tail); (focus ((try dsimp only [ev_t, ev_c, getD_zero, getD_succ]); first | done | exact rfl)); (focus (intro; (with_unfolding_all exact rfl))); (focus (dsimp only [set_zero, set_succ]; try exact rfl)))
    | ((with_reducible apply regW_iaM); (focus (dsimp only [ev_t, ev_c, getD_zero, getD_succ]; try exact rfl)); (focus (dsimp only [ev_t, ev_c, getD_zero, getD_succ]; try exact rfl)); (focus assumption); (focus (with_unfolding_all exact rfl)); (focus (dsimp only [set_zero, set_succ]; try exact rfl)))
    | ((with_reducible apply regW_lenM); (focus (dsimp only [ev_t, ev_c, getD_zero, getD_succ]; try exact rfl)); (focus (dsimp only [set_zero, set_succ]; try exact rfl)))
    | ((with_reducible apply regW_lenO); (focus ((try dsimp only [ev_t, ev_c, getD_zero, getD_succ]); first | done | exact rfl)); (focus (dsimp only [set_zero, set_succ]; try exact rfl)))
    | ((with_reducible apply regW_add); (focus (dsimp only [ev_t, ev_c, getD_zero, getD_succ]; try exact rfl)); (focus (dsimp only [ev_t, ev_c, getD_zero, getD_succ]; try exact rfl)); (focus (first | assumption | exact rfl)); (focus (dsimp only [set_zero, set_succ]; try exact rfl)))
    | ((with_reducible apply regW_sub); (focus (dsimp only [ev_t, ev_c, getD_zero, getD_succ]; try exact rfl)); (focus (dsimp only [ev_t, ev_c, getD_zero, getD_succ]; try exact rfl)); (focus (first | assumption | exact rfl)); (focus (dsimp only [set_zero, set_succ]; try exact rfl)))
    | ((with_reducible apply regW_ldE); (focus (dsimp only [ev_t, ev_c, getD_zero, getD_succ]; try exact rfl)); (focus (with_unfolding_all exact rfl)); (focus (dsimp only [set_zero, set_succ]; try exact rfl)))
    | ((with_reducible apply regW_ldB); (focus (dsimp only [ev_t, ev_c, getD_zero, getD_succ]; try exact rfl)); (focus (dsimp only [sidx_zero, sidx_succ]; try exact rfl)); (focus (with_unfolding_all exact rfl)); (focus (dsimp only [set_zero, set_succ]; try exact rfl)))
    | ((with_reducible apply regW_stB); (focus (dsimp only [ev_t, ev_c, getD_zero, getD_succ]; try exact rfl)); (focus (dsimp only [ev_t, ev_c, getD_zero, getD_succ]; try exact rfl)); (focus (dsimp only [sidx_zero, sidx_succ]; try exact rfl)); (focus (with_unfolding_all exact rfl)); (focus (with_unfolding_all exact rfl)); (focus (with_unfolding_all exact rfl)); (focus (dsimp only [set_zero, set_succ]; try exact rfl)))
    | ((with_reducible apply regW_eqT); (focus (dsimp only [ev_t, ev_c, getD_zero, getD_succ]; try exact rfl)); (focus (dsimp only [ev_t, ev_c, getD_zero, getD_succ]; try exact rfl)); (focus (dsimp only [vals?, Cel.enc, Val.enc, Option.map_some]; try exact rfl)); (focus (dsimp only [vals?, Cel.enc, Val.enc, Option.map_some]; try exact rfl)); (focus (first | exact eqVz _ | exact eqzV _ | exact eqV _ _ | exact eqC _ _)); (focus (dsimp only [set_zero, set_succ]; try exact rfl)))
    | ((with_reducible apply regW_neT); (focus (dsimp only [ev_t, ev_c, getD_zero, getD_succ]; try exact rfl)); (focus (dsimp only [ev_t, ev_c, getD_zero, getD_succ]; try exact rfl)); (focus (dsimp only [vals?, Cel.enc, Val.enc, Option.map_some]; try exact rfl)); (focus (dsimp only [vals?, Cel.enc, Val.enc, Option.map_some]; try exact rfl)); (focus (first | exact eqVz _ | exact eqzV _ | exact eqV _ _ | exact eqC _ _)); (focus (dsimp only [set_zero, set_succ]; try exact rfl)))
    | ((with_reducible apply regW_bs1); (focus (first | exact congrArg AV.agg hfold | (dsimp only [ev_t, ev_c, getD_zero, getD_succ]; first | done | exact rfl))); (focus (with_unfolding_all exact rfl)); (focus (with_unfolding_all exact rfl)); (focus (with_unfolding_all exact rfl)); (focus (dsimp only [set_zero, set_succ, List.length_cons, List.length_nil, Nat.reduceAdd]; try exact rfl)); (focus (dsimp only [List.cons_append, List.nil_append]; try exact rfl)))
    | ((with_reducible apply regW_app); (focus (dsimp only [ev_t, ev_c, getD_zero, getD_succ]; try exact rfl)); (focus (dsimp only [sidx_zero, sidx_succ]; try exact rfl)); (focus (with_reducible exact rfl)); (focus (dsimp only [ev_t, ev_c, getD_zero, getD_succ]; try exact rfl)); (focus (dsimp only [sidx_zero, sidx_succ]; try exact rfl)); (focus (with_unfolding_all exact rfl)); (focus assumption); (focus decide); (focus (dsimp only [set_zero, set_succ, List.length_cons, List.length_nil, Nat.reduceAdd]; try exact rfl)); (focus (dsimp only [set_zero, set_succ, List.cons_append, List.nil_append]; try exact rfl)))
    | ((with_reducible apply regW_appE); (focus ((try dsimp only [ev_t, ev_c, getD_zero, getD_succ]); first | done | exact rfl)); (focus ((try dsimp only [ev_t, ev_c, getD_zero, getD_succ]); first | done | exact rfl)); (focus (dsimp only [set_zero, set_succ]; try exact rfl)))
    | ((with_reducible apply regW_appL); (focus ((try dsimp only [ev_t, ev_c, getD_zero, getD_succ]); first | done | exact rfl)); (focus (dsimp only [sidx_zero, sidx_succ]; try exact rfl)); (focus (with_reducible exact rfl)); (focus ((try dsimp only [ev_t, ev_c, getD_zero, getD_succ]); first | done | exact rfl)); (focus assumption); (focus (intros; (with_unfolding_all exact rfl))); (focus assumption); (focus decide); (focus (dsimp only [set_zero, set_succ, List.length_cons, List.length_nil, Nat.reduceAdd]; try exact rfl)); (focus (dsimp only [set_zero, set_succ, List.cons_append, List.nil_append]; try exact rfl)))
    | ((with_reducible apply regW_opS); (focus (dsimp only [semF, ev_t, ev_c, getD_zero, getD_succ, bin_lss, bin_leq, bin_gtr, bin_geq, bin_eql, bin_neq, bin_add, bin_sub, bin_mul, bin_and, bin_shr20, bin_rem20, un_not, cond_true, cond_false, Nat.reduceAdd, Bool.not_true, Bool.not_false, scalar, Bool.and_self, if_true, if_false, Bool.false_eq_true, Option.map_some, AV.cells?, getCells, sidx_zero, sidx_succ, List.length_cons, List.length_nil, List.nil_append, List.cons_append, List.append_nil, List.drop, List.take, splice, fillA, Cel.enc, Val.enc]; try exact rfl)); (focus (dsimp only [set_zero, set_succ]; try exact rfl)))
    | ((with_reducible apply regW_op); (focus (dsimp only [semF, ev_t, ev_c, getD_zero, getD_succ, bin_lss, bin_leq, bin_gtr, bin_geq, bin_eql, bin_neq, bin_add, bin_sub, bin_mul, bin_and, bin_shr20, bin_rem20, un_not, cond_true, cond_false, Nat.reduceAdd, Bool.not_true, Bool.not_false, scalar, Bool.and_self, if_true, if_false, Bool.false_eq_true, Option.map_some, AV.cells?, getCells, sidx_zero, sidx_succ, List.length_cons, List.length_nil, List.nil_append, List.cons_append, List.append_nil, List.drop, List.take, splice, fillA]; try exact rfl)); (focus (dsimp only [set_zero, set_succ]; try exact rfl)))
    | ((with_reducible apply regW_shut'); (focus (dsimp only [getD_zero, getD_succ]; try (with_reducible exact rfl); done)); (focus (dsimp only [set_zero, set_succ]; try exact rfl)))
    | ((with_reducible apply regW_splitT); (focus (dsimp only [getD_zero, getD_succ]; try exact rfl)); all_goals (intro hc; (try dsimp only [set_zero, set_succ]); (try (with_reducible cases hc)); (try (with_reducible contradiction)); (try rw [hc])))
    | ((with_reducible apply regW_splitF); (focus (dsimp only [getD_zero, getD_succ]; try exact rfl)); all_goals (intro hc; (try dsimp only [set_zero, set_succ]); (try (with_reducible cases hc)); (try (with_reducible contradiction)); (try rw [hc])))
    | ((with_reducible apply regW_opN); (focus (dsimp only [semF, ev_t, ev_c, getD_zero, getD_succ, bin_lss, bin_leq, bin_gtr, bin_geq, bin_eql, bin_neq, bin_add, bin_sub, bin_mul, bin_and, bin_shr20, bin_rem20, un_not, cond_true, cond_false, Nat.reduceAdd, Bool.not_true, Bool.not_false, scalar, Bool.and_self, if_true, if_false, Bool.false_eq_true, Option.map_some, AV.cells?, getCells, sidx_zero, sidx_succ, List.length_cons, List.length_nil, List.nil_append, List.cons_append, List.append_nil, List.drop, List.take, splice, fillA, set_zero, set_succ]; try exact rfl)))
    | ((with_reducible apply regW_callV); (focus (dsimp only [List.map, ev_t, ev_c, getD_zero, getD_succ]; try exact rfl)); (focus (repeat' first | exact reifyAll_nil | (apply reifyAll_vs) | (apply reifyAll_nils Cel.enc) | ((apply reifyAll_own); (focus (dsimp only [sidx_zero, sidx_succ]; try exact rfl)); (focus (with_reducible exact rfl))) | (apply reifyAll_val rfl))); (focus (exact c27x)); (focus (first | exact Flat.v _ | exact val_flat _)); (focus (dsimp only [set_zero, set_succ]; try exact rfl)))
    | ((with_reducible apply G_cond); (focus (dsimp only [ev_t, ev_c, getD_zero, getD_succ]; try exact rfl)); all_goals (intro hc; (try (with_reducible cases hc)); (try (with_reducible contradiction)))))
          refine Nx_inv ⟨(a, y :: b, acc ++ [⟨x.id, x.field, Val.zero⟩]), [2], ?_, ⟨(by simp at ha ⊢; omega), ?_⟩, (by simp)⟩
          · (refine ⟨by decide, rfl, ?_, ?_⟩ <;> repeat' first
      | exact True.intro
      | ((refine And.intro (Or.inl ?_) ?_); (focus (with_reducible exact rfl)))
      | ((refine And.intro (Or.inr (And.intro ?_ (And.intro rfl rfl))) ?_); (focus (dsimp only [AV.ren, getD_zero, getD_succ]; try (with_reducible exact rfl); done)))
      | (refine And.intro (Or.inr (And.intro ?_ (And.intro rfl rfl))) ?_)
      | (with_reducible exact weakO_row rfl)
      | (refine And.intro (Exists.intro _ (And.intro rfl ?_)) ?_)
      | (refine Exists.intro _ (And.intro rfl ?_))
      | (with_reducible exact rfl))
          · rw [hI]; simp
        · rw [hc] at c27x hI
          rw [if_neg (by decide), if_pos rfl] at hI
          (repeat' first
    | with_reducible refine G_seq ?_
    | with_reducible refine G_reg ?_
    | with_reducible refine regW_nil ?_
    | with_reducible refine Nx_code ?_
    | with_reducible refine Nx_blk ?_
    | with_reducible refine Ex_blk ?_
    | with_reducible refine Ex_code ?_
    | with_reducible refine Ex_inv ?_
    | with_reducible refine G_exit ?_
    | with_reducible refine G_block ?_
    | with_reducible refine G_ret ?_
    | with_reducible refine G_skip ?_
    | ((with_reducible refine G_draw mixed (by decide +kernel) ?_))
    | ((with_reducible apply regW_ia0); (focus ((try dsimp only [ev_t, ev_c, getD_zero, getD_succ]); first | done | exact rfl)); (focus (with_unfolding_all exact rfl)); (focus (dsimp only [set_zero, set_succ]; try exact rfl)))
    | ((with_reducible apply regW_tail); (focus ((try dsimp only [ev_t, ev_c, getD_zero, getD_succ]); first | done | exact rfl)); (focus (intro; (with_unfolding_all exact rfl))); (focus (dsimp only [set_zero, set_succ]; try exact rfl)))
    | ((with_reducible apply regW_iaM); (focus (dsimp only [ev_t, ev_c, getD_zero, getD_succ]; try exact rfl)); (focus (dsimp only [ev_t, ev_c, getD_zero, getD_succ]; try exact rfl)); (focus assumption); (focus (with_unfolding_all exact rfl)); (focus (dsimp only [set_zero, set_succ]; try exact rfl)))
    | ((with_reducible apply regW_lenM); (focus (dsimp only [ev_t, ev_c, getD_zero, getD_succ]; try exact rfl)); (focus (dsimp only [set_zero, set_succ]; try exact rfl)))
    | ((with_reducible apply regW_lenO); (focus ((try dsimp only [ev_t, ev_c, getD_zero, getD_succ]); first | done | exact rfl)); (focus (dsimp only [set_zero, set_succ]; try exact rfl)))
    | ((with_reducible apply regW_add); (focus (dsimp only [ev_t, ev_c, getD_zero, getD_succ]; try exact rfl)); (focus (dsimp only [ev_t, ev_c, getD_zero, getD_succ]; try exact rfl)); (focus (first | assumption | exact rfl)); (focus (dsimp only [set_zero, set_succ]; try exact rfl)))
    | ((with_reducible apply regW_sub); (focus (dsimp only [ev_t, ev_c, getD_zero, getD_succ]; try exact rfl)); (focus (dsimp only [ev_t, ev_c, getD_zero, getD_succ]; try exact rfl)); (focus (first | assumption | exact rfl)); (focus (dsimp only [set_zero, set_succ]; try exact rfl)))
    | ((with_reducible apply regW_ldE); (focus (dsimp only [ev_t, ev_c, getD_zero, getD_succ]; try exact rfl)); (focus (with_unfolding_all exact rfl)); (focus (dsimp only [set_zero, set_succ]; try exact rfl)))
    | ((with_reducible apply regW_ldB); (focus (dsimp only [ev_t, ev_c, getD_zero, getD_succ]; try exact rfl)); (focus (dsimp only [sidx_zero, sidx_succ]; try exact rfl)); (focus (with_unfolding_all exact rfl)); (focus (dsimp only [set_zero, set_succ]; try exact rfl)))
    | ((with_reducible apply regW_stB); (focus (dsimp only [ev_t, ev_c, getD_zero, getD_succ]; try exact rfl)); (focus (dsimp only [ev_t, ev_c, getD_zero, getD_succ]; try exact rfl)); (focus (dsimp only [sidx_zero, sidx_succ]; try exact rfl)); (focus (with_unfolding_all exact rfl)); (focus (with_unfolding_all exact rfl)); (focus (with_unfolding_all exact rfl)); (focus (dsimp only [set_zero, set_succ]; try exact rfl)))
    | ((with_reducible apply regW_eqT); (focus (dsimp only [ev_t, ev_c, getD_zero, getD_succ]; try exact rfl)); (focus (dsimp only [ev_t, ev_c, getD_zero, getD_succ]; try exact rfl)); (focus (dsimp only [vals?, Cel.enc, Val.enc, Option.map_some]; try exact rfl)); (focus (dsimp only [vals?, Cel.enc, Val.enc, Option.map_some]; try exact rfl)); (focus (first | exact eqVz _ | exact eqzV _ | exact eqV _ _ | exact eqC _ _)); (focus (dsimp only [set_zero, set_succ]; try exact rfl)))
    | ((with_reducible apply regW_neT); (focus (dsimp only [ev_t, ev_c, getD_zero, getD_succ]; try exact rfl)); (focus (dsimp only [ev_t, ev_c, getD_zero, getD_succ]; try exact rfl)); (focus (dsimp only [vals?, Cel.enc, Val.enc, Option.map_some]; try exact rfl)); (focus (dsimp only [vals?, Cel.enc, Val.enc, Option.map_some]; try exact rfl)); (focus (first | exact eqVz _ | exact eqzV _ | exact eqV _ _ | exact eqC _ _)); (focus (dsimp only [set_zero, set_succ]; try exact rfl)))
    | ((with_reducible apply regW_bs1); (focus (first | exact congrArg AV.agg hfold | (dsimp only [ev_t, ev_c, getD_zero, getD_succ]; first | done | exact rfl))); (focus (with_unfolding_all exact rfl)); (focus (with_unfolding_all exact rfl)); (focus (with_unfolding_all exact rfl)); (focus (dsimp only [set_zero, set_succ, List.length_cons, List.length_nil, Nat.reduceAdd]; try exact rfl)); (focus (dsimp only [List.cons_append, List.nil_append]; try exact rfl)))
    | ((with_reducible apply regW_app); (focus (dsimp only [ev_t, ev_c, getD_zero, getD_succ]; try exact rfl)); (focus (dsimp only [sidx_zero, sidx_succ]; try exact rfl)); (focus (with_reducible exact rfl)); (focus (dsimp only [ev_t, ev_c, getD_zero, getD_succ]; try exact rfl)); (focus (dsimp only [sidx_zero, sidx_succ]; try exact rfl)); (focus (with_unfolding_all exact rfl)); (focus assumption); (focus decide); (focus (dsimp only [set_zero, set_succ, List.length_cons, List.length_nil, Nat.reduceAdd]; try exact rfl)); (focus (dsimp only [set_zero, set_succ, List.cons_append, List.nil_append]; try exact rfl)))
    | ((with_reducible apply regW_appE); (focus ((try dsimp only [ev_t, ev_c, getD_zero, getD_succ]); first | done | exact rfl)); (focus ((try dsimp only [ev_t, ev_c, getD_zero, getD_succ]); first | done | exact rfl)); (focus (dsimp only [set_zero, set_succ]; try exact rfl)))
    | ((with_reducible apply regW_appL); (focus ((try dsimp only [ev_t, ev_c, getD_zero, getD_succ]); first | done | exact rfl)); (focus (dsimp only [sidx_zero, sidx_succ]; try exact rfl)); (focus (with_reducible exact rfl)); (focus ((try dsimp only [ev_t, ev_c, getD_zero, getD_succ]); first | done | exact rfl)); (focus assumption); (focus (intros; (with_unfolding_all exact rfl))); (focus assumption); (focus decide); (focus (dsimp only [set_zero, set_succ, List.length_cons, List.length_nil, Nat.reduceAdd]; try exact rfl)); (focus (dsimp only [set_zero, set_succ, List.cons_append, List.nil_append]; try exact rfl)))
    | ((with_reducible apply regW_opS); (focus (dsimp only [semF, ev_t, ev_c, getD_zero, getD_succ, bin_lss, bin_leq, bin_gtr, bin_geq, bin_eql, bin_neq, bin_add, bin_sub, bin_mul, bin_and, bin_shr20, bin_rem20, un_not, cond_true, cond_false, Nat.reduceAdd, Bool.not_true, Bool.not_false, scalar, Bool.and_self, if_true, if_false, Bool.false_eq_true, Option.map_some, AV.cells?, getCells, sidx_zero, sidx_succ, List.length_cons, List.length_nil, List.nil_append, List.cons_append, List.append_nil, List.drop, List.take, splice, fillA, Cel.enc, Val.enc]; try exact rfl)); (focus (dsimp only [set_zero, set_succ]; try exact rfl)))
    | ((with_reducible apply regW_op); (focus (dsimp only [semF, ev_t, ev_c, getD_zero, getD_succ, bin_lss, bin_leq, bin_gtr, bin_geq, bin_eql, bin_neq, bin_add, bin_sub, bin_mul, bin_and, bin_shr20, bin_rem20, un_not, cond_true, cond_false, Nat.reduceAdd, Bool.not_true, Bool.not_false, scalar, Bool.and_self, if_true, if_false, Bool.false_eq_true, Option.map_some, AV.cells?, getCells, sidx_zero, sidx_succ, List.length_cons, List.length_nil, List.nil_append, List.cons_append, List.append_nil, List.drop, List.take, splice, fillA]; try exact rfl)); (focus (dsimp only [set_zero, set_succ]; try exact rfl)))
    | ((with_reducible apply regW_shut'); (focus (dsimp only [getD_zero, getD_succ]; try (with_reducible exact rfl); done)); (focus (dsimp only [set_zero, set_succ]; try exact rfl)))
    | ((with_reducible apply regW_splitT); (focus (dsimp only [getD_zero, getD_succ]; try exact rfl)); all_goals (intro hc; (try dsimp only [set_zero, set_succ]); (try (with_reducible cases hc)); (try (with_reducible contradiction)); (try rw [hc])))
    | ((with_reducible apply regW_splitF); (focus (dsimp only [getD_zero, getD_succ]; try exact rfl)); all_goals (intro hc; (try dsimp only [set_zero, set_succ]); (try (with_reducible cases hc)); (try (with_reducible contradiction)); (try rw [hc])))
    | ((with_reducible apply regW_opN); (focus (dsimp only [semF, ev_t, ev_c, getD_zero, getD_succ, bin_lss, bin_leq, bin_gtr, bin_geq, bin_eql, bin_neq, bin_add, bin_sub, bin_mul, bin_and, bin_shr20, bin_rem20, un_not, cond_true, cond_false, Nat.reduceAdd, Bool.not_true, Bool.not_false, scalar, Bool.and_self, if_true, if_false, Bool.false_eq_true, Option.map_some, AV.cells?, getCells, sidx_zero, sidx_succ, List.length_cons, List.length_nil, List.nil_append, List.cons_append, List.append_nil, List.drop, List.take, splice, fillA, set_zero, set_succ]; try exact rfl)))
    | ((with_reducible apply regW_callV); (focus (dsimp only [List.map, ev_t, ev_c, getD_zero, getD_succ]; try exact rfl)); (focus (repeat' first | exact reifyAll_nil | (apply reifyAll_vs) | (apply reifyAll_nils Cel.enc) | ((apply reifyAll_own); (focus (dsimp only [sidx_zero, sidx_succ]; try exact rfl)); (focus (with_reducible exact rfl))) | (apply reifyAll_val rfl))); (focus (exact c27x)); (focus (first | exact Flat.v _ | exact val_flat _)); (focus (dsimp only [set_zero, set_succ]; try exact rfl)))
    | ((with_reducible apply G_cond); (focus (dsimp only [ev_t, ev_c, getD_zero, getD_succ]; try exact rfl)); all_goals (intro hc; (try (with_reducible cases hc)); (try (with_reducible contradiction)))))
          all_goals first
            | (refine Nx_inv ⟨(a, b, acc ++ [y]), [2], ?_, ⟨(by simp at ha ⊢; omega), ?_⟩, (by simp; omega)⟩; (focus ((refine ⟨by decide, rfl, ?_, ?_⟩ <;> repeat' first
      | exact True.intro
      | ((refine And.intro (Or.inl ?_) ?_); (focus (with_reducible exact rfl)))
      | ((refine And.intro (Or.inr (And.intro ?_ (And.intro rfl rfl))) ?_); (focus (dsimp only [AV.ren, getD_zero, getD_succ]; try (with_reducible exact rfl); done)))
      | (refine And.intro (Or.inr (And.intro ?_ (And.intro rfl rfl))) ?_)
      | (with_reducible exact weakO_row rfl)
      | (refine And.intro (Exists.intro _ (And.intro rfl ?_)) ?_)
      | (refine Exists.intro _ (And.intro rfl ?_))
      | (with_reducible exact rfl)) <;> fail)); (rw [hI]; clear hI; simp_all; done))
            | (refine Nx_inv ⟨(a, b, acc), [0], ?_, ⟨(by simp at ha ⊢; omega), ?_⟩, (by simp; omega)⟩; (focus ((refine ⟨by decide, rfl, ?_, ?_⟩ <;> repeat' first
      | exact True.intro
      | ((refine And.intro (Or.inl ?_) ?_); (focus (with_reducible exact rfl)))
      | ((refine And.intro (Or.inr (And.intro ?_ (And.intro rfl rfl))) ?_); (focus (dsimp only [AV.ren, getD_zero, getD_succ]; try (with_reducible exact rfl); done)))
      | (refine And.intro (Or.inr (And.intro ?_ (And.intro rfl rfl))) ?_)
      | (with_reducible exact weakO_row rfl)
      | (refine And.intro (Exists.intro _ (And.intro rfl ?_)) ?_)
      | (refine Exists.intro _ (And.intro rfl ?_))
      | (with_reducible exact rfl)) <;> fail)); (rw [hI]; clear hI; simp_all; done))
        · rw [hc] at c27x hI
          rw [if_neg (by decide), if_neg (by decide)] at hI
          (repeat' first
    | with_reducible refine G_seq ?_
    | with_reducible refine G_reg ?_
    | with_reducible refine regW_nil ?_
    | with_reducible refine Nx_code ?_
    | with_reducible refine Nx_blk ?_
    | with_reducible refine Ex_blk ?_
    | with_reducible refine Ex_code ?_
    | with_reducible refine Ex_inv ?_
    | with_reducible refine G_exit ?_
    | with_reducible refine G_block ?_
    | with_reducible refine G_ret ?_
    | with_reducible refine G_skip ?_
    | ((with_reducible refine G_draw mixed (by decide +kernel) ?_))
    | ((with_reducible apply regW_ia0); (focus ((try dsimp only [ev_t, ev_c, getD_zero, getD_succ]); first | done | exact rfl)); (focus (with_unfolding_all exact rfl)); (focus (dsimp only [set_zero, set_succ]; try exact rfl)))
    | ((with_reducible apply regW_tail); (focus ((try dsimp only [ev_t, ev_c, getD_zero, getD_succ]); first | done | exact rfl)); (focus (intro; (with_unfolding_all exact rfl))); (focus (dsimp only [set_zero, set_succ]; try exact rfl)))
    | ((with_reducible apply regW_iaM); (focus (dsimp only [ev_t, ev_c, getD_zero, getD_succ]; try exact rfl)); (focus (dsimp only [ev_t, ev_c, getD_zero, getD_succ]; try exact rfl)); (focus assumption); (focus (with_unfolding_all exact rfl)); (focus (dsimp only [set_zero, set_succ]; try exact rfl)))
    | ((with_reducible apply regW_lenM); (focus (dsimp only [ev_t, ev_c, getD_zero, getD_succ]; try exact rfl)); (focus (dsimp only [set_zero, set_succ]; try exact rfl)))
    | ((with_reducible apply regW_lenO); (focus ((try dsimp only [ev_t, ev_c, getD_zero, getD_succ]); first | done | exact rfl)); (focus (dsimp only [set_zero, set_succ]; try exact rfl)))
    | ((with_reducible apply regW_add); (focus (dsimp only [ev_t, ev_c, getD_zero, getD_succ]; try exact rfl)); (focus (dsimp only [ev_t, ev_c, getD_zero, getD_succ]; try exact rfl)); (focus (first | assumption | exact rfl)); (focus (dsimp only [set_zero, set_succ]; try exact rfl)))
    | ((with_reducible apply regW_sub); (focus (dsimp only [ev_t, ev_c, getD_zero, getD_succ]; try exact rfl)); (focus (dsimp only [ev_t, ev_c, getD_zero, getD_succ]; try exact rfl)); (focus (first | assumption | exact rfl)); (focus (dsimp only [set_zero, set_succ]; try exact rfl)))
    | ((with_reducible apply regW_ldE); (focus (dsimp only [ev_t, ev_c, getD_zero, getD_succ]; try exact rfl)); (focus (with_unfolding_all exact rfl)); (focus (dsimp only [set_zero, set_succ]; try exact rfl)))
    | ((with_reducible apply regW_ldB); (focus (dsimp only [ev_t, ev_c, getD_zero, getD_succ]; try exact rfl)); (focus (dsimp only [sidx_zero, sidx_succ]; try exact rfl)); (focus (with_unfolding_all exact rfl)); (focus (dsimp only [set_zero, set_succ]; try exact rfl)))
    | ((with_reducible apply regW_stB); (focus (dsimp only [ev_t, ev_c, getD_zero, getD_succ]; try exact rfl)); (focus (dsimp only [ev_t, ev_c, getD_zero, getD_succ]; try exact rfl)); (focus (dsimp only [sidx_zero, sidx_succ]; try exact rfl)); (focus (with_unfolding_all exact rfl)); (focus (with_unfolding_all exact rfl)); (focus (with_unfolding_all exact rfl)); (focus (dsimp only [set_zero, set_succ]; try exact rfl)))
    | ((with_reducible apply regW_eqT); (focus (dsimp only [ev_t, ev_c, getD_zero, getD_succ]; try exact rfl)); (focus (dsimp only [ev_t, ev_c, getD_zero, getD_succ]; try exact rfl)); (focus (dsimp only [vals?, Cel.enc, Val.enc, Option.map_some]; try exact rfl)); (focus (dsimp only [vals?, Cel.enc, Val.enc, Option.map_some]; try exact rfl)); (focus (first | exact eqVz _ | exact eqzV _ | exact eqV _ _ | exact eqC _ _)); (focus (dsimp only [set_zero, set_succ]; try exact rfl)))
    | ((with_reducible apply regW_neT); (focus (dsimp only [ev_t, ev_c, getD_zero, getD_succ]; try exact rfl)); (focus (dsimp only [ev_t, ev_c, getD_zero, getD_succ]; try exact rfl)); (focus (dsimp only [vals?, Cel.enc, Val.enc, Option.map_some]; try exact rfl)); (focus (dsimp only [vals?, Cel.enc, Val.enc, Option.map_some]; try exact rfl)); (focus (first | exact eqVz _ | exact eqzV _ | exact eqV _ _ | exact eqC _ _)); (focus (dsimp only [set_zero, set_succ]; try exact rfl)))
    | ((with_reducible apply regW_bs1); (focus (first | exact congrArg AV.agg hfold | (dsimp only [ev_t, ev_c, getD_zero, getD_succ]; first | done | exact rfl))); (focus (with_unfolding_all exact rfl)); (focus (with_unfolding_all exact rfl)); (focus (with_unfolding_all exact rfl)); (focus (dsimp only [set_zero, set_succ, List.length_cons, List.length_nil, Nat.reduceAdd]; try exact rfl)); (focus (dsimp only [List.cons_append, List.nil_append]; try exact rfl)))
    | ((with_reducible apply regW_app); (focus (dsimp only [ev_t, ev_c, getD_zero, getD_succ]; try exact rfl)); (focus (dsimp only [sidx_zero, sidx_succ]; try exact rfl)); (focus (with_reducible exact rfl)); (focus (dsimp only [ev_t, ev_c, getD_zero, getD_succ]; try exact rfl)); (focus (dsimp only [sidx_zero, sidx_succ]; try exact rfl)); (focus (with_unfolding_all exact rfl)); (focus assumption); (focus decide); (focus (dsimp only [set_zero, set_succ, List.length_cons, List.length_nil, Nat.reduceAdd]; try exact rfl)); (focus (dsimp only [set_zero, set_succ, List.cons_append, List.nil_append]; try exact rfl)))
    | ((with_reducible apply regW_appE); (focus ((try dsimp only [ev_t, ev_c, getD_zero, getD_succ]); first | done | exact rfl)); (focus ((try dsimp only [ev_t, ev_c, getD_zero, getD_succ]); first | done | exact rfl)); (focus (dsimp only [set_zero, set_succ]; try exact rfl)))
    | ((with_reducible apply regW_appL); (focus ((try dsimp only [ev_t, ev_c, getD_zero, getD_succ]); first | done | exact rfl)); (focus (dsimp only [sidx_zero, sidx_succ]; try exact rfl)); (focus (with_reducible exact rfl)); (focus ((try dsimp only [ev_t, ev_c, getD_zero, getD_succ]); first | done | exact rfl)); (focus assumption); (focus (intros; (with_unfolding_all exact rfl))); (focus assumption); (focus decide); (focus (dsimp only [set_zero, set_succ, List.length_cons, List.length_nil, Nat.reduceAdd]; try exact rfl)); (focus (dsimp only [set_zero, set_succ, List.cons_append, List.nil_append]; try exact rfl)))
    | ((with_reducible apply regW_opS); (focus (dsimp only [semF, ev_t, ev_c, getD_zero, getD_succ, bin_lss, bin_leq, bin_gtr, bin_geq, bin_eql, bin_neq, bin_add, bin_sub, bin_mul, bin_and, bin_shr20, bin_rem20, un_not, cond_true, cond_false, Nat.reduceAdd, Bool.not_true, Bool.not_false, scalar, Bool.and_self, if_true, if_false, Bool.false_eq_true, Option.map_some, AV.cells?, getCells, sidx_zero, sidx_succ, List.length_cons, List.length_nil, List.nil_append, List.cons_append, List.append_nil, List.drop, List.take, splice, fillA, Cel.enc, Val.enc]; try exact rfl)); (focus (dsimp only [set_zero, set_succ]; try exact rfl)))
    | ((with_reducible apply regW_op); (focus (dsimp only [semF, ev_t, ev_c, getD_zero, getD_succ, bin_lss, bin_leq, bin_gtr, bin_geq, bin_eql, bin_neq, bin_add, bin_sub, bin_mul, bin_and, bin_shr20, bin_rem20, un_not, cond_true, cond_false, Nat.reduceAdd, Bool.not_true, Bool.not_false, scalar, Bool.and_self, if_true, if_false, Bool.false_eq_true, Option.map_some, AV.cells?, getCells, sidx_zero, sidx_succ, List.length_cons, List.length_nil, List.nil_append, List.cons_append, List.append_nil, List.drop, List.take, splice, fillA]; try exact rfl)); (focus (dsimp only [set_zero, set_succ]; try exact rfl)))
    | ((with_reducible apply regW_shut'); (focus (dsimp only [getD_zero, getD_succ]; try (with_reducible exact rfl); done)); (focus (dsimp only [set_zero, set_succ]; try exact rfl)))
    | ((with_reducible apply regW_splitT); (focus (dsimp only [getD_zero, getD_succ]; try exact rfl)); all_goals (intro hc; (try dsimp only [set_zero, set_succ]); (try (with_reducible cases hc)); (try (with_reducible contradiction)); (try rw [hc])))
    | ((with_reducible apply regW_splitF); (focus (dsimp only [getD_zero, getD_succ]; try exact rfl)); all_goals (intro hc; (try dsimp only [set_zero, set_succ]); (try (with_reducible cases hc)); (try (with_reducible contradiction)); (try rw [hc])))
    | ((with_reducible apply regW_opN); (focus (dsimp only [semF, ev_t, ev_c, getD_zero, getD_succ, bin_lss, bin_leq, bin_gtr, bin_geq, bin_eql, bin_neq, bin_add, bin_sub, bin_mul, bin_and, bin_shr20, bin_rem20, un_not, cond_true, cond_false, Nat.reduceAdd, Bool.not_true, Bool.not_false, scalar, Bool.and_self, if_true, if_false, Bool.false_eq_true, Option.map_some, AV.cells?, getCells, sidx_zero, sidx_succ, List.length_cons, List.length_nil, List.nil_append, List.cons_append, List.append_nil, List.drop, List.take, splice, fillA, set_zero, set_succ]; try exact rfl)))
    | ((with_reducible apply regW_callV); (focus (dsimp only [List.map, ev_t, ev_c, getD_zero, getD_succ]; try exact rfl)); (focus (repeat' first | exact reifyAll_nil | (apply reifyAll_vs) | (apply reifyAll_nils Cel.enc) | ((apply reifyAll_own); (focus (dsimp only [sidx_zero, sidx_succ]; try exact rfl)); (focus (with_reducible exact rfl))) | (apply reifyAll_val rfl))); (focus (exact c27x)); (focus (first | exact Flat.v _ | exact val_flat _)); (focus (dsimp only [set_zero, set_succ]; try exact rfl)))
    | ((with_reducible apply G_cond); (focus (dsimp only [ev_t, ev_c, getD_zero, getD_succ]; try exact rfl)); all_goals (intro hc; (try (with_reducible cases hc)); (try (with_reducible contradiction)))))
          refine Nx_inv ⟨(x :: a, b, acc ++ [y]), [2], ?_, ⟨(by simp at ha ⊢; omega), ?_⟩, (by simp)⟩
          · (refine ⟨by decide, rfl, ?_, ?_⟩ <;> repeat' first
      | exact True.intro
      | ((refine And.intro (Or.inl ?_) ?_); (focus (with_reducible exact rfl)))
      | ((refine And.intro (Or.inr (And.intro ?_ (And.intro rfl rfl))) ?_); (focus (dsimp only [AV.ren, getD_zero, getD_succ]; try (with_reducible exact rfl); done)))
      | (refine And.intro (Or.inr (And.intro ?_ (And.intro rfl rfl))) ?_)
      | (with_reducible exact weakO_row rfl)
      | (refine And.intro (Exists.intro _ (And.intro rfl ?_)) ?_)
      | (refine Exists.intro _ (And.intro rfl ?_))
      | (with_reducible exact rfl))
          · rw [hI]; simp

end Go.Proofs.Ythbkdnojneffdaa

/- Contracts of functions of the program over the abstract machine. -/
import Derived.Test.YthbkdnojneffdaaT8
import Derived.Test.YthbkdnojneffdaaAmCell2
namespace Go.Proofs.Ythbkdnojneffdaa
open Go.Am

set_option maxHeartbeats 2000000 in
theorem c16 (l0 w : List Cel) (hla : l0.length ≤ 50000) (hlb : w.length ≤ 50000) : Contract Try.prog 16 [encL l0, encL w] (.fresh 31 6 ((putB l0 w).map Cel.enc)) := by
  have c11l := c11 l0 (by omega)
  have c13w := c13 w (by omega)
  unfold encL at c11l c13w ⊢
  unfold putB
  by_cases hv : validB l0 = true
  case neg =>
    rw [Bool.not_eq_true] at hv
    rw [hv] at c11l ⊢
    (refine contract_g (fr := [.vs (l0.map Cel.enc), .vs (w.map Cel.enc), .v undef, .v undef, .v undef, .v undef, .v undef, .v undef, .v undef, .v undef, .v undef, .v undef, .v undef, .v undef, .v undef, .v undef, .v undef, .v undef, .v undef, .v undef, .v undef, .v undef, .v undef, .v undef, .v undef, .v undef, .v undef, .v undef, .v undef, .v undef, .v undef, .v undef, .v undef, .v undef, .v undef, .v undef, .v undef, .v undef, .v undef, .v undef, .v undef, .v undef, .v undef, .v undef, .v undef, .v undef, .v undef, .v undef, .v undef, .v undef, .v undef, .v undef, .v undef, .v undef, .v undef, .v undef, .v undef, .v undef, .v undef, .v undef, .v undef, .v undef, .v undef, .v undef, .v undef, .v undef]) Try.func16 a16_ok rfl ?_; dsimp only [a16])
    (repeat' first
    | with_reducible refine G_seq ?_
    | with_reducible refine G_reg ?_
    | with_reducible refine regW_nil ?_
    | with_reducible refine Nx_code ?_
    | with_reducible refine Nx_blk ?_
    | with_reducible refine Ex_blk ?_
    | with_reducible refine Ex_code ?_
    | with_reducible refine Ex_inv ?_
    | with_reducible refine G_exit ?_
    | with_reducible refine G_block ?_
    | with_reducible refine G_ret ?_
    | with_reducible refine G_skip ?_
    | ((with_reducible refine G_draw mixed (by decide +kernel) ?_))
    | ((with_reducible apply regW_ia0); (focus ((try dsimp only [ev_t, ev_c, getD_zero, getD_succ]); first | done | exact rfl)); (focus (with_unfolding_all exact rfl)); (focus (dsimp only [set_zero, set_succ]; try exact rfl)))
    | ((with_reducible apply regW_tail); (focus ((try dsimp only [ev_t, ev_c, getD_zero, getD_succ]); first | done | exact rfl)); (focus (intro; (with_unfolding_all exact rfl))); (focus (dsimp only [set_zero, set_succ]; try exact rfl)))
    | ((with_reducible apply regW_iaM); (focus (dsimp only [ev_t, ev_c, getD_zero, getD_succ]; try exact rfl)); (focus (dsimp only [ev_t, ev_c, getD_zero, getD_succ]; try exact rfl)); (focus assumption); (focus (with_unfolding_all exact rfl)); (focus (dsimp only [set_zero, set_succ]; try exact rfl)))
    | ((with_reducible apply regW_lenM); (focus (dsimp only [ev_t, ev_c, getD_zero, getD_succ]; try exact rfl)); (focus (dsimp only [set_zero, set_succ]; try exact rfl)))
    | ((with_reducible apply regW_add); (focus (dsimp only [ev_t, ev_c, getD_zero, getD_succ]; try exact rfl)); (focus (dsimp only [ev_t, ev_c, getD_zero, getD_succ]; try exact rfl)); (focus (first | assumption | exact rfl)); (focus (dsimp only [set_zero, set_succ]; try exact rfl)))
    | ((with_reducible apply regW_sub); (focus (dsimp only [ev_t, ev_c, getD_zero, getD_succ]; try exact rfl)); (focus (dsimp only [ev_t, ev_c, getD_zero, getD_succ]; try exact rfl)); (focus (first | assumption | exact rfl)); (focus (dsimp only [set_zero, set_succ]; try exact rfl)))
    | ((with_reducible apply regW_ldE); (focus (dsimp only [ev_t, ev_c, getD_zero, getD_succ]; try exact rfl)); (focus (with_unfolding_all exact rfl)); (focus (dsimp only [set_zero, set_succ]; try exact rfl)))
    | ((with_reducible apply regW_ldB); (focus (dsimp only [ev_t, ev_c, getD_zero, getD_succ]; try exact rfl)); (focus (dsimp only [sidx_zero, sidx_succ]; try exact rfl)); (focus (with_unfolding_all exact rfl)); (focus (dsimp only [set_zero, set_succ]; try exact rfl)))
    | ((with_reducible apply regW_stB); (focus (dsimp only [ev_t, ev_c, getD_zero, getD_succ]; try exact rfl)); (focus (dsimp only [ev_t, ev_c, getD_zero, getD_succ]; try exact rfl)); (focus (dsimp only [sidx_zero, sidx_succ]; try exact rfl)); (focus (with_unfolding_all exact rfl)); (focus (with_unfolding_all exact rfl)); (focus (with_unfolding_all exact rfl)); (focus (dsimp only [set_zero, set_succ]; try exact rfl)))
    | ((with_reducible apply regW_eqT); (focus (dsimp only [ev_t, ev_c, getD_zero, getD_succ]; try exact rfl)); (focus (dsimp only [ev_t, ev_c, getD_zero, getD_succ]; try exact rfl)); (focus (dsimp only [vals?, Cel.enc, Val.enc, Option.map_some]; try exact rfl)); (focus (dsimp only [vals?, Cel.enc, Val.enc, Option.map_some]; try exact rfl)); (focus (first | exact eqVz _ | exact eqzV _ | exact eqV _ _ | exact eqC _ _)); (focus (dsimp only [set_zero, set_succ]; try exact rfl)))
    | ((with_reducible apply regW_neT); (focus (dsimp only [ev_t, ev_c, getD_zero, getD_succ]; try exact rfl)); (focus (dsimp only [ev_t, ev_c, getD_zero, getD_succ]; try exact rfl)); (focus (dsimp only [vals?, Cel.enc, Val.enc, Option.map_some]; try exact rfl)); (focus (dsimp only [vals?, Cel.enc, Val.enc, Option.map_some]; try exact rfl)); (focus (first | exact eqVz _ | exact eqzV _ | exact eqV _ _ | exact eqC _ _)); (focus (dsimp only [set_zero, set_succ]; try exact rfl)))
    | ((with_reducible apply regW_bs1); (focus (dsimp only [ev_t, ev_c, getD_zero, getD_succ]; try exact rfl)); (focus (with_unfolding_all exact rfl)); (focus (with_unfolding_all exact rfl)); (focus (with_unfolding_all exact rfl)); (focus (dsimp only [set_zero, set_succ, List.length_cons, List.length_nil, Nat.reduceAdd]; try exact rfl)); (focus (dsimp only [List.cons_append, List.nil_append]; try exact rfl)))
    | ((with_reducible apply regW_app); (focus (dsimp only [ev_t, ev_c, getD_zero, getD_succ]; try exact rfl)); (focus (dsimp only [sidx_zero, sidx_succ]; try exact rfl)); (focus (with_reducible exact rfl)); (focus (dsimp only [ev_t, ev_c, getD_zero, getD_succ]; try exact rfl)); (focus (dsimp only [sidx_zero, sidx_succ]; try exact rfl)); (focus (with_unfolding_all exact rfl)); (focus assumption); (focus decide); (focus (dsimp only [set_zero, set_succ, List.length_cons, List.length_nil, Nat.reduceAdd]; try exact rfl)); (focus (dsimp only [set_zero, set_succ, List.cons_append, List.nil_append]; try exact rfl)))
    | ((with_reducible apply regW_appE); (focus ((try dsimp only [ev_t, ev_c, getD_zero, getD_succ]); first | done | exact rfl)); (focus ((try dsimp only [ev_t, ev_c, getD_zero, getD_succ]); first | done | exact rfl)); (focus (dsimp only [set_zero, set_succ]; try exact rfl)))
    | ((with_reducible apply regW_appL); (focus ((try dsimp only [ev_t, ev_c, getD_zero, getD_succ]); first | done | exact rfl)); (focus (dsimp only [sidx_zero, sidx_succ]; try exact rfl)); (focus (with_reducible exact rfl)); (focus ((try dsimp only [ev_t, ev_c, getD_zero, getD_succ]); first | done | exact rfl)); (focus assumption); (focus (intros; (with_unfolding_all exact rfl))); (focus assumption); (focus decide); (focus (dsimp only [set_zero, set_succ, List.length_cons, List.length_nil, Nat.reduceAdd]; try exact rfl)); (focus (dsimp only [set_zero, set_succ, List.cons_append, List.nil_append]; try exact rfl)))
    | ((with_reducible apply regW_opS); (focus (dsimp only [semF, ev_t, ev_c, getD_zero, getD_succ, bin_lss, bin_leq, bin_gtr, bin_geq, bin_eql, bin_neq, bin_add, bin_sub, bin_mul, bin_and, bin_shr20, bin_rem20, un_not, cond_true, cond_false, Nat.reduceAdd, Bool.not_true, Bool.not_false, scalar, Bool.and_self, if_true, if_false, Bool.false_eq_true, Option.map_some, AV.cells?, getCells, sidx_zero, sidx_succ, List.length_cons, List.length_nil, List.nil_append, List.cons_append, List.append_nil, List.drop, List.take, splice, Cel.enc, Val.enc]; try exact rfl)); (focus (dsimp only [set_zero, set_succ]; try exact rfl)))
    | ((with_reducible apply regW_op); (focus (dsimp only [semF, ev_t, ev_c, getD_zero, getD_succ, bin_lss, bin_leq, bin_gtr, bin_geq, bin_eql, bin_neq, bin_add, bin_sub, bin_mul, bin_and, bin_shr20, bin_rem20, un_not, cond_true, cond_false, Nat.reduceAdd, Bool.not_true, Bool.not_false, scalar, Bool.and_self, if_true, if_false, Bool.false_eq_true, Option.map_some, AV.cells?, getCells, sidx_zero, sidx_succ, List.length_cons, List.length_nil, List.nil_append, List.cons_append, List.append_nil, List.drop, List.take, splice]; try exact rfl)); (focus (dsimp only [set_zero, set_succ]; try exact rfl)))
    | ((with_reducible apply regW_shut'); (focus (dsimp only [getD_zero, getD_succ]; try (with_reducible exact rfl); done)); (focus (dsimp only [set_zero, set_succ]; try exact rfl)))
    | ((with_reducible apply regW_splitT); (focus (dsimp only [getD_zero, getD_succ]; try exact rfl)); all_goals (intro hc; (try dsimp only [set_zero, set_succ]); (try (with_reducible cases hc)); (try (with_reducible contradiction)); (try rw [hc])))
    | ((with_reducible apply regW_splitF); (focus (dsimp only [getD_zero, getD_succ]; try exact rfl)); all_goals (intro hc; (try dsimp only [set_zero, set_succ]); (try (with_reducible cases hc)); (try (with_reducible contradiction)); (try rw [hc])))
    | ((with_reducible apply regW_opN); (focus (dsimp only [semF, ev_t, ev_c, getD_zero, getD_succ, bin_lss, bin_leq, bin_gtr, bin_geq, bin_eql, bin_neq, bin_add, bin_sub, bin_mul, bin_and, bin_shr20, bin_rem20, un_not, cond_true, cond_false, Nat.reduceAdd, Bool.not_true, Bool.not_false, scalar, Bool.and_self, if_true, if_false, Bool.false_eq_true, Option.map_some, AV.cells?, getCells, sidx_zero, sidx_succ, List.length_cons, List.length_nil, List.nil_append, List.cons_append, List.append_nil, List.drop, List.take, splice, set_zero, set_succ]; try exact rfl)))
    | ((with_reducible apply regW_call); (focus (dsimp only [List.map, ev_t, ev_c, getD_zero, getD_succ]; exact (.lend _ _ rfl c11l (.v _)))); (focus (dsimp only [set_zero, set_succ]; try exact rfl)))
    | ((with_reducible apply G_cond); (focus (dsimp only [ev_t, ev_c, getD_zero, getD_succ]; try exact rfl)); all_goals (intro hc; (try (with_reducible cases hc)); (try (with_reducible contradiction)))))
    exact ⟨_, rfl, .inr (.inr ⟨_, _, rfl, rfl⟩)⟩
  rw [hv] at c11l ⊢
  by_cases hw : writesB w = true
  case neg =>
    rw [Bool.not_eq_true] at hw
    rw [hw] at c13w ⊢
    (refine contract_g (fr := [.vs (l0.map Cel.enc), .vs (w.map Cel.enc), .v undef, .v undef, .v undef, .v undef, .v undef, .v undef, .v undef, .v undef, .v undef, .v undef, .v undef, .v undef, .v undef, .v undef, .v undef, .v undef, .v undef, .v undef, .v undef, .v undef, .v undef, .v undef, .v undef, .v undef, .v undef, .v undef, .v undef, .v undef, .v undef, .v undef, .v undef, .v undef, .v undef, .v undef, .v undef, .v undef, .v undef, .v undef, .v undef, .v undef, .v undef, .v undef, .v undef, .v undef, .v undef, .v undef, .v undef, .v undef, .v undef, .v undef, .v undef, .v undef, .v undef, .v undef, .v undef, .v undef, .v undef, .v undef, .v undef, .v undef, .v undef, .v undef, .v undef, .v undef]) Try.func16 a16_ok rfl ?_; dsimp only [a16])
    (repeat' first
    | with_reducible refine G_seq ?_
    | with_reducible refine G_reg ?_
    | with_reducible refine regW_nil ?_
    | with_reducible refine Nx_code ?_
    | with_reducible refine Nx_blk ?_
    | with_reducible refine Ex_blk ?_
    | with_reducible refine Ex_code ?_
    | with_reducible refine Ex_inv ?_
    | with_reducible refine G_exit ?_
    | with_reducible refine G_block ?_
    | with_reducible refine G_ret ?_
    | with_reducible refine G_skip ?_
    | ((with_reducible refine G_draw mixed (by decide +kernel) ?_))
    | ((with_reducible apply regW_ia0); (focus ((try dsimp only [ev_t, ev_c, getD_zero, getD_succ]); first | done | exact rfl)); (focus (with_unfolding_all exact rfl)); (focus (dsimp only [set_zero, set_succ]; try exact rfl)))
    | ((with_reducible apply regW_tail); (focus ((try dsimp only [ev_t, ev_c, getD_zero, getD_succ]); first | done | exact rfl)); (focus (intro; (with_unfolding_all exact rfl))); (focus (dsimp only [set_zero, set_succ]; try exact rfl)))
    | ((with_reducible apply regW_iaM); (focus (dsimp only [ev_t, ev_c, getD_zero, getD_succ]; try exact rfl)); (focus (dsimp only [ev_t, ev_c, getD_zero, getD_succ]; try exact rfl)); (focus assumption); (focus (with_unfolding_all exact rfl)); (focus (dsimp only [set_zero, set_succ]; try exact rfl)))
    | ((with_reducible apply regW_lenM); (focus (dsimp only [ev_t, ev_c, getD_zero, getD_succ]; try exact rfl)); (focus (dsimp only [set_zero, set_succ]; try exact rfl)))
    | ((with_reducible apply regW_add); (focus (dsimp only [ev_t, ev_c, getD_zero, getD_succ]; try exact rfl)); (focus (dsimp only [ev_t, ev_c, getD_zero, getD_succ]; try exact rfl)); (focus (first | assumption | exact rfl)); (focus (dsimp only [set_zero, set_succ]; try exact rfl)))
    | ((with_reducible apply regW_sub); (focus (dsimp only [ev_t, ev_c, getD_zero, getD_succ]; try exact rfl)); (focus (dsimp only [ev_t, ev_c, getD_zero, getD_succ]; try exact rfl)); (focus (first | assumption | exact rfl)); (focus (dsimp only [set_zero, set_succ]; try exact rfl)))
    | ((with_reducible apply regW_ldE); (focus (dsimp only [ev_t, ev_c, getD_zero, getD_succ]; try exact rfl)); (focus (with_unfolding_all exact rfl)); (focus (dsimp only [set_zero, set_succ]; try exact rfl)))
    | ((with_reducible apply regW_ldB); (focus (dsimp only [ev_t, ev_c, getD_zero, getD_succ]; try exact rfl)); (focus (dsimp only [sidx_zero, sidx_succ]; try exact rfl)); (focus (with_unfolding_all exact rfl)); (focus (dsimp only [set_zero, set_succ]; try exact rfl)))
    | ((with_reducible apply regW_stB); (focus (dsimp only [ev_t, ev_c, getD_zero, getD_succ]; try exact rfl)); (focus (dsimp only [ev_t, ev_c, getD_zero, getD_succ]; try exact rfl)); (focus (dsimp only [sidx_zero, sidx_succ]; try exact rfl)); (focus (with_unfolding_all exact rfl)); (focus (with_unfolding_all exact rfl)); (focus (with_unfolding_all exact rfl)); (focus (dsimp only [set_zero, set_succ]; try exact rfl)))
    | ((with_reducible apply regW_eqT); (focus (dsimp only [ev_t, ev_c, getD_zero, getD_succ]; try exact rfl)); (focus (dsimp only [ev_t, ev_c, getD_zero, getD_succ]; try exact rfl)); (focus (dsimp only [vals?, Cel.enc, Val.enc, Option.map_some]; try exact rfl)); (focus (dsimp only [vals?, Cel.enc, Val.enc, Option.map_some]; try exact rfl)); (focus (first | exact eqVz _ | exact eqzV _ | exact eqV _ _ | exact eqC _ _)); (focus (dsimp only [set_zero, set_succ]; try exact rfl)))
    | ((with_reducible apply regW_neT); (focus (dsimp only [ev_t, ev_c, getD_zero, getD_succ]; try exact rfl)); (focus (dsimp only [ev_t, ev_c, getD_zero, getD_succ]; try exact rfl)); (focus (dsimp only [vals?, Cel.enc, Val.enc, Option.map_some]; try exact rfl)); (focus (dsimp only [vals?, Cel.enc, Val.enc, Option.map_some]; try exact rfl)); (focus (first | exact eqVz _ | exact eqzV _ | exact eqV _ _ | exact eqC _ _)); (focus (dsimp only [set_zero, set_succ]; try exact rfl)))
    | ((with_reducible apply regW_bs1); (focus (dsimp only [ev_t, ev_c, getD_zero, getD_succ]; try exact rfl)); (focus (with_unfolding_all exact rfl)); (focus (with_unfolding_all exact rfl)); (focus (with_unfolding_all exact rfl)); (focus (dsimp only [set_zero, set_succ, List.length_cons, List.length_nil, Nat.reduceAdd]; try exact rfl)); (focus (dsimp only [List.cons_append, List.nil_append]; try exact rfl)))
    | ((with_reducible apply regW_app); (focus (dsimp only [ev_t, ev_c, getD_zero, getD_succ]; try exact rfl)); (focus (dsimp only [sidx_zero, sidx_succ]; try exact rfl)); (focus (with_reducible exact rfl)); (focus (dsimp only [ev_t, ev_c, getD_zero, getD_succ]; try exact rfl)); (focus (dsimp only [sidx_zero, sidx_succ]; try exact rfl)); (focus (with_unfolding_all exact rfl)); (focus assumption); (focus decide); (focus (dsimp only [set_zero, set_succ, List.length_cons, List.length_nil, Nat.reduceAdd]; try exact rfl)); (focus (dsimp only [set_zero, set_succ, List.cons_append, List.nil_append]; try exact rfl)))
    | ((with_reducible apply regW_appE); (focus ((try dsimp only [ev_t, ev_c, getD_zero, getD_succ]); first | done | exact rfl)); (focus ((try dsimp only [ev_t, ev_c, getD_zero, getD_succ]); first | done | exact rfl)); (focus (dsimp only [set_zero, set_succ]; try exact rfl)))
    | ((with_reducible apply regW_appL); (focus ((try dsimp only [ev_t, ev_c, getD_zero, getD_succ]); first | done | exact rfl)); (focus (dsimp only [sidx_zero, sidx_succ]; try exact rfl)); (focus (with_reducible exact rfl)); (focus ((try dsimp only [ev_t, ev_c, getD_zero, getD_succ]); first | done | exact rfl)); (focus assumption); (focus (intros; (with_unfolding_all exact rfl))); (focus assumption); (focus decide); (focus (dsimp only [set_zero, set_succ, List.length_cons, List.length_nil, Nat.reduceAdd]; try exact rfl)); (focus (dsimp only [set_zero, set_succ, List.cons_append, List.nil_append]; try exact rfl)))
    | ((with_reducible apply regW_opS); (focus (dsimp only [semF, ev_t, ev_c, getD_zero, getD_succ, bin_lss, bin_leq, bin_gtr, bin_geq, bin_eql, bin_neq, bin_add, bin_sub, bin_mul, bin_and, bin_shr20, bin_rem20, un_not, cond_true, cond_false, Nat.reduceAdd, Bool.not_true, Bool.not_false, scalar, Bool.and_self, if_true, if_false, Bool.false_eq_true, Option.map_some, AV.cells?, getCells, sidx_zero, sidx_succ, List.length_cons, List.length_nil, List.nil_append, List.cons_append, List.append_nil, List.drop, List.take, splice, Cel.enc, Val.enc]; try exact rfl)); (focus (dsimp only [set_zero, set_succ]; try exact rfl)))
    | ((with_reducible apply regW_op); (focus (dsimp only [semF, ev_t, ev_c, getD_zero, getD_succ, bin_lss, bin_leq, bin_gtr, bin_geq, bin_eql, bin_neq, bin_add, bin_sub, bin_mul, bin_and, bin_shr20, bin_rem20, un_not, cond_true, cond_false, Nat.reduceAdd, Bool.not_true, Bool.not_false, scalar, Bool.and_self, if_true, if_false, Bool.false_eq_true, Option.map_some, AV.cells?, getCells, sidx_zero, sidx_succ, List.length_cons, List.length_nil, List.nil_append, List.cons_append, List.append_nil, List.drop, List.take, splice]; try exact rfl)); (focus (dsimp only [set_zero, set_succ]; try exact rfl)))
    | ((with_reducible apply regW_shut'); (focus (dsimp only [getD_zero, getD_succ]; try (with_reducible exact rfl); done)); (focus (dsimp only [set_zero, set_succ]; try exact rfl)))
    | ((with_reducible apply regW_splitT); (focus (dsimp only [getD_zero, getD_succ]; try exact rfl)); all_goals (intro hc; (try dsimp only [set_zero, set_succ]); (try (with_reducible cases hc)); (try (with_reducible contradiction)); (try rw [hc])))
    | ((with_reducible apply regW_splitF); (focus (dsimp only [getD_zero, getD_succ]; try exact rfl)); all_goals (intro hc; (try dsimp only [set_zero, set_succ]); (try (with_reducible cases hc)); (try (with_reducible contradiction)); (try rw [hc])))
    | ((with_reducible apply regW_opN); (focus (dsimp only [semF, ev_t, ev_c, getD_zero, getD_succ, bin_lss, bin_leq, bin_gtr, bin_geq, bin_eql, bin_neq, bin_add, bin_sub, bin_mul, bin_and, bin_shr20, bin_rem20, un_not, cond_true, cond_false, Nat.reduceAdd, Bool.not_true, Bool.not_false, scalar, Bool.and_self, if_true, if_false, Bool.false_eq_true, Option.map_some, AV.cells?, getCells, sidx_zero, sidx_succ, List.length_cons, List.length_nil, List.nil_append, List.cons_append, List.append_nil, List.drop, List.take, splice, set_zero, set_succ]; try exact rfl)))
    | ((with_reducible apply regW_call); (focus (dsimp only [List.map, ev_t, ev_c, getD_zero, getD_succ]; exact (.lend _ _ rfl c11l (.v _)))); (focus (dsimp only [set_zero, set_succ]; try exact rfl)))
    | ((with_reducible apply regW_call); (focus (dsimp only [List.map, ev_t, ev_c, getD_zero, getD_succ]; exact (.lend _ _ rfl c13w (.v _)))); (focus (dsimp only [set_zero, set_succ]; try exact rfl)))
    | ((with_reducible apply G_cond); (focus (dsimp only [ev_t, ev_c, getD_zero, getD_succ]; try exact rfl)); all_goals (intro hc; (try (with_reducible cases hc)); (try (with_reducible contradiction)))))
    exact ⟨_, rfl, .inr (.inr ⟨_, _, rfl, rfl⟩)⟩
  rw [hw] at c13w ⊢
  rw [Bool.and_self, if_pos rfl]
  obtain ⟨hv1, hv2, hv3⟩ := (valid_iff l0).1 hv
  (refine contract_g (fr := [.vs (l0.map Cel.enc), .vs (w.map Cel.enc), .v undef, .v undef, .v undef, .v undef, .v undef, .v undef, .v undef, .v undef, .v undef, .v undef, .v undef, .v undef, .v undef, .v undef, .v undef, .v undef, .v undef, .v undef, .v undef, .v undef, .v undef, .v undef, .v undef, .v undef, .v undef, .v undef, .v undef, .v undef, .v undef, .v undef, .v undef, .v undef, .v undef, .v undef, .v undef, .v undef, .v undef, .v undef, .v undef, .v undef, .v undef, .v undef, .v undef, .v undef, .v undef, .v undef, .v undef, .v undef, .v undef, .v undef, .v undef, .v undef, .v undef, .v undef, .v undef, .v undef, .v undef, .v undef, .v undef, .v undef, .v undef, .v undef, .v undef, .v undef]) Try.func16 a16_ok rfl ?_; dsimp only [a16])
  (repeat' first
    | with_reducible refine G_seq ?_
    | with_reducible refine G_reg ?_
    | with_reducible refine regW_nil ?_
    | with_reducible refine Nx_code ?_
    | with_reducible refine Nx_blk ?_
    | with_reducible refine Ex_blk ?_
    | with_reducible refine Ex_code ?_
    | with_reducible refine Ex_inv ?_
    | with_reducible refine G_exit ?_
    | with_reducible refine G_block ?_
    | with_reducible refine G_ret ?_
    | with_reducible refine G_skip ?_
    | ((with_reducible refine G_draw mixed (by decide +kernel) ?_))
    | ((with_reducible apply regW_ia0); (focus ((try dsimp only [ev_t, ev_c, getD_zero, getD_succ]); first | done | exact rfl)); (focus (with_unfolding_all exact rfl)); (focus (dsimp only [set_zero, set_succ]; try exact rfl)))
    | ((with_reducible apply regW_tail); (focus ((try dsimp only [ev_t, ev_c, getD_zero, getD_succ]); first | done | exact rfl)); (focus (intro; (with_unfolding_all exact rfl))); (focus (dsimp only [set_zero, set_succ]; try exact rfl)))
    | ((with_reducible apply regW_iaM); (focus (dsimp only [ev_t, ev_c, getD_zero, getD_succ]; try exact rfl)); (focus (dsimp only [ev_t, ev_c, getD_zero, getD_succ]; try exact rfl)); (focus assumption); (focus (with_unfolding_all exact rfl)); (focus (dsimp only [set_zero, set_succ]; try exact rfl)))
    | ((with_reducible apply regW_lenM); (focus (dsimp only [ev_t, ev_c, getD_zero, getD_succ]; try exact rfl)); (focus (dsimp only [set_zero, set_succ]; try exact rfl)))
    | ((with_reducible apply regW_add); (focus (dsimp only [ev_t, ev_c, getD_zero, getD_succ]; try exact rfl)); (focus (dsimp only [ev_t, ev_c, getD_zero, getD_succ]; try exact rfl)); (focus (first | assumption | exact rfl)); (focus (dsimp only [set_zero, set_succ]; try exact rfl)))
    | ((with_reducible apply regW_sub); (focus (dsimp only [ev_t, ev_c, getD_zero, getD_succ]; try exact rfl)); (focus (dsimp only [ev_t, ev_c, getD_zero, getD_succ]; try exact rfl)); (focus (first | assumption | exact rfl)); (focus (dsimp only [set_zero, set_succ]; try exact rfl)))
    | ((with_reducible apply regW_ldE); (focus (dsimp only [ev_t, ev_c, getD_zero, getD_succ]; try exact rfl)); (focus (with_unfolding_all exact rfl)); (focus (dsimp only [set_zero, set_succ]; try exact rfl)))
    | ((with_reducible apply regW_ldB); (focus (dsimp only [ev_t, ev_c, getD_zero, getD_succ]; try exact rfl)); (focus (dsimp only [sidx_zero, sidx_succ]; try exact rfl)); (focus (with_unfolding_all exact rfl)); (focus (dsimp only [set_zero, set_succ]; try exact rfl)))
    | ((with_reducible apply regW_stB); (focus (dsimp only [ev_t, ev_c, getD_zero, getD_succ]; try exact rfl)); (focus (dsimp only [ev_t, ev_c, getD_zero, getD_succ]; try exact rfl)); (focus (dsimp only [sidx_zero, sidx_succ]; try exact rfl)); (focus (with_unfolding_all exact rfl)); (focus (with_unfolding_all exact rfl)); (focus (with_unfolding_all exact rfl)); (focus (dsimp only [set_zero, set_succ]; try exact rfl)))
    | ((with_reducible apply regW_eqT); (focus (dsimp only [ev_t, ev_c, getD_zero, getD_succ]; try exact rfl)); (focus (dsimp only [ev_t, ev_c, getD_zero, getD_succ]; try exact rfl)); (focus (dsimp only [vals?, Cel.enc, Val.enc, Option.map_some]; try exact rfl)); (focus (dsimp only [vals?, Cel.enc, Val.enc, Option.map_some]; try exact rfl)); (focus (first | exact eqVz _ | exact eqzV _ | exact eqV _ _ | exact eqC _ _)); (focus (dsimp only [set_zero, set_succ]; try exact rfl)))
    | ((with_reducible apply regW_neT); (focus (dsimp only [ev_t, ev_c, getD_zero, getD_succ]; try exact rfl)); (focus (dsimp only [ev_t, ev_c, getD_zero, getD_succ]; try exact rfl)); (focus (dsimp only [vals?, Cel.enc, Val.enc, Option.map_some]; try exact rfl)); (focus (dsimp only [vals?, Cel.enc, Val.enc, Option.map_some]; try exact rfl)); (focus (first | exact eqVz _ | exact eqzV _ | exact eqV _ _ | exact eqC _ _)); (focus (dsimp only [set_zero, set_succ]; try exact rfl)))
    | ((with_reducible apply regW_bs1); (focus (dsimp only [ev_t, ev_c, getD_zero, getD_succ]; try exact rfl)); (focus (with_unfolding_all exact rfl)); (focus (with_unfolding_all exact rfl)); (focus (with_unfolding_all exact rfl)); (focus (dsimp only [set_zero, set_succ, List.length_cons, List.length_nil, Nat.reduceAdd]; try exact rfl)); (focus (dsimp only [List.cons_append, List.nil_append]; try exact rfl)))
    | ((with_reducible apply regW_app); (focus (dsimp only [ev_t, ev_c, getD_zero, getD_succ]; try exact rfl)); (focus (dsimp only [sidx_zero, sidx_succ]; try exact rfl)); (focus (with_reducible exact rfl)); (focus (dsimp only [ev_t, ev_c, getD_zero, getD_succ]; try exact rfl)); (focus (dsimp only [sidx_zero, sidx_succ]; try exact rfl)); (focus (with_unfolding_all exact rfl)); (focus assumption); (focus decide); (focus (dsimp only [set_zero, set_succ, List.length_cons, List.length_nil, Nat.reduceAdd]; try exact rfl)); (focus (dsimp only [set_zero, set_succ, List.cons_append, List.nil_append]; try exact rfl)))
    | ((with_reducible apply regW_appE); (focus ((try dsimp only [ev_t, ev_c, getD_zero, getD_succ]); first | done | exact rfl)); (focus ((try dsimp only [ev_t, ev_c, getD_zero, getD_succ]); first | done | exact rfl)); (focus (dsimp only [set_zero, set_succ]; try exact rfl)))
    | ((with_reducible apply regW_appL); (focus ((try dsimp only [ev_t, ev_c, getD_zero, getD_succ]); first | done | exact rfl)); (focus (dsimp only [sidx_zero, sidx_succ]; try exact rfl)); (focus (with_reducible exact rfl)); (focus ((try dsimp only [ev_t, ev_c, getD_zero, getD_succ]); first | done | exact rfl)); (focus assumption); (focus (intros; (with_unfolding_all exact rfl))); (focus assumption); (focus decide); (focus (dsimp only [set_zero, set_succ, List.length_cons, List.length_nil, Nat.reduceAdd]; try exact rfl)); (focus (dsimp only [set_zero, set_succ, List.cons_append, List.nil_append]; try exact rfl)))
    | ((with_reducible apply regW_opS); (focus (dsimp only [semF, ev_t, ev_c, getD_zero, getD_succ, bin_lss, bin_leq, bin_gtr, bin_geq, bin_eql, bin_neq, bin_add, bin_sub, bin_mul, bin_and, bin_shr20, bin_rem20, un_not, cond_true, cond_false, Nat.reduceAdd, Bool.not_true, Bool.not_false, scalar, Bool.and_self, if_true, if_false, Bool.false_eq_true, Option.map_some, AV.cells?, getCells, sidx_zero, sidx_succ, List.length_cons, List.length_nil, List.nil_append, List.cons_append, List.append_nil, List.drop, List.take, splice, Cel.enc, Val.enc]; try exact rfl)); (focus (dsimp only [set_zero, set_succ]; try exact rfl)))
    | ((with_reducible apply regW_op); (focus (dsimp only [semF, ev_t, ev_c, getD_zero, getD_succ, bin_lss, bin_leq, bin_gtr, bin_geq, bin_eql, bin_neq, bin_add, bin_sub, bin_mul, bin_and, bin_shr20, bin_rem20, un_not, cond_true, cond_false, Nat.reduceAdd, Bool.not_true, Bool.not_false, scalar, Bool.and_self, if_true, if_false, Bool.false_eq_true, Option.map_some, AV.cells?, getCells, sidx_zero, sidx_succ, List.length_cons, List.length_nil, List.nil_append, List.cons_append, List.append_nil, List.drop, List.take, splice]; try exact rfl)); (focus (dsimp only [set_zero, set_succ]; try exact rfl)))
    | ((with_reducible apply regW_shut'); (focus (dsimp only [getD_zero, getD_succ]; try (with_reducible exact rfl); done)); (focus (dsimp only [set_zero, set_succ]; try exact rfl)))
    | ((with_reducible apply regW_splitT); (focus (dsimp only [getD_zero, getD_succ]; try exact rfl)); all_goals (intro hc; (try dsimp only [set_zero, set_succ]); (try (with_reducible cases hc)); (try (with_reducible contradiction)); (try rw [hc])))
    | ((with_reducible apply regW_splitF); (focus (dsimp only [getD_zero, getD_succ]; try exact rfl)); all_goals (intro hc; (try dsimp only [set_zero, set_succ]); (try (with_reducible cases hc)); (try (with_reducible contradiction)); (try rw [hc])))
    | ((with_reducible apply regW_opN); (focus (dsimp only [semF, ev_t, ev_c, getD_zero, getD_succ, bin_lss, bin_leq, bin_gtr, bin_geq, bin_eql, bin_neq, bin_add, bin_sub, bin_mul, bin_and, bin_shr20, bin_rem20, un_not, cond_true, cond_false, Nat.reduceAdd, Bool.not_true, Bool.not_false, scalar, Bool.and_self, if_true, if_false, Bool.false_eq_true, Option.map_some, AV.cells?, getCells, sidx_zero, sidx_succ, List.length_cons, List.length_nil, List.nil_append, List.cons_append, List.append_nil, List.drop, List.take, splice, set_zero, set_succ]; try exact rfl)))
    | ((with_reducible apply regW_call); (focus (dsimp only [List.map, ev_t, ev_c, getD_zero, getD_succ]; exact (.lend _ _ rfl c11l (.v _)))); (focus (dsimp only [set_zero, set_succ]; try exact rfl)))
    | ((with_reducible apply regW_call); (focus (dsimp only [List.map, ev_t, ev_c, getD_zero, getD_succ]; exact (.lend _ _ rfl c13w (.v _)))); (focus (dsimp only [set_zero, set_succ]; try exact rfl)))
    | ((with_reducible apply G_cond); (focus (dsimp only [ev_t, ev_c, getD_zero, getD_succ]; try exact rfl)); all_goals (intro hc; (try (with_reducible cases hc)); (try (with_reducible contradiction)))))
  refine G_nil 5 31 6 rfl rfl ?_
  refine G_loopF (fun g : Nat × List Cel × List Cel => ⟨[.vs (g.2.1.map Cel.enc), .und, .und, .und, .und, .own 0 0 g.2.2.length, .und, .und, .und, .und, .und, .und, .und, .und, .und, .und, .vs (w.map Cel.enc), .v (.int .i64 (w.length : Int)), .v (.int .i64 (g.1 : Int)), .und, .und, .und, .und, .und, .und, .und, .und, .und, .und, .und, .und, .und, .und, .und, .und, .und, .und, .und, .und, .und, .und, .und, .und, .und, .und, .und, .und, .und, .und, .und, .und, .und, .und, .und, .und, .und, .und, .und, .und, .und, .und, .und, .und, .und, .und, .und], [.row true 31 6 (g.2.2.map Cel.enc)]⟩) (fun g => g.1 ≤ w.length ∧ g.2.2.length + g.2.1.length ≤ l0.length + g.1 ∧ solidB g.2.1 = true ∧ SortedC g.2.1 ∧ strong (over l0 w) = g.2.2 ++ strong (over g.2.1 (w.drop g.1))) (fun g => w.length - g.1) (0, l0, []) [0] ?_ ⟨by simp, by simp, hv1, hv2, rfl⟩ ?_
  · (refine ⟨by decide, rfl, ?_, ?_⟩ <;> repeat' first
      | exact True.intro
      | ((refine And.intro (Or.inl ?_) ?_); (focus (with_reducible exact rfl)))
      | ((refine And.intro (Or.inr (And.intro ?_ (And.intro rfl rfl))) ?_); (focus (dsimp only [AV.ren, getD_zero, getD_succ]; try (with_reducible exact rfl); done)))
      | (refine And.intro (Or.inr (And.intro ?_ (And.intro rfl rfl))) ?_)
      | (with_reducible exact weakO_row rfl)
      | (refine And.intro (Exists.intro _ (And.intro rfl ?_)) ?_)
      | (refine Exists.intro _ (And.intro rfl ?_))
      | (with_reducible exact rfl))
    all_goals rfl
  · intro ⟨k, l1, acc1⟩ ⟨hk, ha1, hso1, hsr1, hI1⟩
    dsimp only at hk ha1 hso1 hsr1 hI1 ⊢
    by_cases hlt : k < w.length
    · have hck : w[k]? = some w[k] := List.getElem?_eq_getElem hlt
      generalize w[k] = c at hck
      have hd : ¬ (decide ((k : Int) < (w.length : Int)) = false) := by simp; omega
      have hw1 := wrap_succ k (by omega)
      (repeat' first
    | with_reducible refine G_seq ?_
    | with_reducible refine G_reg ?_
    | with_reducible refine regW_nil ?_
    | with_reducible refine Nx_code ?_
    | with_reducible refine Nx_blk ?_
    | with_reducible refine Ex_blk ?_
    | with_reducible refine Ex_code ?_
    | with_reducible refine Ex_inv ?_
    | with_reducible refine G_exit ?_
    | with_reducible refine G_block ?_
    | with_reducible refine G_ret ?_
    | with_reducible refine G_skip ?_
    | ((with_reducible refine G_draw mixed (by decide +kernel) ?_))
    | ((with_reducible apply regW_ia0); (focus ((try dsimp only [ev_t, ev_c, getD_zero, getD_succ]); first | done | exact rfl)); (focus (with_unfolding_all exact rfl)); (focus (dsimp only [set_zero, set_succ]; try exact rfl)))
    | ((with_reducible apply regW_tail); (focus ((try dsimp only [ev_t, ev_c, getD_zero, getD_succ]); first | done | exact rfl)); (focus (intro; (with_unfolding_all exact rfl))); (focus (dsimp only [set_zero, set_succ]; try exact rfl)))
    | ((with_reducible apply regW_iaM); (focus (dsimp only [ev_t, ev_c, getD_zero, getD_succ]; try exact rfl)); (focus (dsimp only [ev_t, ev_c, getD_zero, getD_succ]; try exact rfl)); (focus assumption); (focus (with_unfolding_all exact rfl)); (focus (dsimp only [set_zero, set_succ]; try exact rfl)))
    | ((with_reducible apply regW_lenM); (focus (dsimp only [ev_t, ev_c, getD_zero, getD_succ]; try exact rfl)); (focus (dsimp only [set_zero, set_succ]; try exact rfl)))
    | ((with_reducible apply regW_add); (focus (dsimp only [ev_t, ev_c, getD_zero, getD_succ]; try exact rfl)); (focus (dsimp only [ev_t, ev_c, getD_zero, getD_succ]; try exact rfl)); (focus (first | assumption | exact rfl)); (focus (dsimp only [set_zero, set_succ]; try exact rfl)))
    | ((with_reducible apply regW_sub); (focus (dsimp only [ev_t, ev_c, getD_zero, getD_succ]; try exact rfl)); (focus (dsimp only [ev_t, ev_c, getD_zero, getD_succ]; try exact rfl)); (focus (first | assumption | exact rfl)); (focus (dsimp only [set_zero, set_succ]; try exact rfl)))
    | ((with_reducible apply regW_ldE); (focus (dsimp only [ev_t, ev_c, getD_zero, getD_succ]; try exact rfl)); (focus (with_unfolding_all exact rfl)); (focus (dsimp only [set_zero, set_succ]; try exact rfl)))
    | ((with_reducible apply regW_ldB); (focus (dsimp only [ev_t, ev_c, getD_zero, getD_succ]; try exact rfl)); (focus (dsimp only [sidx_zero, sidx_succ]; try exact rfl)); (focus (with_unfolding_all exact rfl)); (focus (dsimp only [set_zero, set_succ]; try exact rfl)))
    | ((with_reducible apply regW_stB); (focus (dsimp only [ev_t, ev_c, getD_zero, getD_succ]; try exact rfl)); (focus (dsimp only [ev_t, ev_c, getD_zero, getD_succ]; try exact rfl)); (focus (dsimp only [sidx_zero, sidx_succ]; try exact rfl)); (focus (with_unfolding_all exact rfl)); (focus (with_unfolding_all exact rfl)); (focus (with_unfolding_all exact rfl)); (focus (dsimp only [set_zero, set_succ]; try exact rfl)))
    | ((with_reducible apply regW_eqT); (focus (dsimp only [ev_t, ev_c, getD_zero, getD_succ]; try exact rfl)); (focus (dsimp only [ev_t, ev_c, getD_zero, getD_succ]; try exact rfl)); (focus (dsimp only [vals?, Cel.enc, Val.enc, Option.map_some]; try exact rfl)); (focus (dsimp only [vals?, Cel.enc, Val.enc, Option.map_some]; try exact rfl)); (focus (first | exact eqVz _ | exact eqzV _ | exact eqV _ _ | exact eqC _ _)); (focus (dsimp only [set_zero, set_succ]; try exact rfl)))
    | ((with_reducible apply regW_neT); (focus (dsimp only [ev_t, ev_c, getD_zero, getD_succ]; try exact rfl)); (focus (dsimp only [ev_t, ev_c, getD_zero, getD_succ]; try exact rfl)); (focus (dsimp only [vals?, Cel.enc, Val.enc, Option.map_some]; try exact rfl)); (focus (dsimp only [vals?, Cel.enc, Val.enc, Option.map_some]; try exact rfl)); (focus (first | exact eqVz _ | exact eqzV _ | exact eqV _ _ | exact eqC _ _)); (focus (dsimp only [set_zero, set_succ]; try exact rfl)))
    | ((with_reducible apply regW_bs1); (focus (dsimp only [ev_t, ev_c, getD_zero, getD_succ]; try exact rfl)); (focus (with_unfolding_all exact rfl)); (focus (with_unfolding_all exact rfl)); (focus (with_unfolding_all exact rfl)); (focus (dsimp only [set_zero, set_succ, List.length_cons, List.length_nil, Nat.reduceAdd]; try exact rfl)); (focus (dsimp only [List.cons_append, List.nil_append]; try exact rfl)))
    | ((with_reducible apply regW_app); (focus (dsimp only [ev_t, ev_c, getD_zero, getD_succ]; try exact rfl)); (focus (dsimp only [sidx_zero, sidx_succ]; try exact rfl)); (focus (with_reducible exact rfl)); (focus (dsimp only [ev_t, ev_c, getD_zero, getD_succ]; try exact rfl)); (focus (dsimp only [sidx_zero, sidx_succ]; try exact rfl)); (focus (with_unfolding_all exact rfl)); (focus assumption); (focus decide); (focus (dsimp only [set_zero, set_succ, List.length_cons, List.length_nil, Nat.reduceAdd]; try exact rfl)); (focus (dsimp only [set_zero, set_succ, List.cons_append, List.nil_append]; try exact rfl)))
    | ((with_reducible apply regW_appE); (focus ((try dsimp only [ev_t, ev_c, getD_zero, getD_succ]); first | done | exact rfl)); (focus ((try dsimp only [ev_t, ev_c, getD_zero, getD_succ]); first | done | exact rfl)); (focus (dsimp only [set_zero, set_succ]; try exact rfl)))
    | ((with_reducible apply regW_appL); (focus ((try dsimp only [ev_t, ev_c, getD_zero, getD_succ]); first | done | exact rfl)); (focus (dsimp only [sidx_zero, sidx_succ]; try exact rfl)); (focus (with_reducible exact rfl)); (focus ((try dsimp only [ev_t, ev_c, getD_zero, getD_succ]); first | done | exact rfl)); (focus assumption); (focus (intros; (with_unfolding_all exact rfl))); (focus assumption); (focus decide); (focus (dsimp only [set_zero, set_succ, List.length_cons, List.length_nil, Nat.reduceAdd]; try exact rfl)); (focus (dsimp only [set_zero, set_succ, List.cons_append, List.nil_append]; try exact rfl)))
    | ((with_reducible apply regW_opS); (focus (dsimp only [semF, ev_t, ev_c, getD_zero, getD_succ, bin_lss, bin_leq, bin_gtr, bin_geq, bin_eql, bin_neq, bin_add, bin_sub, bin_mul, bin_and, bin_shr20, bin_rem20, un_not, cond_true, cond_false, Nat.reduceAdd, Bool.not_true, Bool.not_false, scalar, Bool.and_self, if_true, if_false, Bool.false_eq_true, Option.map_some, AV.cells?, getCells, sidx_zero, sidx_succ, List.length_cons, List.length_nil, List.nil_append, List.cons_append, List.append_nil, List.drop, List.take, splice, Cel.enc, Val.enc]; try exact rfl)); (focus (dsimp only [set_zero, set_succ]; try exact rfl)))
    | ((with_reducible apply regW_op); (focus (dsimp only [semF, ev_t, ev_c, getD_zero, getD_succ, bin_lss, bin_leq, bin_gtr, bin_geq, bin_eql, bin_neq, bin_add, bin_sub, bin_mul, bin_and, bin_shr20, bin_rem20, un_not, cond_true, cond_false, Nat.reduceAdd, Bool.not_true, Bool.not_false, scalar, Bool.and_self, if_true, if_false, Bool.false_eq_true, Option.map_some, AV.cells?, getCells, sidx_zero, sidx_succ, List.length_cons, List.length_nil, List.nil_append, List.cons_append, List.append_nil, List.drop, List.take, splice]; try exact rfl)); (focus (dsimp only [set_zero, set_succ]; try exact rfl)))
    | ((with_reducible apply regW_shut'); (focus (dsimp only [getD_zero, getD_succ]; try (with_reducible exact rfl); done)); (focus (dsimp only [set_zero, set_succ]; try exact rfl)))
    | ((with_reducible apply regW_splitT); (focus (dsimp only [getD_zero, getD_succ]; try exact rfl)); all_goals (intro hc; (try dsimp only [set_zero, set_succ]); (try (with_reducible cases hc)); (try (with_reducible contradiction)); (try rw [hc])))
    | ((with_reducible apply regW_splitF); (focus (dsimp only [getD_zero, getD_succ]; try exact rfl)); all_goals (intro hc; (try dsimp only [set_zero, set_succ]); (try (with_reducible cases hc)); (try (with_reducible contradiction)); (try rw [hc])))
    | ((with_reducible apply regW_opN); (focus (dsimp only [semF, ev_t, ev_c, getD_zero, getD_succ, bin_lss, bin_leq, bin_gtr, bin_geq, bin_eql, bin_neq, bin_add, bin_sub, bin_mul, bin_and, bin_shr20, bin_rem20, un_not, cond_true, cond_false, Nat.reduceAdd, Bool.not_true, Bool.not_false, scalar, Bool.and_self, if_true, if_false, Bool.false_eq_true, Option.map_some, AV.cells?, getCells, sidx_zero, sidx_succ, List.length_cons, List.length_nil, List.nil_append, List.cons_append, List.append_nil, List.drop, List.take, splice, set_zero, set_succ]; try exact rfl)))
    | ((with_reducible apply G_cond); (focus (dsimp only [ev_t, ev_c, getD_zero, getD_succ]; try exact rfl)); all_goals (intro hc; (try (with_reducible cases hc)); (try (with_reducible contradiction)))))
      rw [drop_at hck] at hI1
      refine G_loopF (fun g : List Cel × List Cel => ⟨[.vs (g.1.map Cel.enc), .und, .und, .und, .und, .own 0 0 g.2.length, .und, .ptr 1 0, .und, .und, .und, .und, .und, .und, .und, .und, .vs (w.map Cel.enc), .v (.int .i64 (w.length : Int)), .v (.int .i64 (k : Int)), .und, .und, .und, .und, .und, .und, .und, .und, .und, .und, .und, .und, .und, .und, .und, .und, .und, .und, .und, .und, .und, .und, .und, .und, .und, .und, .und, .und, .und, .und, .und, .und, .und, .und, .und, .und, .und, .und, .und, .und, .und, .und, .und, .und, .und, .und, .und], [.row true 31 6 (g.2.map Cel.enc), .blk 31 c.enc]⟩) (fun g => g.2.length + g.1.length ≤ l0.length + k ∧ solidB g.1 = true ∧ SortedC g.1 ∧ strong (over l0 w) = g.2 ++ strong (over g.1 (c :: w.drop (k + 1)))) (fun g => g.1.length) (l1, acc1) [0, 1] ?_ ⟨(by first | omega | (dsimp only; omega) | (simp; omega) | (simp only [List.length_append, List.length_cons, List.length_nil]; omega)), hso1, hsr1, hI1⟩ ?_
      · (refine ⟨by decide, rfl, ?_, ?_⟩ <;> repeat' first
      | exact True.intro
      | ((refine And.intro (Or.inl ?_) ?_); (focus (with_reducible exact rfl)))
      | ((refine And.intro (Or.inr (And.intro ?_ (And.intro rfl rfl))) ?_); (focus (dsimp only [AV.ren, getD_zero, getD_succ]; try (with_reducible exact rfl); done)))
      | (refine And.intro (Or.inr (And.intro ?_ (And.intro rfl rfl))) ?_)
      | (with_reducible exact weakO_row rfl)
      | (refine And.intro (Exists.intro _ (And.intro rfl ?_)) ?_)
      | (refine Exists.intro _ (And.intro rfl ?_))
      | (with_reducible exact rfl))
        all_goals rfl
      · clear hI1 hsr1 hso1 ha1
        intro ⟨l, acc⟩ ⟨ha, hso, hsr, hI⟩
        dsimp only at ha hso hsr hI ⊢
        have hroom : (acc.length + 1) * 56 ≤ maxRow := by unfold maxRow; omega
        cases l with
        | nil =>
          have hd5 : ¬ (decide ((0 : Int) < (([] : List Cel).length : Int)) = true) := by simp
          rw [over_nil_l, strong_cons] at hI
          (repeat' first
    | with_reducible refine G_seq ?_
    | with_reducible refine G_reg ?_
    | with_reducible refine regW_nil ?_
    | with_reducible refine Nx_code ?_
    | with_reducible refine Nx_blk ?_
    | with_reducible refine Ex_blk ?_
    | with_reducible refine Ex_code ?_
    | with_reducible refine Ex_inv ?_
    | with_reducible refine G_exit ?_
    | with_reducible refine G_block ?_
    | with_reducible refine G_ret ?_
    | with_reducible refine G_skip ?_
    | ((with_reducible refine G_draw mixed (by decide +kernel) ?_))
    | ((with_reducible apply regW_ia0); (focus ((try dsimp only [ev_t, ev_c, getD_zero, getD_succ]); first | done | exact rfl)); (focus (with_unfolding_all exact rfl)); (focus (dsimp only [set_zero, set_succ]; try exact rfl)))
    | ((with_reducible apply regW_tail); (focus ((try dsimp only [ev_t, ev_c, getD_zero, getD_succ]); first | done | exact rfl)); (focus (intro; (with_unfolding_all exact rfl))); (focus (dsimp only [set_zero, set_succ]; try exact rfl)))
    | ((with_reducible apply regW_iaM); (focus (dsimp only [ev_t, ev_c, getD_zero, getD_succ]; try exact rfl)); (focus (dsimp only [ev_t, ev_c, getD_zero, getD_succ]; try exact rfl)); (focus assumption); (focus (with_unfolding_all exact rfl)); (focus (dsimp only [set_zero, set_succ]; try exact rfl)))
    | ((with_reducible apply regW_lenM); (focus (dsimp only [ev_t, ev_c, getD_zero, getD_succ]; try exact rfl)); (focus (dsimp only [set_zero, set_succ]; try exact rfl)))
    | ((with_reducible apply regW_add); (focus (dsimp only [ev_t, ev_c, getD_zero, getD_succ]; try exact rfl)); (focus (dsimp only [ev_t, ev_c, getD_zero, getD_succ]; try exact rfl)); (focus (first | assumption | exact rfl)); (focus (dsimp only [set_zero, set_succ]; try exact rfl)))
    | ((with_reducible apply regW_sub); (focus (dsimp only [ev_t, ev_c, getD_zero, getD_succ]; try exact rfl)); (focus (dsimp only [ev_t, ev_c, getD_zero, getD_succ]; try exact rfl)); (focus (first | assumption | exact rfl)); (focus (dsimp only [set_zero, set_succ]; try exact rfl)))
    | ((with_reducible apply regW_ldE); (focus (dsimp only [ev_t, ev_c, getD_zero, getD_succ]; try exact rfl)); (focus (with_unfolding_all exact rfl)); (focus (dsimp only [set_zero, set_succ]; try exact rfl)))
    | ((with_reducible apply regW_ldB); (focus (dsimp only [ev_t, ev_c, getD_zero, getD_succ]; try exact rfl)); (focus (dsimp only [sidx_zero, sidx_succ]; try exact rfl)); (focus (with_unfolding_all exact rfl)); (focus (dsimp only [set_zero, set_succ]; try exact rfl)))
    | ((with_reducible apply regW_stB); (focus (dsimp only [ev_t, ev_c, getD_zero, getD_succ]; try exact rfl)); (focus (dsimp only [ev_t, ev_c, getD_zero, getD_succ]; try exact rfl)); (focus (dsimp only [sidx_zero, sidx_succ]; try exact rfl)); (focus (with_unfolding_all exact rfl)); (focus (with_unfolding_all exact rfl)); (focus (with_unfolding_all exact rfl)); (focus (dsimp only [set_zero, set_succ]; try exact rfl)))
    | ((with_reducible apply regW_eqT); (focus (dsimp only [ev_t, ev_c, getD_zero, getD_succ]; try exact rfl)); (focus (dsimp only [ev_t, ev_c, getD_zero, getD_succ]; try exact rfl)); (focus (dsimp only [vals?, Cel.enc, Val.enc, Option.map_some]; try exact rfl)); (focus (dsimp only [vals?, Cel.enc, Val.enc, Option.map_some]; try exact rfl)); (focus (first | exact eqVz _ | exact eqzV _ | exact eqV _ _ | exact eqC _ _)); (focus (dsimp only [set_zero, set_succ]; try exact rfl)))
    | ((with_reducible apply regW_neT); (focus (dsimp only [ev_t, ev_c, getD_zero, getD_succ]; try exact rfl)); (focus (dsimp only [ev_t, ev_c, getD_zero, getD_succ]; try exact rfl)); (focus (dsimp only [vals?, Cel.enc, Val.enc, Option.map_some]; try exact rfl)); (focus (dsimp only [vals?, Cel.enc, Val.enc, Option.map_some]; try exact rfl)); (focus (first | exact eqVz _ | exact eqzV _ | exact eqV _ _ | exact eqC _ _)); (focus (dsimp only [set_zero, set_succ]; try exact rfl)))
    | ((with_reducible apply regW_bs1); (focus (dsimp only [ev_t, ev_c, getD_zero, getD_succ]; try exact rfl)); (focus (with_unfolding_all exact rfl)); (focus (with_unfolding_all exact rfl)); (focus (with_unfolding_all exact rfl)); (focus (dsimp only [set_zero, set_succ, List.length_cons, List.length_nil, Nat.reduceAdd]; try exact rfl)); (focus (dsimp only [List.cons_append, List.nil_append]; try exact rfl)))
    | ((with_reducible apply regW_app); (focus (dsimp only [ev_t, ev_c, getD_zero, getD_succ]; try exact rfl)); (focus (dsimp only [sidx_zero, sidx_succ]; try exact rfl)); (focus (with_reducible exact rfl)); (focus (dsimp only [ev_t, ev_c, getD_zero, getD_succ]; try exact rfl)); (focus (dsimp only [sidx_zero, sidx_succ]; try exact rfl)); (focus (with_unfolding_all exact rfl)); (focus assumption); (focus decide); (focus (dsimp only [set_zero, set_succ, List.length_cons, List.length_nil, Nat.reduceAdd]; try exact rfl)); (focus (dsimp only [set_zero, set_succ, List.cons_append, List.nil_append]; try exact rfl)))
    | ((with_reducible apply regW_appE); (focus ((try dsimp only [ev_t, ev_c, getD_zero, getD_succ]); first | done | exact rfl)); (focus ((try dsimp only [ev_t, ev_c, getD_zero, getD_succ]); first | done | exact rfl)); (focus (dsimp only [set_zero, set_succ]; try exact rfl)))
    | ((with_reducible apply regW_appL); (focus ((try dsimp only [ev_t, ev_c, getD_zero, getD_succ]); first | done | exact rfl)); (focus (dsimp only [sidx_zero, sidx_succ]; try exact rfl)); (focus (with_reducible exact rfl)); (focus ((try dsimp only [ev_t, ev_c, getD_zero, getD_succ]); first | done | exact rfl)); (focus assumption); (focus (intros; (with_unfolding_all exact rfl))); (focus assumption); (focus decide); (focus (dsimp only [set_zero, set_succ, List.length_cons, List.length_nil, Nat.reduceAdd]; try exact rfl)); (focus (dsimp only [set_zero, set_succ, List.cons_append, List.nil_append]; try exact rfl)))
    | ((with_reducible apply regW_opS); (focus (dsimp only [semF, ev_t, ev_c, getD_zero, getD_succ, bin_lss, bin_leq, bin_gtr, bin_geq, bin_eql, bin_neq, bin_add, bin_sub, bin_mul, bin_and, bin_shr20, bin_rem20, un_not, cond_true, cond_false, Nat.reduceAdd, Bool.not_true, Bool.not_false, scalar, Bool.and_self, if_true, if_false, Bool.false_eq_true, Option.map_some, AV.cells?, getCells, sidx_zero, sidx_succ, List.length_cons, List.length_nil, List.nil_append, List.cons_append, List.append_nil, List.drop, List.take, splice, Cel.enc, Val.enc]; try exact rfl)); (focus (dsimp only [set_zero, set_succ]; try exact rfl)))
    | ((with_reducible apply regW_op); (focus (dsimp only [semF, ev_t, ev_c, getD_zero, getD_succ, bin_lss, bin_leq, bin_gtr, bin_geq, bin_eql, bin_neq, bin_add, bin_sub, bin_mul, bin_and, bin_shr20, bin_rem20, un_not, cond_true, cond_false, Nat.reduceAdd, Bool.not_true, Bool.not_false, scalar, Bool.and_self, if_true, if_false, Bool.false_eq_true, Option.map_some, AV.cells?, getCells, sidx_zero, sidx_succ, List.length_cons, List.length_nil, List.nil_append, List.cons_append, List.append_nil, List.drop, List.take, splice]; try exact rfl)); (focus (dsimp only [set_zero, set_succ]; try exact rfl)))
    | ((with_reducible apply regW_shut'); (focus (dsimp only [getD_zero, getD_succ]; try (with_reducible exact rfl); done)); (focus (dsimp only [set_zero, set_succ]; try exact rfl)))
    | ((with_reducible apply regW_splitT); (focus (dsimp only [getD_zero, getD_succ]; try exact rfl)); all_goals (intro hc; (try dsimp only [set_zero, set_succ]); (try (with_reducible cases hc)); (try (with_reducible contradiction)); (try rw [hc])))
    | ((with_reducible apply regW_splitF); (focus (dsimp only [getD_zero, getD_succ]; try exact rfl)); all_goals (intro hc; (try dsimp only [set_zero, set_succ]); (try (with_reducible cases hc)); (try (with_reducible contradiction)); (try rw [hc])))
    | ((with_reducible apply regW_opN); (focus (dsimp only [semF, ev_t, ev_c, getD_zero, getD_succ, bin_lss, bin_leq, bin_gtr, bin_geq, bin_eql, bin_neq, bin_add, bin_sub, bin_mul, bin_and, bin_shr20, bin_rem20, un_not, cond_true, cond_false, Nat.reduceAdd, Bool.not_true, Bool.not_false, scalar, Bool.and_self, if_true, if_false, Bool.false_eq_true, Option.map_some, AV.cells?, getCells, sidx_zero, sidx_succ, List.length_cons, List.length_nil, List.nil_append, List.cons_append, List.append_nil, List.drop, List.take, splice, set_zero, set_succ]; try exact rfl)))
    | ((with_reducible apply G_cond); (focus (dsimp only [ev_t, ev_c, getD_zero, getD_succ]; try exact rfl)); all_goals (intro hc; (try (with_reducible cases hc)); (try (with_reducible contradiction)))))
          all_goals first
            | (refine Nx_inv ⟨(k + 1, [], acc ++ [c]), [3], ?_, ⟨(by first | omega | (dsimp only; omega) | (simp; omega) | (simp only [List.length_append, List.length_cons, List.length_nil]; omega)), (by simp at ha ⊢; omega), rfl, .nil, ?_⟩, (by first | omega | (dsimp only; omega) | (simp; omega) | (simp only [List.length_append, List.length_cons, List.length_nil]; omega))⟩; (focus ((refine ⟨by decide, rfl, ?_, ?_⟩ <;> repeat' first
      | exact True.intro
      | ((refine And.intro (Or.inl ?_) ?_); (focus (with_reducible exact rfl)))
      | ((refine And.intro (Or.inr (And.intro ?_ (And.intro rfl rfl))) ?_); (focus (dsimp only [AV.ren, getD_zero, getD_succ]; try (with_reducible exact rfl); done)))
      | (refine And.intro (Or.inr (And.intro ?_ (And.intro rfl rfl))) ?_)
      | (with_reducible exact weakO_row rfl)
      | (refine And.intro (Exists.intro _ (And.intro rfl ?_)) ?_)
      | (refine Exists.intro _ (And.intro rfl ?_))
      | (with_reducible exact rfl)) <;> fail)); (rw [hI, over_nil_l]; clear hI; simp_all; done))
            | (refine Nx_inv ⟨(k + 1, [], acc), [0], ?_, ⟨(by first | omega | (dsimp only; omega) | (simp; omega) | (simp only [List.length_append, List.length_cons, List.length_nil]; omega)), (by simp at ha ⊢; omega), rfl, .nil, ?_⟩, (by first | omega | (dsimp only; omega) | (simp; omega) | (simp only [List.length_append, List.length_cons, List.length_nil]; omega))⟩; (focus ((refine ⟨by decide, rfl, ?_, ?_⟩ <;> repeat' first
      | exact True.intro
      | ((refine And.intro (Or.inl ?_) ?_); (focus (with_reducible exact rfl)))
      | ((refine And.intro (Or.inr (And.intro ?_ (And.intro rfl rfl))) ?_); (focus (dsimp only [AV.ren, getD_zero, getD_succ]; try (with_reducible exact rfl); done)))
      | (refine And.intro (Or.inr (And.intro ?_ (And.intro rfl rfl))) ?_)
      | (with_reducible exact weakO_row rfl)
      | (refine And.intro (Exists.intro _ (And.intro rfl ?_)) ?_)
      | (refine Exists.intro _ (And.intro rfl ?_))
      | (with_reducible exact rfl)) <;> fail)); (rw [hI, over_nil_l]; clear hI; simp_all; done))
        | cons x l =>
          have hd5 : ¬ (decide ((0 : Int) < ((l.length + 1 : Nat) : Int)) = false) := by rw [decide_eq_false_iff_not]; omega
          have hcn := cmp_neg x c
          have hcz := cmp_zero x c
          rw [solid_cons, Bool.and_eq_true] at hso
          obtain ⟨hso1, hso2⟩ := hso
          have hsr2 := (List.pairwise_cons.1 hsr).2
          by_cases hxc : lt x c = true
          · rw [over_cons, if_pos hxc, strong_cons, if_pos hso1] at hI
            rw [hxc] at hcn
            have hd6 : ¬ (decide (cmpC x c < 0) = false) := by rw [hcn]; simp
            (repeat' first
    | with_reducible refine G_seq ?_
    | with_reducible refine G_reg ?_
    | with_reducible refine regW_nil ?_
    | with_reducible refine Nx_code ?_
    | with_reducible refine Nx_blk ?_
    | with_reducible refine Ex_blk ?_
    | with_reducible refine Ex_code ?_
    | with_reducible refine Ex_inv ?_
    | with_reducible refine G_exit ?_
    | with_reducible refine G_block ?_
    | with_reducible refine G_ret ?_
    | with_reducible refine G_skip ?_
    | ((with_reducible refine G_draw mixed (by decide +kernel) ?_))
    | ((with_reducible apply regW_ia0); (focus ((try dsimp only [ev_t, ev_c, getD_zero, getD_succ]); first | done | exact rfl)); (focus (with_unfolding_all exact rfl)); (focus (dsimp only [set_zero, set_succ]; try exact rfl)))
    | ((with_reducible apply regW_tail); (focus ((try dsimp only [ev_t, ev_c, getD_zero, getD_succ]); first | done | exact rfl)); (focus (intro; (with_unfolding_all exact rfl))); (focus (dsimp only [set_zero, set_succ]; try exact rfl)))
    | ((with_reducible apply regW_iaM); (focus (dsimp only [ev_t, ev_c, getD_zero, getD_succ]; try exact rfl)); (focus (dsimp only [ev_t, ev_c, getD_zero, getD_succ]; try exact rfl)); (focus assumption); (focus (with_unfolding_all exact rfl)); (focus (dsimp only [set_zero, set_succ]; try exact rfl)))
    | ((with_reducible apply regW_lenM); (focus (dsimp only [ev_t, ev_c, getD_zero, getD_succ]; try exact rfl)); (focus (dsimp only [set_zero, set_succ]; try exact rfl)))
    | ((with_reducible apply regW_add); (focus (dsimp only [ev_t, ev_c, getD_zero, getD_succ]; try exact rfl)); (focus (dsimp only [ev_t, ev_c, getD_zero, getD_succ]; try exact rfl)); (focus (first | assumption | exact rfl)); (focus (dsimp only [set_zero, set_succ]; try exact rfl)))
    | ((with_reducible apply regW_sub); (focus (dsimp only [ev_t, ev_c, getD_zero, getD_succ]; try exact rfl)); (focus (dsimp only [ev_t, ev_c, getD_zero, getD_succ]; try exact rfl)); (focus (first | assumption | exact rfl)); (focus (dsimp only [set_zero, set_succ]; try exact rfl)))
    | ((with_reducible apply regW_ldE); (focus (dsimp only [ev_t, ev_c, getD_zero, getD_succ]; try exact rfl)); (focus (with_unfolding_all exact rfl)); (focus (dsimp only [set_zero, set_succ]; try exact rfl)))
    | ((with_reducible apply regW_ldB); (focus (dsimp only [ev_t, ev_c, getD_zero, getD_succ]; try exact rfl)); (focus (dsimp only [sidx_zero, sidx_succ]; try exact rfl)); (focus (with_unfolding_all exact rfl)); (focus (dsimp only [set_zero, set_succ]; try exact rfl)))
    | ((with_reducible apply regW_stB); (focus (dsimp only [ev_t, ev_c, getD_zero, getD_succ]; try exact rfl)); (focus (dsimp only [ev_t, ev_c, getD_zero, getD_succ]; try exact rfl)); (focus (dsimp only [sidx_zero, sidx_succ]; try exact rfl)); (focus (with_unfolding_all exact rfl)); (focus (with_unfolding_all exact rfl)); (focus (with_unfolding_all exact rfl)); (focus (dsimp only [set_zero, set_succ]; try exact rfl)))
    | ((with_reducible apply regW_eqT); (focus (dsimp only [ev_t, ev_c, getD_zero, getD_succ]; try exact rfl)); (focus (dsimp only [ev_t, ev_c, getD_zero, getD_succ]; try exact rfl)); (focus (dsimp only [vals?, Cel.enc, Val.enc, Option.map_some]; try exact rfl)); (focus (dsimp only [vals?, Cel.enc, Val.enc, Option.map_some]; try exact rfl)); (focus (first | exact eqVz _ | exact eqzV _ | exact eqV _ _ | exact eqC _ _)); (focus (dsimp only [set_zero, set_succ]; try exact rfl)))
    | ((with_reducible apply regW_neT); (focus (dsimp only [ev_t, ev_c, getD_zero, getD_succ]; try exact rfl)); (focus (dsimp only [ev_t, ev_c, getD_zero, getD_succ]; try exact rfl)); (focus (dsimp only [vals?, Cel.enc, Val.enc, Option.map_some]; try exact rfl)); (focus (dsimp only [vals?, Cel.enc, Val.enc, Option.map_some]; try exact rfl)); (focus (first | exact eqVz _ | exact eqzV _ | exact eqV _ _ | exact eqC _ _)); (focus (dsimp only [set_zero, set_succ]; try exact rfl)))
    | ((with_reducible apply regW_bs1); (focus (dsimp only [ev_t, ev_c, getD_zero, getD_succ]; try exact rfl)); (focus (with_unfolding_all exact rfl)); (focus (with_unfolding_all exact rfl)); (focus (with_unfolding_all exact rfl)); (focus (dsimp only [set_zero, set_succ, List.length_cons, List.length_nil, Nat.reduceAdd]; try exact rfl)); (focus (dsimp only [List.cons_append, List.nil_append]; try exact rfl)))
    | ((with_reducible apply regW_app); (focus (dsimp only [ev_t, ev_c, getD_zero, getD_succ]; try exact rfl)); (focus (dsimp only [sidx_zero, sidx_succ]; try exact rfl)); (focus (with_reducible exact rfl)); (focus (dsimp only [ev_t, ev_c, getD_zero, getD_succ]; try exact rfl)); (focus (dsimp only [sidx_zero, sidx_succ]; try exact rfl)); (focus (with_unfolding_all exact rfl)); (focus assumption); (focus decide); (focus (dsimp only [set_zero, set_succ, List.length_cons, List.length_nil, Nat.reduceAdd]; try exact rfl)); (focus (dsimp only [set_zero, set_succ, List.cons_append, List.nil_append]; try exact rfl)))
    | ((with_reducible apply regW_appE); (focus ((try dsimp only [ev_t, ev_c, getD_zero, getD_succ]); first | done | exact rfl)); (focus ((try dsimp only [ev_t, ev_c, getD_zero, getD_succ]); first | done | exact rfl)); (focus (dsimp only [set_zero, set_succ]; try exact rfl)))
    | ((with_reducible apply regW_appL); (focus ((try dsimp only [ev_t, ev_c, getD_zero, getD_succ]); first | done | exact rfl)); (focus (dsimp only [sidx_zero, sidx_succ]; try exact rfl)); (focus (with_reducible exact rfl)); (focus ((try dsimp only [ev_t, ev_c, getD_zero, getD_succ]); first | done | exact rfl)); (focus assumption); (focus (intros; (with_unfolding_all exact rfl))); (focus assumption); (focus decide); (focus (dsimp only [set_zero, set_succ, List.length_cons, List.length_nil, Nat.reduceAdd]; try exact rfl)); (focus (dsimp only [set_zero, set_succ, List.cons_append, List.nil_append]; try exact rfl)))
    | ((with_reducible apply regW_opS); (focus (dsimp only [semF, ev_t, ev_c, getD_zero, getD_succ, bin_lss, bin_leq, bin_gtr, bin_geq, bin_eql, bin_neq, bin_add, bin_sub, bin_mul, bin_and, bin_shr20, bin_rem20, un_not, cond_true, cond_false, Nat.reduceAdd, Bool.not_true, Bool.not_false, scalar, Bool.and_self, if_true, if_false, Bool.false_eq_true, Option.map_some, AV.cells?, getCells, sidx_zero, sidx_succ, List.length_cons, List.length_nil, List.nil_append, List.cons_append, List.append_nil, List.drop, List.take, splice, Cel.enc, Val.enc]; try exact rfl)); (focus (dsimp only [set_zero, set_succ]; try exact rfl)))
    | ((with_reducible apply regW_op); (focus (dsimp only [semF, ev_t, ev_c, getD_zero, getD_succ, bin_lss, bin_leq, bin_gtr, bin_geq, bin_eql, bin_neq, bin_add, bin_sub, bin_mul, bin_and, bin_shr20, bin_rem20, un_not, cond_true, cond_false, Nat.reduceAdd, Bool.not_true, Bool.not_false, scalar, Bool.and_self, if_true, if_false, Bool.false_eq_true, Option.map_some, AV.cells?, getCells, sidx_zero, sidx_succ, List.length_cons, List.length_nil, List.nil_append, List.cons_append, List.append_nil, List.drop, List.take, splice]; try exact rfl)); (focus (dsimp only [set_zero, set_succ]; try exact rfl)))
    | ((with_reducible apply regW_shut'); (focus (dsimp only [getD_zero, getD_succ]; try (with_reducible exact rfl); done)); (focus (dsimp only [set_zero, set_succ]; try exact rfl)))
    | ((with_reducible apply regW_splitT); (focus (dsimp only [getD_zero, getD_succ]; try exact rfl)); all_goals (intro hc; (try dsimp only [set_zero, set_succ]); (try (with_reducible cases hc)); (try (with_reducible contradiction)); (try rw [hc])))
    | ((with_reducible apply regW_splitF); (focus (dsimp only [getD_zero, getD_succ]; try exact rfl)); all_goals (intro hc; (try dsimp only [set_zero, set_succ]); (try (with_reducible cases hc)); (try (with_reducible contradiction)); (try rw [hc])))
    | ((with_reducible apply regW_opN); (focus (dsimp only [semF, ev_t, ev_c, getD_zero, getD_succ, bin_lss, bin_leq, bin_gtr, bin_geq, bin_eql, bin_neq, bin_add, bin_sub, bin_mul, bin_and, bin_shr20, bin_rem20, un_not, cond_true, cond_false, Nat.reduceAdd, Bool.not_true, Bool.not_false, scalar, Bool.and_self, if_true, if_false, Bool.false_eq_true, Option.map_some, AV.cells?, getCells, sidx_zero, sidx_succ, List.length_cons, List.length_nil, List.nil_append, List.cons_append, List.append_nil, List.drop, List.take, splice, set_zero, set_succ]; try exact rfl)))
    | ((with_reducible apply regW_call); (focus (dsimp only [List.map, ev_t, ev_c, getD_zero, getD_succ]; exact (.lend _ _ rfl (c27 _ _) (.v _)))); (focus (dsimp only [set_zero, set_succ]; try exact rfl)))
    | ((with_reducible apply G_cond); (focus (dsimp only [ev_t, ev_c, getD_zero, getD_succ]; try exact rfl)); all_goals (intro hc; (try (with_reducible cases hc)); (try (with_reducible contradiction)))))
            refine Nx_inv ⟨(l, acc ++ [x]), [3, 1], ?_, ⟨(by simp at ha ⊢; omega), hso2, hsr2, ?_⟩, (by first | omega | (dsimp only; omega) | (simp; omega) | (simp only [List.length_append, List.length_cons, List.length_nil]; omega))⟩
            · (refine ⟨by decide, rfl, ?_, ?_⟩ <;> repeat' first
      | exact True.intro
      | ((refine And.intro (Or.inl ?_) ?_); (focus (with_reducible exact rfl)))
      | ((refine And.intro (Or.inr (And.intro ?_ (And.intro rfl rfl))) ?_); (focus (dsimp only [AV.ren, getD_zero, getD_succ]; try (with_reducible exact rfl); done)))
      | (refine And.intro (Or.inr (And.intro ?_ (And.intro rfl rfl))) ?_)
      | (with_reducible exact weakO_row rfl)
      | (refine And.intro (Exists.intro _ (And.intro rfl ?_)) ?_)
      | (refine Exists.intro _ (And.intro rfl ?_))
      | (with_reducible exact rfl))
            · rw [hI]; simp
          · rw [Bool.not_eq_true] at hxc
            rw [hxc] at hcn
            have hd6 : ¬ (decide (cmpC x c < 0) = true) := by rw [hcn]; simp
            by_cases hrc : regB x c = true
            · rw [over_head hsr hrc, strong_cons] at hI
              rw [hrc] at hcz
              have hd7 : ¬ ((cmpC x c == 0) = false) := by rw [hcz]; simp
              (repeat' first
    | with_reducible refine G_seq ?_
    | with_reducible refine G_reg ?_
    | with_reducible refine regW_nil ?_
    | with_reducible refine Nx_code ?_
    | with_reducible refine Nx_blk ?_
    | with_reducible refine Ex_blk ?_
    | with_reducible refine Ex_code ?_
    | with_reducible refine Ex_inv ?_
    | with_reducible refine G_exit ?_
    | with_reducible refine G_block ?_
    | with_reducible refine G_ret ?_
    | with_reducible refine G_skip ?_
    | ((with_reducible refine G_draw mixed (by decide +kernel) ?_))
    | ((with_reducible apply regW_ia0); (focus ((try dsimp only [ev_t, ev_c, getD_zero, getD_succ]); first | done | exact rfl)); (focus (with_unfolding_all exact rfl)); (focus (dsimp only [set_zero, set_succ]; try exact rfl)))
    | ((with_reducible apply regW_tail); (focus ((try dsimp only [ev_t, ev_c, getD_zero, getD_succ]); first | done | exact rfl)); (focus (intro; (with_unfolding_all exact rfl))); (focus (dsimp only [set_zero, set_succ]; try exact rfl)))
    | ((with_reducible apply regW_iaM); (focus (dsimp only [ev_t, ev_c, getD_zero, getD_succ]; try exact rfl)); (focus (dsimp only [ev_t, ev_c, getD_zero, getD_succ]; try exact rfl)); (focus assumption); (focus (with_unfolding_all exact rfl)); (focus (dsimp only [set_zero, set_succ]; try exact rfl)))
    | ((with_reducible apply regW_lenM); (focus (dsimp only [ev_t, ev_c, getD_zero, getD_succ]; try exact rfl)); (focus (dsimp only [set_zero, set_succ]; try exact rfl)))
    | ((with_reducible apply regW_add); (focus (dsimp only [ev_t, ev_c, getD_zero, getD_succ]; try exact rfl)); (focus (dsimp only [ev_t, ev_c, getD_zero, getD_succ]; try exact rfl)); (focus (first | assumption | exact rfl)); (focus (dsimp only [set_zero, set_succ]; try exact rfl)))
    | ((with_reducible apply regW_sub); (focus (dsimp only [ev_t, ev_c, getD_zero, getD_succ]; try exact rfl)); (focus (dsimp only [ev_t, ev_c, getD_zero, getD_succ]; try exact rfl)); (focus (first | assumption | exact rfl)); (focus (dsimp only [set_zero, set_succ]; try exact rfl)))
    | ((with_reducible apply regW_ldE); (focus (dsimp only [ev_t, ev_c, getD_zero, getD_succ]; try exact rfl)); (focus (with_unfolding_all exact rfl)); (focus (dsimp only [set_zero, set_succ]; try exact rfl)))
    | ((with_reducible apply regW_ldB); (focus (dsimp only [ev_t, ev_c, getD_zero, getD_succ]; try exact rfl)); (focus (dsimp only [sidx_zero, sidx_succ]; try exact rfl)); (focus (with_unfolding_all exact rfl)); (focus (dsimp only [set_zero, set_succ]; try exact rfl)))
    | ((with_reducible apply regW_stB); (focus (dsimp only [ev_t, ev_c, getD_zero, getD_succ]; try exact rfl)); (focus (dsimp only [ev_t, ev_c, getD_zero, getD_succ]; try exact rfl)); (focus (dsimp only [sidx_zero, sidx_succ]; try exact rfl)); (focus (with_unfolding_all exact rfl)); (focus (with_unfolding_all exact rfl)); (focus (with_unfolding_all exact rfl)); (focus (dsimp only [set_zero, set_succ]; try exact rfl)))
    | ((with_reducible apply regW_eqT); (focus (dsimp only [ev_t, ev_c, getD_zero, getD_succ]; try exact rfl)); (focus (dsimp only [ev_t, ev_c, getD_zero, getD_succ]; try exact rfl)); (focus (dsimp only [vals?, Cel.enc, Val.enc, Option.map_some]; try exact rfl)); (focus (dsimp only [vals?, Cel.enc, Val.enc, Option.map_some]; try exact rfl)); (focus (first | exact eqVz _ | exact eqzV _ | exact eqV _ _ | exact eqC _ _)); (focus (dsimp only [set_zero, set_succ]; try exact rfl)))
    | ((with_reducible apply regW_neT); (focus (dsimp only [ev_t, ev_c, getD_zero, getD_succ]; try exact rfl)); (focus (dsimp only [ev_t, ev_c, getD_zero, getD_succ]; try exact rfl)); (focus (dsimp only [vals?, Cel.enc, Val.enc, Option.map_some]; try exact rfl)); (focus (dsimp only [vals?, Cel.enc, Val.enc, Option.map_some]; try exact rfl)); (focus (first | exact eqVz _ | exact eqzV _ | exact eqV _ _ | exact eqC _ _)); (focus (dsimp only [set_zero, set_succ]; try exact rfl)))
    | ((with_reducible apply regW_bs1); (focus (dsimp only [ev_t, ev_c, getD_zero, getD_succ]; try exact rfl)); (focus (with_unfolding_all exact rfl)); (focus (with_unfolding_all exact rfl)); (focus (with_unfolding_all exact rfl)); (focus (dsimp only [set_zero, set_succ, List.length_cons, List.length_nil, Nat.reduceAdd]; try exact rfl)); (focus (dsimp only [List.cons_append, List.nil_append]; try exact rfl)))
    | ((with_reducible apply regW_app); (focus (dsimp only [ev_t, ev_c, getD_zero, getD_succ]; try exact rfl)); (focus (dsimp only [sidx_zero, sidx_succ]; try exact rfl)); (focus (with_reducible exact rfl)); (focus (dsimp only [ev_t, ev_c, getD_zero, getD_succ]; try exact rfl)); (focus (dsimp only [sidx_zero, sidx_succ]; try exact rfl)); (focus (with_unfolding_all exact rfl)); (focus assumption); (focus decide); (focus (dsimp only [set_zero, set_succ, List.length_cons, List.length_nil, Nat.reduceAdd]; try exact rfl)); (focus (dsimp only [set_zero, set_succ, List.cons_append, List.nil_append]; try exact rfl)))
    | ((with_reducible apply regW_appE); (focus ((try dsimp only [ev_t, ev_c, getD_zero, getD_succ]); first | done | exact rfl)); (focus ((try dsimp only [ev_t, ev_c, getD_zero, getD_succ]); first | done | exact rfl)); (focus (dsimp only [set_zero, set_succ]; try exact rfl)))
    | ((with_reducible apply regW_appL); (focus ((try dsimp only [ev_t, ev_c, getD_zero, getD_succ]); first | done | exact rfl)); (focus (dsimp only [sidx_zero, sidx_succ]; try exact rfl)); (focus (with_reducible exact rfl)); (focus ((try dsimp only [ev_t, ev_c, getD_zero, getD_succ]); first | done | exact rfl)); (focus assumption); (focus (intros; (with_unfolding_all exact rfl))); (focus assumption); (focus decide); (focus (dsimp only [set_zero, set_succ, List.length_cons, List.length_nil, Nat.reduceAdd]; try exact rfl)); (focus (dsimp only [set_zero, set_succ, List.cons_append, List.nil_append]; try exact rfl)))
    | ((with_reducible apply regW_opS); (focus (dsimp only [semF, ev_t, ev_c, getD_zero, getD_succ, bin_lss, bin_leq, bin_gtr, bin_geq, bin_eql, bin_neq, bin_add, bin_sub, bin_mul, bin_and, bin_shr20, bin_rem20, un_not, cond_true, cond_false, Nat.reduceAdd, Bool.not_true, Bool.not_false, scalar, Bool.and_self, if_true, if_false, Bool.false_eq_true, Option.map_some, AV.cells?, getCells, sidx_zero, sidx_succ, List.length_cons, List.length_nil, List.nil_append, List.cons_append, List.append_nil, List.drop, List.take, splice, Cel.enc, Val.enc]; try exact rfl)); (focus (dsimp only [set_zero, set_succ]; try exact rfl)))
    | ((with_reducible apply regW_op); (focus (dsimp only [semF, ev_t, ev_c, getD_zero, getD_succ, bin_lss, bin_leq, bin_gtr, bin_geq, bin_eql, bin_neq, bin_add, bin_sub, bin_mul, bin_and, bin_shr20, bin_rem20, un_not, cond_true, cond_false, Nat.reduceAdd, Bool.not_true, Bool.not_false, scalar, Bool.and_self, if_true, if_false, Bool.false_eq_true, Option.map_some, AV.cells?, getCells, sidx_zero, sidx_succ, List.length_cons, List.length_nil, List.nil_append, List.cons_append, List.append_nil, List.drop, List.take, splice]; try exact rfl)); (focus (dsimp only [set_zero, set_succ]; try exact rfl)))
    | ((with_reducible apply regW_shut'); (focus (dsimp only [getD_zero, getD_succ]; try (with_reducible exact rfl); done)); (focus (dsimp only [set_zero, set_succ]; try exact rfl)))
    | ((with_reducible apply regW_splitT); (focus (dsimp only [getD_zero, getD_succ]; try exact rfl)); all_goals (intro hc; (try dsimp only [set_zero, set_succ]); (try (with_reducible cases hc)); (try (with_reducible contradiction)); (try rw [hc])))
    | ((with_reducible apply regW_splitF); (focus (dsimp only [getD_zero, getD_succ]; try exact rfl)); all_goals (intro hc; (try dsimp only [set_zero, set_succ]); (try (with_reducible cases hc)); (try (with_reducible contradiction)); (try rw [hc])))
    | ((with_reducible apply regW_opN); (focus (dsimp only [semF, ev_t, ev_c, getD_zero, getD_succ, bin_lss, bin_leq, bin_gtr, bin_geq, bin_eql, bin_neq, bin_add, bin_sub, bin_mul, bin_and, bin_shr20, bin_rem20, un_not, cond_true, cond_false, Nat.reduceAdd, Bool.not_true, Bool.not_false, scalar, Bool.and_self, if_true, if_false, Bool.false_eq_true, Option.map_some, AV.cells?, getCells, sidx_zero, sidx_succ, List.length_cons, List.length_nil, List.nil_append, List.cons_append, List.append_nil, List.drop, List.take, splice, set_zero, set_succ]; try exact rfl)))
    | ((with_reducible apply regW_call); (focus (dsimp only [List.map, ev_t, ev_c, getD_zero, getD_succ]; exact (.lend _ _ rfl (c27 _ _) (.v _)))); (focus (dsimp only [set_zero, set_succ]; try exact rfl)))
    | ((with_reducible apply G_cond); (focus (dsimp only [ev_t, ev_c, getD_zero, getD_succ]; try exact rfl)); all_goals (intro hc; (try (with_reducible cases hc)); (try (with_reducible contradiction)))))
              all_goals first
                | (refine Nx_inv ⟨(k + 1, l, acc ++ [c]), [3], ?_, ⟨(by first | omega | (dsimp only; omega) | (simp; omega) | (simp only [List.length_append, List.length_cons, List.length_nil]; omega)), (by simp at ha ⊢; omega), hso2, hsr2, ?_⟩, (by first | omega | (dsimp only; omega) | (simp; omega) | (simp only [List.length_append, List.length_cons, List.length_nil]; omega))⟩; (focus ((refine ⟨by decide, rfl, ?_, ?_⟩ <;> repeat' first
      | exact True.intro
      | ((refine And.intro (Or.inl ?_) ?_); (focus (with_reducible exact rfl)))
      | ((refine And.intro (Or.inr (And.intro ?_ (And.intro rfl rfl))) ?_); (focus (dsimp only [AV.ren, getD_zero, getD_succ]; try (with_reducible exact rfl); done)))
      | (refine And.intro (Or.inr (And.intro ?_ (And.intro rfl rfl))) ?_)
      | (with_reducible exact weakO_row rfl)
      | (refine And.intro (Exists.intro _ (And.intro rfl ?_)) ?_)
      | (refine Exists.intro _ (And.intro rfl ?_))
      | (with_reducible exact rfl)) <;> fail)); (rw [hI]; clear hI; simp_all; done))
                | (refine Nx_inv ⟨(k + 1, l, acc), [0], ?_, ⟨(by first | omega | (dsimp only; omega) | (simp; omega) | (simp only [List.length_append, List.length_cons, List.length_nil]; omega)), (by simp at ha ⊢; omega), hso2, hsr2, ?_⟩, (by first | omega | (dsimp only; omega) | (simp; omega) | (simp only [List.length_append, List.length_cons, List.length_nil]; omega))⟩; (focus ((refine ⟨by decide, rfl, ?_, ?_⟩ <;> repeat' first
      | exact True.intro
      | ((refine And.intro (Or.inl ?_) ?_); (focus (with_reducible exact rfl)))
      | ((refine And.intro (Or.inr (And.intro ?_ (And.intro rfl rfl))) ?_); (focus (dsimp only [AV.ren, getD_zero, getD_succ]; try (with_reducible exact rfl); done)))
      | (refine And.intro (Or.inr (And.intro ?_ (And.intro rfl rfl))) ?_)
      | (with_reducible exact weakO_row rfl)
      | (refine And.intro (Exists.intro _ (And.intro rfl ?_)) ?_)
      | (refine Exists.intro _ (And.intro rfl ?_))
      | (with_reducible exact rfl)) <;> fail)); (rw [hI]; clear hI; simp_all; done))
            · rw [over_cons, hxc, if_neg (by simp), if_neg hrc, strong_cons] at hI
              rw [Bool.not_eq_true] at hrc
              rw [hrc] at hcz
              have hd7 : ¬ ((cmpC x c == 0) = true) := by rw [hcz]; simp
              have hso3 : solidB (x :: l) = true := by rw [solid_cons, hso1, hso2]; rfl
              (repeat' first
    | with_reducible refine G_seq ?_
    | with_reducible refine G_reg ?_
    | with_reducible refine regW_nil ?_
    | with_reducible refine Nx_code ?_
    | with_reducible refine Nx_blk ?_
    | with_reducible refine Ex_blk ?_
    | with_reducible refine Ex_code ?_
    | with_reducible refine Ex_inv ?_
    | with_reducible refine G_exit ?_
    | with_reducible refine G_block ?_
    | with_reducible refine G_ret ?_
    | with_reducible refine G_skip ?_
    | ((with_reducible refine G_draw mixed (by decide +kernel) ?_))
    | ((with_reducible apply regW_ia0); (focus ((try dsimp only [ev_t, ev_c, getD_zero, getD_succ]); first | done | exact rfl)); (focus (with_unfolding_all exact rfl)); (focus (dsimp only [set_zero, set_succ]; try exact rfl)))
    | ((with_reducible apply regW_tail); (focus ((try dsimp only [ev_t, ev_c, getD_zero, getD_succ]); first | done | exact rfl)); (focus (intro; (with_unfolding_all exact rfl))); (focus (dsimp only [set_zero, set_succ]; try exact rfl)))
    | ((with_reducible apply regW_iaM); (focus (dsimp only [ev_t, ev_c, getD_zero, getD_succ]; try exact rfl)); (focus (dsimp only [ev_t, ev_c, getD_zero, getD_succ]; try exact rfl)); (focus assumption); (focus (with_unfolding_all exact rfl)); (focus (dsimp only [set_zero, set_succ]; try exact rfl)))
    | ((with_reducible apply regW_lenM); (focus (dsimp only [ev_t, ev_c, getD_zero, getD_succ]; try exact rfl)); (focus (dsimp only [set_zero, set_succ]; try exact rfl)))
    | ((with_reducible apply regW_add); (focus (dsimp only [ev_t, ev_c, getD_zero, getD_succ]; try exact rfl)); (focus (dsimp only [ev_t, ev_c, getD_zero, getD_succ]; try exact rfl)); (focus (first | assumption | exact rfl)); (focus (dsimp only [set_zero, set_succ]; try exact rfl)))
    | ((with_reducible apply regW_sub); (focus (dsimp only [ev_t, ev_c, getD_zero, getD_succ]; try exact rfl)); (focus (dsimp only [ev_t, ev_c, getD_zero, getD_succ]; try exact rfl)); (focus (first | assumption | exact rfl)); (focus (dsimp only [set_zero, set_succ]; try exact rfl)))
    | ((with_reducible apply regW_ldE); (focus (dsimp only [ev_t, ev_c, getD_zero, getD_succ]; try exact rfl)); (focus (with_unfolding_all exact rfl)); (focus (dsimp only [set_zero, set_succ]; try exact rfl)))
    | ((with_reducible apply regW_ldB); (focus (dsimp only [ev_t, ev_c, getD_zero, getD_succ]; try exact rfl)); (focus (dsimp only [sidx_zero, sidx_succ]; try exact rfl)); (focus (with_unfolding_all exact rfl)); (focus (dsimp only [set_zero, set_succ]; try exact rfl)))
    | ((with_reducible apply regW_stB); (focus (dsimp only [ev_t, ev_c, getD_zero, getD_succ]; try exact rfl)); (focus (dsimp only [ev_t, ev_c, getD_zero, getD_succ]; try exact rfl)); (focus (dsimp only [sidx_zero, sidx_succ]; try exact rfl)); (focus (with_unfolding_all exact rfl)); (focus (with_unfolding_all exact rfl)); (focus (with_unfolding_all exact rfl)); (focus (dsimp only [set_zero, set_succ]; try exact rfl)))
    | ((with_reducible apply regW_eqT); (focus (dsimp only [ev_t, ev_c, getD_zero, getD_succ]; try exact rfl)); (focus (dsimp only [ev_t, ev_c, getD_zero, getD_succ]; try exact rfl)); (focus (dsimp only [vals?, Cel.enc, Val.enc, Option.map_some]; try exact rfl)); (focus (dsimp only [vals?, Cel.enc, Val.enc, Option.map_some]; try exact rfl)); (focus (first | exact eqVz _ | exact eqzV _ | exact eqV _ _ | exact eqC _ _)); (focus (dsimp only [set_zero, set_succ]; try exact rfl)))
    | ((with_reducible apply regW_neT); (focus (dsimp only [ev_t, ev_c, getD_zero, getD_succ]; try exact rfl)); (focus (dsimp only [ev_t, ev_c, getD_zero, getD_succ]; try exact rfl)); (focus (dsimp only [vals?, Cel.enc, Val.enc, Option.map_some]; try exact rfl)); (focus (dsimp only [vals?, Cel.enc, Val.enc, Option.map_some]; try exact rfl)); (focus (first | exact eqVz _ | exact eqzV _ | exact eqV _ _ | exact eqC _ _)); (focus (dsimp only [set_zero, set_succ]; try exact rfl)))
    | ((with_reducible apply regW_bs1); (focus (dsimp only [ev_t, ev_c, getD_zero, getD_succ]; try exact rfl)); (focus (with_unfolding_all exact rfl)); (focus (with_unfolding_all exact rfl)); (focus (with_unfolding_all exact rfl)); (focus (dsimp only [set_zero, set_succ, List.length_cons, List.length_nil, Nat.reduceAdd]; try exact rfl)); (focus (dsimp only [List.cons_append, List.nil_append]; try exact rfl)))
    | ((with_reducible apply regW_app); (focus (dsimp only [ev_t, ev_c, getD_zero, getD_succ]; try exact rfl)); (focus (dsimp only [sidx_zero, sidx_succ]; try exact rfl)); (focus (with_reducible exact rfl)); (focus (dsimp only [ev_t, ev_c, getD_zero, getD_succ]; try exact rfl)); (focus (dsimp only [sidx_zero, sidx_succ]; try exact rfl)); (focus (with_unfolding_all exact rfl)); (focus assumption); (focus decide); (focus (dsimp only [set_zero, set_succ, List.length_cons, List.length_nil, Nat.reduceAdd]; try exact rfl)); (focus (dsimp only [set_zero, set_succ, List.cons_append, List.nil_append]; try exact rfl)))
    | ((with_reducible apply regW_appE); (focus ((try dsimp only [ev_t, ev_c, getD_zero, getD_succ]); first | done | exact rfl)); (focus ((try dsimp only [ev_t, ev_c, getD_zero, getD_succ]); first | done | exact rfl)); (focus (dsimp only [set_zero, set_succ]; try exact rfl)))
    | ((with_reducible apply regW_appL); (focus ((try dsimp only [ev_t, ev_c, getD_zero, getD_succ]); first | done | exact rfl)); (focus (dsimp only [sidx_zero, sidx_succ]; try exact rfl)); (focus (with_reducible exact rfl)); (focus ((try dsimp only [ev_t, ev_c, getD_zero, getD_succ]); first | done | exact rfl)); (focus assumption); (focus (intros; (with_unfolding_all exact rfl))); (focus assumption); (focus decide); (focus (dsimp only [set_zero, set_succ, List.length_cons, List.length_nil, Nat.reduceAdd]; try exact rfl)); (focus (dsimp only [set_zero, set_succ, List.cons_append, List.nil_append]; try exact rfl)))
    | ((with_reducible apply regW_opS); (focus (dsimp only [semF, ev_t, ev_c, getD_zero, getD_succ, bin_lss, bin_leq, bin_gtr, bin_geq, bin_eql, bin_neq, bin_add, bin_sub, bin_mul, bin_and, bin_shr20, bin_rem20, un_not, cond_true, cond_false, Nat.reduceAdd, Bool.not_true, Bool.not_false, scalar, Bool.and_self, if_true, if_false, Bool.false_eq_true, Option.map_some, AV.cells?, getCells, sidx_zero, sidx_succ, List.length_cons, List.length_nil, List.nil_append, List.cons_append, List.append_nil, List.drop, List.take, splice, Cel.enc, Val.enc]; try exact rfl)); (focus (dsimp only [set_zero, set_succ]; try exact rfl)))
    | ((with_reducible apply regW_op); (focus (dsimp only [semF, ev_t, ev_c, getD_zero, getD_succ, bin_lss, bin_leq, bin_gtr, bin_geq, bin_eql, bin_neq, bin_add, bin_sub, bin_mul, bin_and, bin_shr20, bin_rem20, un_not, cond_true, cond_false, Nat.reduceAdd, Bool.not_true, Bool.not_false, scalar, Bool.and_self, if_true, if_false, Bool.false_eq_true, Option.map_some, AV.cells?, getCells, sidx_zero, sidx_succ, List.length_cons, List.length_nil, List.nil_append, List.cons_append, List.append_nil, List.drop, List.take, splice]; try exact rfl)); (focus (dsimp only [set_zero, set_succ]; try exact rfl)))
    | ((with_reducible apply regW_shut'); (focus (dsimp only [getD_zero, getD_succ]; try (with_reducible exact rfl); done)); (focus (dsimp only [set_zero, set_succ]; try exact rfl)))
    | ((with_reducible apply regW_splitT); (focus (dsimp only [getD_zero, getD_succ]; try exact rfl)); all_goals (intro hc; (try dsimp only [set_zero, set_succ]); (try (with_reducible cases hc)); (try (with_reducible contradiction)); (try rw [hc])))
    | ((with_reducible apply regW_splitF); (focus (dsimp only [getD_zero, getD_succ]; try exact rfl)); all_goals (intro hc; (try dsimp only [set_zero, set_succ]); (try (with_reducible cases hc)); (try (with_reducible contradiction)); (try rw [hc])))
    | ((with_reducible apply regW_opN); (focus (dsimp only [semF, ev_t, ev_c, getD_zero, getD_succ, bin_lss, bin_leq, bin_gtr, bin_geq, bin_eql, bin_neq, bin_add, bin_sub, bin_mul, bin_and, bin_shr20, bin_rem20, un_not, cond_true, cond_false, Nat.reduceAdd, Bool.not_true, Bool.not_false, scalar, Bool.and_self, if_true, if_false, Bool.false_eq_true, Option.map_some, AV.cells?, getCells, sidx_zero, sidx_succ, List.length_cons, List.length_nil, List.nil_append, List.cons_append, List.append_nil, List.drop, List.take, splice, set_zero, set_succ]; try exact rfl)))
    | ((with_reducible apply regW_call); (focus (dsimp only [List.map, ev_t, ev_c, getD_zero, getD_succ]; exact (.lend _ _ rfl (c27 _ _) (.v _)))); (focus (dsimp only [set_zero, set_succ]; try exact rfl)))
    | ((with_reducible apply G_cond); (focus (dsimp only [ev_t, ev_c, getD_zero, getD_succ]; try exact rfl)); all_goals (intro hc; (try (with_reducible cases hc)); (try (with_reducible contradiction)))))
              all_goals first
                | (refine Nx_inv ⟨(k + 1, x :: l, acc ++ [c]), [3], ?_, ⟨(by first | omega | (dsimp only; omega) | (simp; omega) | (simp only [List.length_append, List.length_cons, List.length_nil]; omega)), (by simp at ha ⊢; omega), hso3, hsr, ?_⟩, (by first | omega | (dsimp only; omega) | (simp; omega) | (simp only [List.length_append, List.length_cons, List.length_nil]; omega))⟩; (focus ((refine ⟨by decide, rfl, ?_, ?_⟩ <;> repeat' first
      | exact True.intro
      | ((refine And.intro (Or.inl ?_) ?_); (focus (with_reducible exact rfl)))
      | ((refine And.intro (Or.inr (And.intro ?_ (And.intro rfl rfl))) ?_); (focus (dsimp only [AV.ren, getD_zero, getD_succ]; try (with_reducible exact rfl); done)))
      | (refine And.intro (Or.inr (And.intro ?_ (And.intro rfl rfl))) ?_)
      | (with_reducible exact weakO_row rfl)
      | (refine And.intro (Exists.intro _ (And.intro rfl ?_)) ?_)
      | (refine Exists.intro _ (And.intro rfl ?_))
      | (with_reducible exact rfl)) <;> fail)); (rw [hI]; clear hI; simp_all; done))
                | (refine Nx_inv ⟨(k + 1, x :: l, acc), [0], ?_, ⟨(by first | omega | (dsimp only; omega) | (simp; omega) | (simp only [List.length_append, List.length_cons, List.length_nil]; omega)), (by simp at ha ⊢; omega), hso3, hsr, ?_⟩, (by first | omega | (dsimp only; omega) | (simp; omega) | (simp only [List.length_append, List.length_cons, List.length_nil]; omega))⟩; (focus ((refine ⟨by decide, rfl, ?_, ?_⟩ <;> repeat' first
      | exact True.intro
      | ((refine And.intro (Or.inl ?_) ?_); (focus (with_reducible exact rfl)))
      | ((refine And.intro (Or.inr (And.intro ?_ (And.intro rfl rfl))) ?_); (focus (dsimp only [AV.ren, getD_zero, getD_succ]; try (with_reducible exact rfl); done)))
      | (refine And.intro (Or.inr (And.intro ?_ (And.intro rfl rfl))) ?_)
      | (with_reducible exact weakO_row rfl)
      | (refine And.intro (Exists.intro _ (And.intro rfl ?_)) ?_)
      | (refine Exists.intro _ (And.intro rfl ?_))
      | (with_reducible exact rfl)) <;> fail)); (rw [hI]; clear hI; simp_all; done))
    · have hd : ¬ (decide ((k : Int) < (w.length : Int)) = true) := by simp; omega
      rw [List.drop_eq_nil_of_le (by omega), over_nil_r, strong_solid hso1] at hI1
      rw [hI1]
      have hroom : (acc1.length + l1.length) * 56 ≤ maxRow := by unfold maxRow; omega
      by_cases hl1 : l1 = []
      · subst hl1
        (repeat' first
    | with_reducible refine G_seq ?_
    | with_reducible refine G_reg ?_
    | with_reducible refine regW_nil ?_
    | with_reducible refine Nx_code ?_
    | with_reducible refine Nx_blk ?_
    | with_reducible refine Ex_blk ?_
    | with_reducible refine Ex_code ?_
    | with_reducible refine Ex_inv ?_
    | with_reducible refine G_exit ?_
    | with_reducible refine G_block ?_
    | with_reducible refine G_ret ?_
    | with_reducible refine G_skip ?_
    | ((with_reducible refine G_draw mixed (by decide +kernel) ?_))
    | ((with_reducible apply regW_ia0); (focus ((try dsimp only [ev_t, ev_c, getD_zero, getD_succ]); first | done | exact rfl)); (focus (with_unfolding_all exact rfl)); (focus (dsimp only [set_zero, set_succ]; try exact rfl)))
    | ((with_reducible apply regW_tail); (focus ((try dsimp only [ev_t, ev_c, getD_zero, getD_succ]); first | done | exact rfl)); (focus (intro; (with_unfolding_all exact rfl))); (focus (dsimp only [set_zero, set_succ]; try exact rfl)))
    | ((with_reducible apply regW_iaM); (focus (dsimp only [ev_t, ev_c, getD_zero, getD_succ]; try exact rfl)); (focus (dsimp only [ev_t, ev_c, getD_zero, getD_succ]; try exact rfl)); (focus assumption); (focus (with_unfolding_all exact rfl)); (focus (dsimp only [set_zero, set_succ]; try exact rfl)))
    | ((with_reducible apply regW_lenM); (focus (dsimp only [ev_t, ev_c, getD_zero, getD_succ]; try exact rfl)); (focus (dsimp only [set_zero, set_succ]; try exact rfl)))
    | ((with_reducible apply regW_add); (focus (dsimp only [ev_t, ev_c, getD_zero, getD_succ]; try exact rfl)); (focus (dsimp only [ev_t, ev_c, getD_zero, getD_succ]; try exact rfl)); (focus (first | assumption | exact rfl)); (focus (dsimp only [set_zero, set_succ]; try exact rfl)))
    | ((with_reducible apply regW_sub); (focus (dsimp only [ev_t, ev_c, getD_zero, getD_succ]; try exact rfl)); (focus (dsimp only [ev_t, ev_c, getD_zero, getD_succ]; try exact rfl)); (focus (first | assumption | exact rfl)); (focus (dsimp only [set_zero, set_succ]; try exact rfl)))
    | ((with_reducible apply regW_ldE); (focus (dsimp only [ev_t, ev_c, getD_zero, getD_succ]; try exact rfl)); (focus (with_unfolding_all exact rfl)); (focus (dsimp only [set_zero, set_succ]; try exact rfl)))
    | ((with_reducible apply regW_ldB); (focus (dsimp only [ev_t, ev_c, getD_zero, getD_succ]; try exact rfl)); (focus (dsimp only [sidx_zero, sidx_succ]; try exact rfl)); (focus (with_unfolding_all exact rfl)); (focus (dsimp only [set_zero, set_succ]; try exact rfl)))
    | ((with_reducible apply regW_stB); (focus (dsimp only [ev_t, ev_c, getD_zero, getD_succ]; try exact rfl)); (focus (dsimp only [ev_t, ev_c, getD_zero, getD_succ]; try exact rfl)); (focus (dsimp only [sidx_zero, sidx_succ]; try exact rfl)); (focus (with_unfolding_all exact rfl)); (focus (with_unfolding_all exact rfl)); (focus (with_unfolding_all exact rfl)); (focus (dsimp only [set_zero, set_succ]; try exact rfl)))
    | ((with_reducible apply regW_eqT); (focus (dsimp only [ev_t, ev_c, getD_zero, getD_succ]; try exact rfl)); (focus (dsimp only [ev_t, ev_c, getD_zero, getD_succ]; try exact rfl)); (focus (dsimp only [vals?, Cel.enc, Val.enc, Option.map_some]; try exact rfl)); (focus (dsimp only [vals?, Cel.enc, Val.enc, Option.map_some]; try exact rfl)); (focus (first | exact eqVz _ | exact eqzV _ | exact eqV _ _ | exact eqC _ _)); (focus (dsimp only [set_zero, set_succ]; try exact rfl)))
    | ((with_reducible apply regW_neT); (focus (dsimp only [ev_t, ev_c, getD_zero, getD_succ]; try exact rfl)); (focus (dsimp only [ev_t, ev_c, getD_zero, getD_succ]; try exact rfl)); (focus (dsimp only [vals?, Cel.enc, Val.enc, Option.map_some]; try exact rfl)); (focus (dsimp only [vals?, Cel.enc, Val.enc, Option.map_some]; try exact rfl)); (focus (first | exact eqVz _ | exact eqzV _ | exact eqV _ _ | exact eqC _ _)); (focus (dsimp only [set_zero, set_succ]; try exact rfl)))
    | ((with_reducible apply regW_bs1); (focus (dsimp only [ev_t, ev_c, getD_zero, getD_succ]; try exact rfl)); (focus (with_unfolding_all exact rfl)); (focus (with_unfolding_all exact rfl)); (focus (with_unfolding_all exact rfl)); (focus (dsimp only [set_zero, set_succ, List.length_cons, List.length_nil, Nat.reduceAdd]; try exact rfl)); (focus (dsimp only [List.cons_append, List.nil_append]; try exact rfl)))
    | ((with_reducible apply regW_app); (focus (dsimp only [ev_t, ev_c, getD_zero, getD_succ]; try exact rfl)); (focus (dsimp only [sidx_zero, sidx_succ]; try exact rfl)); (focus (with_reducible exact rfl)); (focus (dsimp only [ev_t, ev_c, getD_zero, getD_succ]; try exact rfl)); (focus (dsimp only [sidx_zero, sidx_succ]; try exact rfl)); (focus (with_unfolding_all exact rfl)); (focus assumption); (focus decide); (focus (dsimp only [set_zero, set_succ, List.length_cons, List.length_nil, Nat.reduceAdd]; try exact rfl)); (focus (dsimp only [set_zero, set_succ, List.cons_append, List.nil_append]; try exact rfl)))
    | ((with_reducible apply regW_appE); (focus ((try dsimp only [ev_t, ev_c, getD_zero, getD_succ]); first | done | exact rfl)); (focus ((try dsimp only [ev_t, ev_c, getD_zero, getD_succ]); first | done | exact rfl)); (focus (dsimp only [set_zero, set_succ]; try exact rfl)))
    | ((with_reducible apply regW_appL); (focus ((try dsimp only [ev_t, ev_c, getD_zero, getD_succ]); first | done | exact rfl)); (focus (dsimp only [sidx_zero, sidx_succ]; try exact rfl)); (focus (with_reducible exact rfl)); (focus ((try dsimp only [ev_t, ev_c, getD_zero, getD_succ]); first | done | exact rfl)); (focus assumption); (focus (intros; (with_unfolding_all exact rfl))); (focus assumption); (focus decide); (focus (dsimp only [set_zero, set_succ, List.length_cons, List.length_nil, Nat.reduceAdd]; try exact rfl)); (focus (dsimp only [set_zero, set_succ, List.cons_append, List.nil_append]; try exact rfl)))
    | ((with_reducible apply regW_opS); (focus (dsimp only [semF, ev_t, ev_c, getD_zero, getD_succ, bin_lss, bin_leq, bin_gtr, bin_geq, bin_eql, bin_neq, bin_add, bin_sub, bin_mul, bin_and, bin_shr20, bin_rem20, un_not, cond_true, cond_false, Nat.reduceAdd, Bool.not_true, Bool.not_false, scalar, Bool.and_self, if_true, if_false, Bool.false_eq_true, Option.map_some, AV.cells?, getCells, sidx_zero, sidx_succ, List.length_cons, List.length_nil, List.nil_append, List.cons_append, List.append_nil, List.drop, List.take, splice, Cel.enc, Val.enc]; try exact rfl)); (focus (dsimp only [set_zero, set_succ]; try exact rfl)))
    | ((with_reducible apply regW_op); (focus (dsimp only [semF, ev_t, ev_c, getD_zero, getD_succ, bin_lss, bin_leq, bin_gtr, bin_geq, bin_eql, bin_neq, bin_add, bin_sub, bin_mul, bin_and, bin_shr20, bin_rem20, un_not, cond_true, cond_false, Nat.reduceAdd, Bool.not_true, Bool.not_false, scalar, Bool.and_self, if_true, if_false, Bool.false_eq_true, Option.map_some, AV.cells?, getCells, sidx_zero, sidx_succ, List.length_cons, List.length_nil, List.nil_append, List.cons_append, List.append_nil, List.drop, List.take, splice]; try exact rfl)); (focus (dsimp only [set_zero, set_succ]; try exact rfl)))
    | ((with_reducible apply regW_shut'); (focus (dsimp only [getD_zero, getD_succ]; try (with_reducible exact rfl); done)); (focus (dsimp only [set_zero, set_succ]; try exact rfl)))
    | ((with_reducible apply regW_splitT); (focus (dsimp only [getD_zero, getD_succ]; try exact rfl)); all_goals (intro hc; (try dsimp only [set_zero, set_succ]); (try (with_reducible cases hc)); (try (with_reducible contradiction)); (try rw [hc])))
    | ((with_reducible apply regW_splitF); (focus (dsimp only [getD_zero, getD_succ]; try exact rfl)); all_goals (intro hc; (try dsimp only [set_zero, set_succ]); (try (with_reducible cases hc)); (try (with_reducible contradiction)); (try rw [hc])))
    | ((with_reducible apply regW_opN); (focus (dsimp only [semF, ev_t, ev_c, getD_zero, getD_succ, bin_lss, bin_leq, bin_gtr, bin_geq, bin_eql, bin_neq, bin_add, bin_sub, bin_mul, bin_and, bin_shr20, bin_rem20, un_not, cond_true, cond_false, Nat.reduceAdd, Bool.not_true, Bool.not_false, scalar, Bool.and_self, if_true, if_false, Bool.false_eq_true, Option.map_some, AV.cells?, getCells, sidx_zero, sidx_succ, List.length_cons, List.length_nil, List.nil_append, List.cons_append, List.append_nil, List.drop, List.take, splice, set_zero, set_succ]; try exact rfl)))
    | ((with_reducible apply G_cond); (focus (dsimp only [ev_t, ev_c, getD_zero, getD_succ]; try exact rfl)); all_goals (intro hc; (try (with_reducible cases hc)); (try (with_reducible contradiction)))))
        rw [List.append_nil]
        exact ⟨_, rfl, .inr (.inl ⟨0, 31, 6, acc1.map Cel.enc, by simp, rfl, rfl⟩)⟩
      · (repeat' first
    | with_reducible refine G_seq ?_
    | with_reducible refine G_reg ?_
    | with_reducible refine regW_nil ?_
    | with_reducible refine Nx_code ?_
    | with_reducible refine Nx_blk ?_
    | with_reducible refine Ex_blk ?_
    | with_reducible refine Ex_code ?_
    | with_reducible refine Ex_inv ?_
    | with_reducible refine G_exit ?_
    | with_reducible refine G_block ?_
    | with_reducible refine G_ret ?_
    | with_reducible refine G_skip ?_
    | ((with_reducible refine G_draw mixed (by decide +kernel) ?_))
    | ((with_reducible apply regW_ia0); (focus ((try dsimp only [ev_t, ev_c, getD_zero, getD_succ]); first | done | exact rfl)); (focus (with_unfolding_all exact rfl)); (focus (dsimp only [set_zero, set_succ]; try exact rfl)))
    | ((with_reducible apply regW_tail); (focus ((try dsimp only [ev_t, ev_c, getD_zero, getD_succ]); first | done | exact rfl)); (focus (intro; (with_unfolding_all exact rfl))); (focus (dsimp only [set_zero, set_succ]; try exact rfl)))
    | ((with_reducible apply regW_iaM); (focus (dsimp only [ev_t, ev_c, getD_zero, getD_succ]; try exact rfl)); (focus (dsimp only [ev_t, ev_c, getD_zero, getD_succ]; try exact rfl)); (focus assumption); (focus (with_unfolding_all exact rfl)); (focus (dsimp only [set_zero, set_succ]; try exact rfl)))
    | ((with_reducible apply regW_lenM); (focus (dsimp only [ev_t, ev_c, getD_zero, getD_succ]; try exact rfl)); (focus (dsimp only [set_zero, set_succ]; try exact rfl)))
    | ((with_reducible apply regW_add); (focus (dsimp only [ev_t, ev_c, getD_zero, getD_succ]; try exact rfl)); (focus (dsimp only [ev_t, ev_c, getD_zero, getD_succ]; try exact rfl)); (focus (first | assumption | exact rfl)); (focus (dsimp only [set_zero, set_succ]; try exact rfl)))
    | ((with_reducible apply regW_sub); (focus (dsimp only [ev_t, ev_c, getD_zero, getD_succ]; try exact rfl)); (focus (dsimp only [ev_t, ev_c, getD_zero, getD_succ]; try exact rfl)); (focus (first | assumption | exact rfl)); (focus (dsimp only [set_zero, set_succ]; try exact rfl)))
    | ((with_reducible apply regW_ldE); (focus (dsimp only [ev_t, ev_c, getD_zero, getD_succ]; try exact rfl)); (focus (with_unfolding_all exact rfl)); (focus (dsimp only [set_zero, set_succ]; try exact rfl)))
    | ((with_reducible apply regW_ldB); (focus (dsimp only [ev_t, ev_c, getD_zero, getD_succ]; try exact rfl)); (focus (dsimp only [sidx_zero, sidx_succ]; try exact rfl)); (focus (with_unfolding_all exact rfl)); (focus (dsimp only [set_zero, set_succ]; try exact rfl)))
    | ((with_reducible apply regW_stB); (focus (dsimp only [ev_t, ev_c, getD_zero, getD_succ]; try exact rfl)); (focus (dsimp only [ev_t, ev_c, getD_zero, getD_succ]; try exact rfl)); (focus (dsimp only [sidx_zero, sidx_succ]; try exact rfl)); (focus (with_unfolding_all exact rfl)); (focus (with_unfolding_all exact rfl)); (focus (with_unfolding_all exact rfl)); (focus (dsimp only [set_zero, set_succ]; try exact rfl)))
    | ((with_reducible apply regW_eqT); (focus (dsimp only [ev_t, ev_c, getD_zero, getD_succ]; try exact rfl)); (focus (dsimp only [ev_t, ev_c, getD_zero, getD_succ]; try exact rfl)); (focus (dsimp only [vals?, Cel.enc, Val.enc, Option.map_some]; try exact rfl)); (focus (dsimp only [vals?, Cel.enc, Val.enc, Option.map_some]; try exact rfl)); (focus (first | exact eqVz _ | exact eqzV _ | exact eqV _ _ | exact eqC _ _)); (focus (dsimp only [set_zero, set_succ]; try exact rfl)))
    | ((with_reducible apply regW_neT); (focus (dsimp only [ev_t, ev_c, getD_zero, getD_succ]; try exact rfl)); (focus (dsimp only [ev_t, ev_c, getD_zero, getD_succ]; try exact rfl)); (focus (dsimp only [vals?, Cel.enc, Val.enc, Option.map_some]; try exact rfl)); (focus (dsimp only [vals?, Cel.enc, Val.enc, Option.map_some]; try exact rfl)); (focus (first | exact eqVz _ | exact eqzV _ | exact eqV _ _ | exact eqC _ _)); (focus (dsimp only [set_zero, set_succ]; try exact rfl)))
    | ((with_reducible apply regW_bs1); (focus (dsimp only [ev_t, ev_c, getD_zero, getD_succ]; try exact rfl)); (focus (with_unfolding_all exact rfl)); (focus (with_unfolding_all exact rfl)); (focus (with_unfolding_all exact rfl)); (focus (dsimp only [set_zero, set_succ, List.length_cons, List.length_nil, Nat.reduceAdd]; try exact rfl)); (focus (dsimp only [List.cons_append, List.nil_append]; try exact rfl)))
    | ((with_reducible apply regW_app); (focus (dsimp only [ev_t, ev_c, getD_zero, getD_succ]; try exact rfl)); (focus (dsimp only [sidx_zero, sidx_succ]; try exact rfl)); (focus (with_reducible exact rfl)); (focus (dsimp only [ev_t, ev_c, getD_zero, getD_succ]; try exact rfl)); (focus (dsimp only [sidx_zero, sidx_succ]; try exact rfl)); (focus (with_unfolding_all exact rfl)); (focus assumption); (focus decide); (focus (dsimp only [set_zero, set_succ, List.length_cons, List.length_nil, Nat.reduceAdd]; try exact rfl)); (focus (dsimp only [set_zero, set_succ, List.cons_append, List.nil_append]; try exact rfl)))
    | ((with_reducible apply regW_appE); (focus ((try dsimp only [ev_t, ev_c, getD_zero, getD_succ]); first | done | exact rfl)); (focus ((try dsimp only [ev_t, ev_c, getD_zero, getD_succ]); first | done | exact rfl)); (focus (dsimp only [set_zero, set_succ]; try exact rfl)))
    | ((with_reducible apply regW_appL); (focus ((try dsimp only [ev_t, ev_c, getD_zero, getD_succ]); first | done | exact rfl)); (focus (dsimp only [sidx_zero, sidx_succ]; try exact rfl)); (focus (with_reducible exact rfl)); (focus ((try dsimp only [ev_t, ev_c, getD_zero, getD_succ]); first | done | exact rfl)); (focus assumption); (focus (intros; (with_unfolding_all exact rfl))); (focus assumption); (focus decide); (focus (dsimp only [set_zero, set_succ, List.length_cons, List.length_nil, Nat.reduceAdd]; try exact rfl)); (focus (dsimp only [set_zero, set_succ, List.cons_append, List.nil_append]; try exact rfl)))
    | ((with_reducible apply regW_opS); (focus (dsimp only [semF, ev_t, ev_c, getD_zero, getD_succ, bin_lss, bin_leq, bin_gtr, bin_geq, bin_eql, bin_neq, bin_add, bin_sub, bin_mul, bin_and, bin_shr20, bin_rem20, un_not, cond_true, cond_false, Nat.reduceAdd, Bool.not_true, Bool.not_false, scalar, Bool.and_self, if_true, if_false, Bool.false_eq_true, Option.map_some, AV.cells?, getCells, sidx_zero, sidx_succ, List.length_cons, List.length_nil, List.nil_append, List.cons_append, List.append_nil, List.drop, List.take, splice, Cel.enc, Val.enc]; try exact rfl)); (focus (dsimp only [set_zero, set_succ]; try exact rfl)))
    | ((with_reducible apply regW_op); (focus (dsimp only [semF, ev_t, ev_c, getD_zero, getD_succ, bin_lss, bin_leq, bin_gtr, bin_geq, bin_eql, bin_neq, bin_add, bin_sub, bin_mul, bin_and, bin_shr20, bin_rem20, un_not, cond_true, cond_false, Nat.reduceAdd, Bool.not_true, Bool.not_false, scalar, Bool.and_self, if_true, if_false, Bool.false_eq_true, Option.map_some, AV.cells?, getCells, sidx_zero, sidx_succ, List.length_cons, List.length_nil, List.nil_append, List.cons_append, List.append_nil, List.drop, List.take, splice]; try exact rfl)); (focus (dsimp only [set_zero, set_succ]; try exact rfl)))
    | ((with_reducible apply regW_shut'); (focus (dsimp only [getD_zero, getD_succ]; try (with_reducible exact rfl); done)); (focus (dsimp only [set_zero, set_succ]; try exact rfl)))
    | ((with_reducible apply regW_splitT); (focus (dsimp only [getD_zero, getD_succ]; try exact rfl)); all_goals (intro hc; (try dsimp only [set_zero, set_succ]); (try (with_reducible cases hc)); (try (with_reducible contradiction)); (try rw [hc])))
    | ((with_reducible apply regW_splitF); (focus (dsimp only [getD_zero, getD_succ]; try exact rfl)); all_goals (intro hc; (try dsimp only [set_zero, set_succ]); (try (with_reducible cases hc)); (try (with_reducible contradiction)); (try rw [hc])))
    | ((with_reducible apply regW_opN); (focus (dsimp only [semF, ev_t, ev_c, getD_zero, getD_succ, bin_lss, bin_leq, bin_gtr, bin_geq, bin_eql, bin_neq, bin_add, bin_sub, bin_mul, bin_and, bin_shr20, bin_rem20, un_not, cond_true, cond_false, Nat.reduceAdd, Bool.not_true, Bool.not_false, scalar, Bool.and_self, if_true, if_false, Bool.false_eq_true, Option.map_some, AV.cells?, getCells, sidx_zero, sidx_succ, List.length_cons, List.length_nil, List.nil_append, List.cons_append, List.append_nil, List.drop, List.take, splice, set_zero, set_succ]; try exact rfl)))
    | ((with_reducible apply G_cond); (focus (dsimp only [ev_t, ev_c, getD_zero, getD_succ]; try exact rfl)); all_goals (intro hc; (try (with_reducible cases hc)); (try (with_reducible contradiction)))))
        exact ⟨_, rfl, .inr (.inl ⟨1, 31, 6, (acc1 ++ l1).map Cel.enc, by simp, rfl, rfl⟩)⟩
end Go.Proofs.Ythbkdnojneffdaa

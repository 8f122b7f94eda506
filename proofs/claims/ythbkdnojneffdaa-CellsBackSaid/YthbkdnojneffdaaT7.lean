/- Contracts of functions of the program over the abstract machine. -/
import Derived.Test.YthbkdnojneffdaaT6
namespace Go.Proofs.Ythbkdnojneffdaa
open Go.Am

set_option maxHeartbeats 1000000 in
theorem c22 (l : List Cel) (id field : Int) (hl : l.length < 4611686018427387904) : Contract Try.prog 22 [encL l, .v (.int .i64 id), .v (.int .i64 field)] (.pure (.agg (getB id field l).enc)) := by
  unfold encL
  refine contract_g (fr := [.vs (l.map Cel.enc), .v (.int .i64 id), .v (.int .i64 field), .v undef, .v undef, .v undef, .v undef, .v undef, .v undef, .v undef, .v undef, .v undef, .v undef, .v undef, .v undef, .v undef, .v undef, .v undef, .v undef, .v undef, .v undef, .v undef, .v undef, .v undef, .v undef, .v undef, .v undef, .v undef, .v undef, .v undef, .v undef, .v undef, .v undef, .v undef, .v undef, .v undef]) Try.func22 a22_ok rfl ?_
  dsimp only [a22]
  (repeat' first
    | with_reducible refine G_seq ?_
    | with_reducible refine G_reg ?_
    | with_reducible refine regW_nil ?_
    | with_reducible refine Nx_code ?_
    | with_reducible refine Nx_blk ?_
    | with_reducible refine Ex_blk ?_
    | with_reducible refine Ex_code ?_
    | with_reducible refine Ex_inv ?_
    | with_reducible refine G_exit ?_
    | with_reducible refine G_block ?_
    | with_reducible refine G_ret ?_
    | with_reducible refine G_skip ?_
    | ((with_reducible refine G_draw mixed (by decide +kernel) ?_))
    | ((with_reducible apply regW_iaM); (focus (dsimp only [ev_t, ev_c, getD_zero, getD_succ]; try exact rfl)); (focus (dsimp only [ev_t, ev_c, getD_zero, getD_succ]; try exact rfl)); (focus assumption); (focus (with_unfolding_all exact rfl)); (focus (dsimp only [set_zero, set_succ]; try exact rfl)))
    | ((with_reducible apply regW_lenM); (focus (dsimp only [ev_t, ev_c, getD_zero, getD_succ]; try exact rfl)); (focus (dsimp only [set_zero, set_succ]; try exact rfl)))
    | ((with_reducible apply regW_add); (focus (dsimp only [ev_t, ev_c, getD_zero, getD_succ]; try exact rfl)); (focus (dsimp only [ev_t, ev_c, getD_zero, getD_succ]; try exact rfl)); (focus (first | assumption | exact rfl)); (focus (dsimp only [set_zero, set_succ]; try exact rfl)))
    | ((with_reducible apply regW_sub); (focus (dsimp only [ev_t, ev_c, getD_zero, getD_succ]; try exact rfl)); (focus (dsimp only [ev_t, ev_c, getD_zero, getD_succ]; try exact rfl)); (focus (first | assumption | exact rfl)); (focus (dsimp only [set_zero, set_succ]; try exact rfl)))
    | ((with_reducible apply regW_ldE); (focus (dsimp only [ev_t, ev_c, getD_zero, getD_succ]; try exact rfl)); (focus (with_unfolding_all exact rfl)); (focus (dsimp only [set_zero, set_succ]; try exact rfl)))
    | ((with_reducible apply regW_ldB); (focus (dsimp only [ev_t, ev_c, getD_zero, getD_succ]; try exact rfl)); (focus (dsimp only [sidx_zero, sidx_succ]; try exact rfl)); (focus (with_unfolding_all exact rfl)); (focus (dsimp only [set_zero, set_succ]; try exact rfl)))
    | ((with_reducible apply regW_stB); (focus (dsimp only [ev_t, ev_c, getD_zero, getD_succ]; try exact rfl)); (focus (dsimp only [ev_t, ev_c, getD_zero, getD_succ]; try exact rfl)); (focus (dsimp only [sidx_zero, sidx_succ]; try exact rfl)); (focus (with_unfolding_all exact rfl)); (focus (with_unfolding_all exact rfl)); (focus (with_unfolding_all exact rfl)); (focus (dsimp only [set_zero, set_succ]; try exact rfl)))
    | ((with_reducible apply regW_eqT); (focus (dsimp only [ev_t, ev_c, getD_zero, getD_succ]; try exact rfl)); (focus (dsimp only [ev_t, ev_c, getD_zero, getD_succ]; try exact rfl)); (focus (dsimp only [vals?, Cel.enc, Val.enc, Option.map_some]; try exact rfl)); (focus (dsimp only [vals?, Cel.enc, Val.enc, Option.map_some]; try exact rfl)); (focus (first | exact eqVz _ | exact eqzV _ | exact eqV _ _ | exact eqC _ _)); (focus (dsimp only [set_zero, set_succ]; try exact rfl)))
    | ((with_reducible apply regW_neT); (focus (dsimp only [ev_t, ev_c, getD_zero, getD_succ]; try exact rfl)); (focus (dsimp only [ev_t, ev_c, getD_zero, getD_succ]; try exact rfl)); (focus (dsimp only [vals?, Cel.enc, Val.enc, Option.map_some]; try exact rfl)); (focus (dsimp only [vals?, Cel.enc, Val.enc, Option.map_some]; try exact rfl)); (focus (first | exact eqVz _ | exact eqzV _ | exact eqV _ _ | exact eqC _ _)); (focus (dsimp only [set_zero, set_succ]; try exact rfl)))
    | ((with_reducible apply regW_bs1); (focus (dsimp only [ev_t, ev_c, getD_zero, getD_succ]; try exact rfl)); (focus (with_unfolding_all exact rfl)); (focus (with_unfolding_all exact rfl)); (focus (with_unfolding_all exact rfl)); (focus (dsimp only [set_zero, set_succ, List.length_cons, List.length_nil, Nat.reduceAdd]; try exact rfl)); (focus (dsimp only [List.cons_append, List.nil_append]; try exact rfl)))
    | ((with_reducible apply regW_app); (focus (dsimp only [ev_t, ev_c, getD_zero, getD_succ]; try exact rfl)); (focus (dsimp only [sidx_zero, sidx_succ]; try exact rfl)); (focus (with_reducible exact rfl)); (focus (dsimp only [ev_t, ev_c, getD_zero, getD_succ]; try exact rfl)); (focus (dsimp only [sidx_zero, sidx_succ]; try exact rfl)); (focus (with_unfolding_all exact rfl)); (focus assumption); (focus decide); (focus (dsimp only [set_zero, set_succ, List.length_cons, List.length_nil, Nat.reduceAdd]; try exact rfl)); (focus (dsimp only [set_zero, set_succ, List.cons_append, List.nil_append]; try exact rfl)))
    | ((with_reducible apply regW_opS); (focus (dsimp only [semF, ev_t, ev_c, getD_zero, getD_succ, bin_lss, bin_leq, bin_gtr, bin_geq, bin_eql, bin_neq, bin_add, bin_sub, bin_mul, bin_and, bin_shr20, bin_rem20, un_not, cond_true, cond_false, Nat.reduceAdd, Bool.not_true, Bool.not_false, scalar, Bool.and_self, if_true, if_false, Bool.false_eq_true, Option.map_some, AV.cells?, getCells, sidx_zero, sidx_succ, List.length_cons, List.length_nil, List.nil_append, List.cons_append, List.append_nil, List.drop, List.take, splice, Cel.enc, Val.enc]; try exact rfl)); (focus (dsimp only [set_zero, set_succ]; try exact rfl)))
    | ((with_reducible apply regW_op); (focus (dsimp only [semF, ev_t, ev_c, getD_zero, getD_succ, bin_lss, bin_leq, bin_gtr, bin_geq, bin_eql, bin_neq, bin_add, bin_sub, bin_mul, bin_and, bin_shr20, bin_rem20, un_not, cond_true, cond_false, Nat.reduceAdd, Bool.not_true, Bool.not_false, scalar, Bool.and_self, if_true, if_false, Bool.false_eq_true, Option.map_some, AV.cells?, getCells, sidx_zero, sidx_succ, List.length_cons, List.length_nil, List.nil_append, List.cons_append, List.append_nil, List.drop, List.take, splice]; try exact rfl)); (focus (dsimp only [set_zero, set_succ]; try exact rfl)))
    | ((with_reducible apply regW_shut'); (focus (dsimp only [getD_zero, getD_succ]; try (with_reducible exact rfl); done)); (focus (dsimp only [set_zero, set_succ]; try exact rfl)))
    | ((with_reducible apply regW_splitT); (focus (dsimp only [getD_zero, getD_succ]; try exact rfl)); all_goals (intro hc; (try dsimp only [set_zero, set_succ]); (try (with_reducible cases hc)); (try (with_reducible contradiction)); (try rw [hc])))
    | ((with_reducible apply regW_splitF); (focus (dsimp only [getD_zero, getD_succ]; try exact rfl)); all_goals (intro hc; (try dsimp only [set_zero, set_succ]); (try (with_reducible cases hc)); (try (with_reducible contradiction)); (try rw [hc])))
    | ((with_reducible apply regW_opN); (focus (dsimp only [semF, ev_t, ev_c, getD_zero, getD_succ, bin_lss, bin_leq, bin_gtr, bin_geq, bin_eql, bin_neq, bin_add, bin_sub, bin_mul, bin_and, bin_shr20, bin_rem20, un_not, cond_true, cond_false, Nat.reduceAdd, Bool.not_true, Bool.not_false, scalar, Bool.and_self, if_true, if_false, Bool.false_eq_true, Option.map_some, AV.cells?, getCells, sidx_zero, sidx_succ, List.length_cons, List.length_nil, List.nil_append, List.cons_append, List.append_nil, List.drop, List.take, splice, set_zero, set_succ]; try exact rfl)))
    | ((with_reducible apply G_cond); (focus (dsimp only [ev_t, ev_c, getD_zero, getD_succ]; try exact rfl)); all_goals (intro hc; (try (with_reducible cases hc)); (try (with_reducible contradiction)))))
  refine G_loopF (fun k : Nat => ⟨[.vs (l.map Cel.enc), .v (.int .i64 id), .v (.int .i64 field), .und, .und, .und, .ptr 0 0, .v (.int .i64 (k : Int)), .und, .und, .und, .und, .und, .und, .und, .und, .und, .und, .und, .und, .und, .und, .und, .und, .und, .und, .und, .und, .und, .und, .und, .und, .und, .und, .und, .und], [.blk 28 Val.zero.enc]⟩) (fun k => k ≤ l.length ∧ getB id field l = getB id field (l.drop k)) (fun k => l.length - k) 0 [0] ?_ ⟨by omega, rfl⟩ ?_
  · (refine ⟨by decide, rfl, ?_, ?_⟩ <;> repeat' first
      | exact True.intro
      | ((refine And.intro (Or.inl ?_) ?_); (focus (with_reducible exact rfl)))
      | ((refine And.intro (Or.inr (And.intro ?_ (And.intro rfl rfl))) ?_); (focus (dsimp only [AV.ren, getD_zero, getD_succ]; try (with_reducible exact rfl); done)))
      | (refine And.intro (Or.inr (And.intro ?_ (And.intro rfl rfl))) ?_)
      | (with_reducible exact weakO_row rfl)
      | (refine And.intro (Exists.intro _ (And.intro rfl ?_)) ?_)
      | (refine Exists.intro _ (And.intro rfl ?_))
      | (with_reducible exact rfl))
    all_goals rfl
  · intro k ⟨hk, hI⟩
    by_cases hlt : k < l.length
    · have hck : l[k]? = some l[k] := List.getElem?_eq_getElem hlt
      generalize l[k] = c at hck
      have hd : ¬ (decide ((k : Int) < (l.length : Int)) = false) := by simp; omega
      have hw1 := wrap_succ k (by omega)
      have hat : getB id field (l.drop k) = if c.id == id && c.field == field then c.v else getB id field (l.drop (k + 1)) := by rw [drop_at hck]; rfl
      (repeat' first
    | with_reducible refine G_seq ?_
    | with_reducible refine G_reg ?_
    | with_reducible refine regW_nil ?_
    | with_reducible refine Nx_code ?_
    | with_reducible refine Nx_blk ?_
    | with_reducible refine Ex_blk ?_
    | with_reducible refine Ex_code ?_
    | with_reducible refine Ex_inv ?_
    | with_reducible refine G_exit ?_
    | with_reducible refine G_block ?_
    | with_reducible refine G_ret ?_
    | with_reducible refine G_skip ?_
    | ((with_reducible refine G_draw mixed (by decide +kernel) ?_))
    | ((with_reducible apply regW_iaM); (focus (dsimp only [ev_t, ev_c, getD_zero, getD_succ]; try exact rfl)); (focus (dsimp only [ev_t, ev_c, getD_zero, getD_succ]; try exact rfl)); (focus assumption); (focus (with_unfolding_all exact rfl)); (focus (dsimp only [set_zero, set_succ]; try exact rfl)))
    | ((with_reducible apply regW_lenM); (focus (dsimp only [ev_t, ev_c, getD_zero, getD_succ]; try exact rfl)); (focus (dsimp only [set_zero, set_succ]; try exact rfl)))
    | ((with_reducible apply regW_add); (focus (dsimp only [ev_t, ev_c, getD_zero, getD_succ]; try exact rfl)); (focus (dsimp only [ev_t, ev_c, getD_zero, getD_succ]; try exact rfl)); (focus (first | assumption | exact rfl)); (focus (dsimp only [set_zero, set_succ]; try exact rfl)))
    | ((with_reducible apply regW_sub); (focus (dsimp only [ev_t, ev_c, getD_zero, getD_succ]; try exact rfl)); (focus (dsimp only [ev_t, ev_c, getD_zero, getD_succ]; try exact rfl)); (focus (first | assumption | exact rfl)); (focus (dsimp only [set_zero, set_succ]; try exact rfl)))
    | ((with_reducible apply regW_ldE); (focus (dsimp only [ev_t, ev_c, getD_zero, getD_succ]; try exact rfl)); (focus (with_unfolding_all exact rfl)); (focus (dsimp only [set_zero, set_succ]; try exact rfl)))
    | ((with_reducible apply regW_ldB); (focus (dsimp only [ev_t, ev_c, getD_zero, getD_succ]; try exact rfl)); (focus (dsimp only [sidx_zero, sidx_succ]; try exact rfl)); (focus (with_unfolding_all exact rfl)); (focus (dsimp only [set_zero, set_succ]; try exact rfl)))
    | ((with_reducible apply regW_stB); (focus (dsimp only [ev_t, ev_c, getD_zero, getD_succ]; try exact rfl)); (focus (dsimp only [ev_t, ev_c, getD_zero, getD_succ]; try exact rfl)); (focus (dsimp only [sidx_zero, sidx_succ]; try exact rfl)); (focus (with_unfolding_all exact rfl)); (focus (with_unfolding_all exact rfl)); (focus (with_unfolding_all exact rfl)); (focus (dsimp only [set_zero, set_succ]; try exact rfl)))
    | ((with_reducible apply regW_eqT); (focus (dsimp only [ev_t, ev_c, getD_zero, getD_succ]; try exact rfl)); (focus (dsimp only [ev_t, ev_c, getD_zero, getD_succ]; try exact rfl)); (focus (dsimp only [vals?, Cel.enc, Val.enc, Option.map_some]; try exact rfl)); (focus (dsimp only [vals?, Cel.enc, Val.enc, Option.map_some]; try exact rfl)); (focus (first | exact eqVz _ | exact eqzV _ | exact eqV _ _ | exact eqC _ _)); (focus (dsimp only [set_zero, set_succ]; try exact rfl)))
    | ((with_reducible apply regW_neT); (focus (dsimp only [ev_t, ev_c, getD_zero, getD_succ]; try exact rfl)); (focus (dsimp only [ev_t, ev_c, getD_zero, getD_succ]; try exact rfl)); (focus (dsimp only [vals?, Cel.enc, Val.enc, Option.map_some]; try exact rfl)); (focus (dsimp only [vals?, Cel.enc, Val.enc, Option.map_some]; try exact rfl)); (focus (first | exact eqVz _ | exact eqzV _ | exact eqV _ _ | exact eqC _ _)); (focus (dsimp only [set_zero, set_succ]; try exact rfl)))
    | ((with_reducible apply regW_bs1); (focus (dsimp only [ev_t, ev_c, getD_zero, getD_succ]; try exact rfl)); (focus (with_unfolding_all exact rfl)); (focus (with_unfolding_all exact rfl)); (focus (with_unfolding_all exact rfl)); (focus (dsimp only [set_zero, set_succ, List.length_cons, List.length_nil, Nat.reduceAdd]; try exact rfl)); (focus (dsimp only [List.cons_append, List.nil_append]; try exact rfl)))
    | ((with_reducible apply regW_app); (focus (dsimp only [ev_t, ev_c, getD_zero, getD_succ]; try exact rfl)); (focus (dsimp only [sidx_zero, sidx_succ]; try exact rfl)); (focus (with_reducible exact rfl)); (focus (dsimp only [ev_t, ev_c, getD_zero, getD_succ]; try exact rfl)); (focus (dsimp only [sidx_zero, sidx_succ]; try exact rfl)); (focus (with_unfolding_all exact rfl)); (focus assumption); (focus decide); (focus (dsimp only [set_zero, set_succ, List.length_cons, List.length_nil, Nat.reduceAdd]; try exact rfl)); (focus (dsimp only [set_zero, set_succ, List.cons_append, List.nil_append]; try exact rfl)))
    | ((with_reducible apply regW_opS); (focus (dsimp only [semF, ev_t, ev_c, getD_zero, getD_succ, bin_lss, bin_leq, bin_gtr, bin_geq, bin_eql, bin_neq, bin_add, bin_sub, bin_mul, bin_and, bin_shr20, bin_rem20, un_not, cond_true, cond_false, Nat.reduceAdd, Bool.not_true, Bool.not_false, scalar, Bool.and_self, if_true, if_false, Bool.false_eq_true, Option.map_some, AV.cells?, getCells, sidx_zero, sidx_succ, List.length_cons, List.length_nil, List.nil_append, List.cons_append, List.append_nil, List.drop, List.take, splice, Cel.enc, Val.enc]; try exact rfl)); (focus (dsimp only [set_zero, set_succ]; try exact rfl)))
    | ((with_reducible apply regW_op); (focus (dsimp only [semF, ev_t, ev_c, getD_zero, getD_succ, bin_lss, bin_leq, bin_gtr, bin_geq, bin_eql, bin_neq, bin_add, bin_sub, bin_mul, bin_and, bin_shr20, bin_rem20, un_not, cond_true, cond_false, Nat.reduceAdd, Bool.not_true, Bool.not_false, scalar, Bool.and_self, if_true, if_false, Bool.false_eq_true, Option.map_some, AV.cells?, getCells, sidx_zero, sidx_succ, List.length_cons, List.length_nil, List.nil_append, List.cons_append, List.append_nil, List.drop, List.take, splice]; try exact rfl)); (focus (dsimp only [set_zero, set_succ]; try exact rfl)))
    | ((with_reducible apply regW_shut'); (focus (dsimp only [getD_zero, getD_succ]; try (with_reducible exact rfl); done)); (focus (dsimp only [set_zero, set_succ]; try exact rfl)))
    | ((with_reducible apply regW_splitT); (focus (dsimp only [getD_zero, getD_succ]; try exact rfl)); all_goals (intro hc; (try dsimp only [set_zero, set_succ]); (try (with_reducible cases hc)); (try (with_reducible contradiction)); (try rw [hc])))
    | ((with_reducible apply regW_splitF); (focus (dsimp only [getD_zero, getD_succ]; try exact rfl)); all_goals (intro hc; (try dsimp only [set_zero, set_succ]); (try (with_reducible cases hc)); (try (with_reducible contradiction)); (try rw [hc])))
    | ((with_reducible apply regW_opN); (focus (dsimp only [semF, ev_t, ev_c, getD_zero, getD_succ, bin_lss, bin_leq, bin_gtr, bin_geq, bin_eql, bin_neq, bin_add, bin_sub, bin_mul, bin_and, bin_shr20, bin_rem20, un_not, cond_true, cond_false, Nat.reduceAdd, Bool.not_true, Bool.not_false, scalar, Bool.and_self, if_true, if_false, Bool.false_eq_true, Option.map_some, AV.cells?, getCells, sidx_zero, sidx_succ, List.length_cons, List.length_nil, List.nil_append, List.cons_append, List.append_nil, List.drop, List.take, splice, set_zero, set_succ]; try exact rfl)))
    | ((with_reducible apply G_cond); (focus (dsimp only [ev_t, ev_c, getD_zero, getD_succ]; try exact rfl)); all_goals (intro hc; (try (with_reducible cases hc)); (try (with_reducible contradiction)))))
      all_goals first
        | (refine ⟨_, rfl, .inl ⟨_, rfl, ?_⟩⟩; rw [hI, hat]; clear hI hat; simp_all [Val.enc])
        | (refine Nx_round (k + 1) [0] ?_ ⟨by omega, ?_⟩ (by omega); (focus ((refine ⟨by decide, rfl, ?_, ?_⟩ <;> repeat' first
      | exact True.intro
      | ((refine And.intro (Or.inl ?_) ?_); (focus (with_reducible exact rfl)))
      | ((refine And.intro (Or.inr (And.intro ?_ (And.intro rfl rfl))) ?_); (focus (dsimp only [AV.ren, getD_zero, getD_succ]; try (with_reducible exact rfl); done)))
      | (refine And.intro (Or.inr (And.intro ?_ (And.intro rfl rfl))) ?_)
      | (with_reducible exact weakO_row rfl)
      | (refine And.intro (Exists.intro _ (And.intro rfl ?_)) ?_)
      | (refine Exists.intro _ (And.intro rfl ?_))
      | (with_reducible exact rfl)) <;> fail)); (rw [hI, hat]; clear hI hat; grind))
    · have hd : ¬ (decide ((k : Int) < (l.length : Int)) = true) := by simp; omega
      (repeat' first
    | with_reducible refine G_seq ?_
    | with_reducible refine G_reg ?_
    | with_reducible refine regW_nil ?_
    | with_reducible refine Nx_code ?_
    | with_reducible refine Nx_blk ?_
    | with_reducible refine Ex_blk ?_
    | with_reducible refine Ex_code ?_
    | with_reducible refine Ex_inv ?_
    | with_reducible refine G_exit ?_
    | with_reducible refine G_block ?_
    | with_reducible refine G_ret ?_
    | with_reducible refine G_skip ?_
    | ((with_reducible refine G_draw mixed (by decide +kernel) ?_))
    | ((with_reducible apply regW_iaM); (focus (dsimp only [ev_t, ev_c, getD_zero, getD_succ]; try exact rfl)); (focus (dsimp only [ev_t, ev_c, getD_zero, getD_succ]; try exact rfl)); (focus assumption); (focus (with_unfolding_all exact rfl)); (focus (dsimp only [set_zero, set_succ]; try exact rfl)))
    | ((with_reducible apply regW_lenM); (focus (dsimp only [ev_t, ev_c, getD_zero, getD_succ]; try exact rfl)); (focus (dsimp only [set_zero, set_succ]; try exact rfl)))
    | ((with_reducible apply regW_add); (focus (dsimp only [ev_t, ev_c, getD_zero, getD_succ]; try exact rfl)); (focus (dsimp only [ev_t, ev_c, getD_zero, getD_succ]; try exact rfl)); (focus (first | assumption | exact rfl)); (focus (dsimp only [set_zero, set_succ]; try exact rfl)))
    | ((with_reducible apply regW_sub); (focus (dsimp only [ev_t, ev_c, getD_zero, getD_succ]; try exact rfl)); (focus (dsimp only [ev_t, ev_c, getD_zero, getD_succ]; try exact rfl)); (focus (first | assumption | exact rfl)); (focus (dsimp only [set_zero, set_succ]; try exact rfl)))
    | ((with_reducible apply regW_ldE); (focus (dsimp only [ev_t, ev_c, getD_zero, getD_succ]; try exact rfl)); (focus (with_unfolding_all exact rfl)); (focus (dsimp only [set_zero, set_succ]; try exact rfl)))
    | ((with_reducible apply regW_ldB); (focus (dsimp only [ev_t, ev_c, getD_zero, getD_succ]; try exact rfl)); (focus (dsimp only [sidx_zero, sidx_succ]; try exact rfl)); (focus (with_unfolding_all exact rfl)); (focus (dsimp only [set_zero, set_succ]; try exact rfl)))
    | ((with_reducible apply regW_stB); (focus (dsimp only [ev_t, ev_c, getD_zero, getD_succ]; try exact rfl)); (focus (dsimp only [ev_t, ev_c, getD_zero, getD_succ]; try exact rfl)); (focus (dsimp only [sidx_zero, sidx_succ]; try exact rfl)); (focus (with_unfolding_all exact rfl)); (focus (with_unfolding_all exact rfl)); (focus (with_unfolding_all exact rfl)); (focus (dsimp only [set_zero, set_succ]; try exact rfl)))
    | ((with_reducible apply regW_eqT); (focus (dsimp only [ev_t, ev_c, getD_zero, getD_succ]; try exact rfl)); (focus (dsimp only [ev_t, ev_c, getD_zero, getD_succ]; try exact rfl)); (focus (dsimp only [vals?, Cel.enc, Val.enc, Option.map_some]; try exact rfl)); (focus (dsimp only [vals?, Cel.enc, Val.enc, Option.map_some]; try exact rfl)); (focus (first | exact eqVz _ | exact eqzV _ | exact eqV _ _ | exact eqC _ _)); (focus (dsimp only [set_zero, set_succ]; try exact rfl)))
    | ((with_reducible apply regW_neT); (focus (dsimp only [ev_t, ev_c, getD_zero, getD_succ]; try exact rfl)); (focus (dsimp only [ev_t, ev_c, getD_zero, getD_succ]; try exact rfl)); (focus (dsimp only [vals?, Cel.enc, Val.enc, Option.map_some]; try exact rfl)); (focus (dsimp only [vals?, Cel.enc, Val.enc, Option.map_some]; try exact rfl)); (focus (first | exact eqVz _ | exact eqzV _ | exact eqV _ _ | exact eqC _ _)); (focus (dsimp only [set_zero, set_succ]; try exact rfl)))
    | ((with_reducible apply regW_bs1); (focus (dsimp only [ev_t, ev_c, getD_zero, getD_succ]; try exact rfl)); (focus (with_unfolding_all exact rfl)); (focus (with_unfolding_all exact rfl)); (focus (with_unfolding_all exact rfl)); (focus (dsimp only [set_zero, set_succ, List.length_cons, List.length_nil, Nat.reduceAdd]; try exact rfl)); (focus (dsimp only [List.cons_append, List.nil_append]; try exact rfl)))
    | ((with_reducible apply regW_app); (focus (dsimp only [ev_t, ev_c, getD_zero, getD_succ]; try exact rfl)); (focus (dsimp only [sidx_zero, sidx_succ]; try exact rfl)); (focus (with_reducible exact rfl)); (focus (dsimp only [ev_t, ev_c, getD_zero, getD_succ]; try exact rfl)); (focus (dsimp only [sidx_zero, sidx_succ]; try exact rfl)); (focus (with_unfolding_all exact rfl)); (focus assumption); (focus decide); (focus (dsimp only [set_zero, set_succ, List.length_cons, List.length_nil, Nat.reduceAdd]; try exact rfl)); (focus (dsimp only [set_zero, set_succ, List.cons_append, List.nil_append]; try exact rfl)))
    | ((with_reducible apply regW_opS); (focus (dsimp only [semF, ev_t, ev_c, getD_zero, getD_succ, bin_lss, bin_leq, bin_gtr, bin_geq, bin_eql, bin_neq, bin_add, bin_sub, bin_mul, bin_and, bin_shr20, bin_rem20, un_not, cond_true, cond_false, Nat.reduceAdd, Bool.not_true, Bool.not_false, scalar, Bool.and_self, if_true, if_false, Bool.false_eq_true, Option.map_some, AV.cells?, getCells, sidx_zero, sidx_succ, List.length_cons, List.length_nil, List.nil_append, List.cons_append, List.append_nil, List.drop, List.take, splice, Cel.enc, Val.enc]; try exact rfl)); (focus (dsimp only [set_zero, set_succ]; try exact rfl)))
    | ((with_reducible apply regW_op); (focus (dsimp only [semF, ev_t, ev_c, getD_zero, getD_succ, bin_lss, bin_leq, bin_gtr, bin_geq, bin_eql, bin_neq, bin_add, bin_sub, bin_mul, bin_and, bin_shr20, bin_rem20, un_not, cond_true, cond_false, Nat.reduceAdd, Bool.not_true, Bool.not_false, scalar, Bool.and_self, if_true, if_false, Bool.false_eq_true, Option.map_some, AV.cells?, getCells, sidx_zero, sidx_succ, List.length_cons, List.length_nil, List.nil_append, List.cons_append, List.append_nil, List.drop, List.take, splice]; try exact rfl)); (focus (dsimp only [set_zero, set_succ]; try exact rfl)))
    | ((with_reducible apply regW_shut'); (focus (dsimp only [getD_zero, getD_succ]; try (with_reducible exact rfl); done)); (focus (dsimp only [set_zero, set_succ]; try exact rfl)))
    | ((with_reducible apply regW_splitT); (focus (dsimp only [getD_zero, getD_succ]; try exact rfl)); all_goals (intro hc; (try dsimp only [set_zero, set_succ]); (try (with_reducible cases hc)); (try (with_reducible contradiction)); (try rw [hc])))
    | ((with_reducible apply regW_splitF); (focus (dsimp only [getD_zero, getD_succ]; try exact rfl)); all_goals (intro hc; (try dsimp only [set_zero, set_succ]); (try (with_reducible cases hc)); (try (with_reducible contradiction)); (try rw [hc])))
    | ((with_reducible apply regW_opN); (focus (dsimp only [semF, ev_t, ev_c, getD_zero, getD_succ, bin_lss, bin_leq, bin_gtr, bin_geq, bin_eql, bin_neq, bin_add, bin_sub, bin_mul, bin_and, bin_shr20, bin_rem20, un_not, cond_true, cond_false, Nat.reduceAdd, Bool.not_true, Bool.not_false, scalar, Bool.and_self, if_true, if_false, Bool.false_eq_true, Option.map_some, AV.cells?, getCells, sidx_zero, sidx_succ, List.length_cons, List.length_nil, List.nil_append, List.cons_append, List.append_nil, List.drop, List.take, splice, set_zero, set_succ]; try exact rfl)))
    | ((with_reducible apply G_cond); (focus (dsimp only [ev_t, ev_c, getD_zero, getD_succ]; try exact rfl)); all_goals (intro hc; (try (with_reducible cases hc)); (try (with_reducible contradiction)))))
      refine ⟨_, rfl, .inl ⟨_, rfl, ?_⟩⟩
      rw [hI, List.drop_eq_nil_of_le (by omega)]
      rfl

set_option maxHeartbeats 1000000 in
theorem c23 (l : List Cel) (id : Int) (hl : l.length ≤ 100000) : Contract Try.prog 23 [encL l, .v (.int .i64 id)] (.fresh 31 6 ((ofB id l).map Cel.enc)) := by
  unfold encL
  refine contract_g (fr := [.vs (l.map Cel.enc), .v (.int .i64 id), .v undef, .v undef, .v undef, .v undef, .v undef, .v undef, .v undef, .v undef, .v undef, .v undef, .v undef, .v undef, .v undef, .v undef, .v undef, .v undef, .v undef, .v undef, .v undef, .v undef, .v undef, .v undef]) Try.func23 a23_ok rfl ?_
  dsimp only [a23]
  (repeat' first
    | with_reducible refine G_seq ?_
    | with_reducible refine G_reg ?_
    | with_reducible refine regW_nil ?_
    | with_reducible refine Nx_code ?_
    | with_reducible refine Nx_blk ?_
    | with_reducible refine Ex_blk ?_
    | with_reducible refine Ex_code ?_
    | with_reducible refine Ex_inv ?_
    | with_reducible refine G_exit ?_
    | with_reducible refine G_block ?_
    | with_reducible refine G_ret ?_
    | with_reducible refine G_skip ?_
    | ((with_reducible refine G_draw mixed (by decide +kernel) ?_))
    | ((with_reducible apply regW_iaM); (focus (dsimp only [ev_t, ev_c, getD_zero, getD_succ]; try exact rfl)); (focus (dsimp only [ev_t, ev_c, getD_zero, getD_succ]; try exact rfl)); (focus assumption); (focus (with_unfolding_all exact rfl)); (focus (dsimp only [set_zero, set_succ]; try exact rfl)))
    | ((with_reducible apply regW_lenM); (focus (dsimp only [ev_t, ev_c, getD_zero, getD_succ]; try exact rfl)); (focus (dsimp only [set_zero, set_succ]; try exact rfl)))
    | ((with_reducible apply regW_add); (focus (dsimp only [ev_t, ev_c, getD_zero, getD_succ]; try exact rfl)); (focus (dsimp only [ev_t, ev_c, getD_zero, getD_succ]; try exact rfl)); (focus (first | assumption | exact rfl)); (focus (dsimp only [set_zero, set_succ]; try exact rfl)))
    | ((with_reducible apply regW_sub); (focus (dsimp only [ev_t, ev_c, getD_zero, getD_succ]; try exact rfl)); (focus (dsimp only [ev_t, ev_c, getD_zero, getD_succ]; try exact rfl)); (focus (first | assumption | exact rfl)); (focus (dsimp only [set_zero, set_succ]; try exact rfl)))
    | ((with_reducible apply regW_ldE); (focus (dsimp only [ev_t, ev_c, getD_zero, getD_succ]; try exact rfl)); (focus (with_unfolding_all exact rfl)); (focus (dsimp only [set_zero, set_succ]; try exact rfl)))
    | ((with_reducible apply regW_ldB); (focus (dsimp only [ev_t, ev_c, getD_zero, getD_succ]; try exact rfl)); (focus (dsimp only [sidx_zero, sidx_succ]; try exact rfl)); (focus (with_unfolding_all exact rfl)); (focus (dsimp only [set_zero, set_succ]; try exact rfl)))
    | ((with_reducible apply regW_stB); (focus (dsimp only [ev_t, ev_c, getD_zero, getD_succ]; try exact rfl)); (focus (dsimp only [ev_t, ev_c, getD_zero, getD_succ]; try exact rfl)); (focus (dsimp only [sidx_zero, sidx_succ]; try exact rfl)); (focus (with_unfolding_all exact rfl)); (focus (with_unfolding_all exact rfl)); (focus (with_unfolding_all exact rfl)); (focus (dsimp only [set_zero, set_succ]; try exact rfl)))
    | ((with_reducible apply regW_eqT); (focus (dsimp only [ev_t, ev_c, getD_zero, getD_succ]; try exact rfl)); (focus (dsimp only [ev_t, ev_c, getD_zero, getD_succ]; try exact rfl)); (focus (dsimp only [vals?, Cel.enc, Val.enc, Option.map_some]; try exact rfl)); (focus (dsimp only [vals?, Cel.enc, Val.enc, Option.map_some]; try exact rfl)); (focus (first | exact eqVz _ | exact eqzV _ | exact eqV _ _ | exact eqC _ _)); (focus (dsimp only [set_zero, set_succ]; try exact rfl)))
    | ((with_reducible apply regW_neT); (focus (dsimp only [ev_t, ev_c, getD_zero, getD_succ]; try exact rfl)); (focus (dsimp only [ev_t, ev_c, getD_zero, getD_succ]; try exact rfl)); (focus (dsimp only [vals?, Cel.enc, Val.enc, Option.map_some]; try exact rfl)); (focus (dsimp only [vals?, Cel.enc, Val.enc, Option.map_some]; try exact rfl)); (focus (first | exact eqVz _ | exact eqzV _ | exact eqV _ _ | exact eqC _ _)); (focus (dsimp only [set_zero, set_succ]; try exact rfl)))
    | ((with_reducible apply regW_bs1); (focus (dsimp only [ev_t, ev_c, getD_zero, getD_succ]; try exact rfl)); (focus (with_unfolding_all exact rfl)); (focus (with_unfolding_all exact rfl)); (focus (with_unfolding_all exact rfl)); (focus (dsimp only [set_zero, set_succ, List.length_cons, List.length_nil, Nat.reduceAdd]; try exact rfl)); (focus (dsimp only [List.cons_append, List.nil_append]; try exact rfl)))
    | ((with_reducible apply regW_app); (focus (dsimp only [ev_t, ev_c, getD_zero, getD_succ]; try exact rfl)); (focus (dsimp only [sidx_zero, sidx_succ]; try exact rfl)); (focus (with_reducible exact rfl)); (focus (dsimp only [ev_t, ev_c, getD_zero, getD_succ]; try exact rfl)); (focus (dsimp only [sidx_zero, sidx_succ]; try exact rfl)); (focus (with_unfolding_all exact rfl)); (focus assumption); (focus decide); (focus (dsimp only [set_zero, set_succ, List.length_cons, List.length_nil, Nat.reduceAdd]; try exact rfl)); (focus (dsimp only [set_zero, set_succ, List.cons_append, List.nil_append]; try exact rfl)))
    | ((with_reducible apply regW_opS); (focus (dsimp only [semF, ev_t, ev_c, getD_zero, getD_succ, bin_lss, bin_leq, bin_gtr, bin_geq, bin_eql, bin_neq, bin_add, bin_sub, bin_mul, bin_and, bin_shr20, bin_rem20, un_not, cond_true, cond_false, Nat.reduceAdd, Bool.not_true, Bool.not_false, scalar, Bool.and_self, if_true, if_false, Bool.false_eq_true, Option.map_some, AV.cells?, getCells, sidx_zero, sidx_succ, List.length_cons, List.length_nil, List.nil_append, List.cons_append, List.append_nil, List.drop, List.take, splice, Cel.enc, Val.enc]; try exact rfl)); (focus (dsimp only [set_zero, set_succ]; try exact rfl)))
    | ((with_reducible apply regW_op); (focus (dsimp only [semF, ev_t, ev_c, getD_zero, getD_succ, bin_lss, bin_leq, bin_gtr, bin_geq, bin_eql, bin_neq, bin_add, bin_sub, bin_mul, bin_and, bin_shr20, bin_rem20, un_not, cond_true, cond_false, Nat.reduceAdd, Bool.not_true, Bool.not_false, scalar, Bool.and_self, if_true, if_false, Bool.false_eq_true, Option.map_some, AV.cells?, getCells, sidx_zero, sidx_succ, List.length_cons, List.length_nil, List.nil_append, List.cons_append, List.append_nil, List.drop, List.take, splice]; try exact rfl)); (focus (dsimp only [set_zero, set_succ]; try exact rfl)))
    | ((with_reducible apply regW_shut'); (focus (dsimp only [getD_zero, getD_succ]; try (with_reducible exact rfl); done)); (focus (dsimp only [set_zero, set_succ]; try exact rfl)))
    | ((with_reducible apply regW_splitT); (focus (dsimp only [getD_zero, getD_succ]; try exact rfl)); all_goals (intro hc; (try dsimp only [set_zero, set_succ]); (try (with_reducible cases hc)); (try (with_reducible contradiction)); (try rw [hc])))
    | ((with_reducible apply regW_splitF); (focus (dsimp only [getD_zero, getD_succ]; try exact rfl)); all_goals (intro hc; (try dsimp only [set_zero, set_succ]); (try (with_reducible cases hc)); (try (with_reducible contradiction)); (try rw [hc])))
    | ((with_reducible apply regW_opN); (focus (dsimp only [semF, ev_t, ev_c, getD_zero, getD_succ, bin_lss, bin_leq, bin_gtr, bin_geq, bin_eql, bin_neq, bin_add, bin_sub, bin_mul, bin_and, bin_shr20, bin_rem20, un_not, cond_true, cond_false, Nat.reduceAdd, Bool.not_true, Bool.not_false, scalar, Bool.and_self, if_true, if_false, Bool.false_eq_true, Option.map_some, AV.cells?, getCells, sidx_zero, sidx_succ, List.length_cons, List.length_nil, List.nil_append, List.cons_append, List.append_nil, List.drop, List.take, splice, set_zero, set_succ]; try exact rfl)))
    | ((with_reducible apply G_cond); (focus (dsimp only [ev_t, ev_c, getD_zero, getD_succ]; try exact rfl)); all_goals (intro hc; (try (with_reducible cases hc)); (try (with_reducible contradiction)))))
  refine G_nil 5 31 6 rfl rfl ?_
  refine G_loopF (fun g : Nat × List Cel => ⟨[.vs (l.map Cel.enc), .v (.int .i64 id), .und, .und, .und, .own 0 0 g.2.length, .und, .und, .vs (l.map Cel.enc), .v (.int .i64 (l.length : Int)), .v (.int .i64 (g.1 : Int)), .und, .und, .und, .und, .und, .und, .und, .und, .und, .und, .und, .und, .und], [.row true 31 6 (g.2.map Cel.enc)]⟩) (fun g => g.1 ≤ l.length ∧ g.2.length ≤ g.1 ∧ ofB id l = g.2 ++ ofB id (l.drop g.1)) (fun g => l.length - g.1) (0, []) [0] ?_ ⟨by simp, by simp, rfl⟩ ?_
  · (refine ⟨by decide, rfl, ?_, ?_⟩ <;> repeat' first
      | exact True.intro
      | ((refine And.intro (Or.inl ?_) ?_); (focus (with_reducible exact rfl)))
      | ((refine And.intro (Or.inr (And.intro ?_ (And.intro rfl rfl))) ?_); (focus (dsimp only [AV.ren, getD_zero, getD_succ]; try (with_reducible exact rfl); done)))
      | (refine And.intro (Or.inr (And.intro ?_ (And.intro rfl rfl))) ?_)
      | (with_reducible exact weakO_row rfl)
      | (refine And.intro (Exists.intro _ (And.intro rfl ?_)) ?_)
      | (refine Exists.intro _ (And.intro rfl ?_))
      | (with_reducible exact rfl))
    all_goals rfl
  · intro ⟨k, acc⟩ ⟨hk, ha, hI⟩
    dsimp only at hk ha hI ⊢
    by_cases hlt : k < l.length
    · have hck : l[k]? = some l[k] := List.getElem?_eq_getElem hlt
      generalize l[k] = c at hck
      have hd : ¬ (decide ((k : Int) < (l.length : Int)) = false) := by simp; omega
      have hw1 := wrap_succ k (by omega)
      have hroom : (acc.length + 1) * 56 ≤ maxRow := by unfold maxRow; omega
      have hat : ofB id (l.drop k) = if c.id == id then c :: ofB id (l.drop (k + 1)) else ofB id (l.drop (k + 1)) := by rw [drop_at hck]; simp [ofB, List.filter_cons]
      (repeat' first
    | with_reducible refine G_seq ?_
    | with_reducible refine G_reg ?_
    | with_reducible refine regW_nil ?_
    | with_reducible refine Nx_code ?_
    | with_reducible refine Nx_blk ?_
    | with_reducible refine Ex_blk ?_
    | with_reducible refine Ex_code ?_
    | with_reducible refine Ex_inv ?_
    | with_reducible refine G_exit ?_
    | with_reducible refine G_block ?_
    | with_reducible refine G_ret ?_
    | with_reducible refine G_skip ?_
    | ((with_reducible refine G_draw mixed (by decide +kernel) ?_))
    | ((with_reducible apply regW_iaM); (focus (dsimp only [ev_t, ev_c, getD_zero, getD_succ]; try exact rfl)); (focus (dsimp only [ev_t, ev_c, getD_zero, getD_succ]; try exact rfl)); (focus assumption); (focus (with_unfolding_all exact rfl)); (focus (dsimp only [set_zero, set_succ]; try exact rfl)))
    | ((with_reducible apply regW_lenM); (focus (dsimp only [ev_t, ev_c, getD_zero, getD_succ]; try exact rfl)); (focus (dsimp only [set_zero, set_succ]; try exact rfl)))
    | ((with_reducible apply regW_add); (focus (dsimp only [ev_t, ev_c, getD_zero, getD_succ]; try exact rfl)); (focus (dsimp only [ev_t, ev_c, getD_zero, getD_succ]; try exact rfl)); (focus (first | assumption | exact rfl)); (focus (dsimp only [set_zero, set_succ]; try exact rfl)))
    | ((with_reducible apply regW_sub); (focus (dsimp only [ev_t, ev_c, getD_zero, getD_succ]; try exact rfl)); (focus (dsimp only [ev_t, ev_c, getD_zero, getD_succ]; try exact rfl)); (focus (first | assumption | exact rfl)); (focus (dsimp only [set_zero, set_succ]; try exact rfl)))
    | ((with_reducible apply regW_ldE); (focus (dsimp only [ev_t, ev_c, getD_zero, getD_succ]; try exact rfl)); (focus (with_unfolding_all exact rfl)); (focus (dsimp only [set_zero, set_succ]; try exact rfl)))
    | ((with_reducible apply regW_ldB); (focus (dsimp only [ev_t, ev_c, getD_zero, getD_succ]; try exact rfl)); (focus (dsimp only [sidx_zero, sidx_succ]; try exact rfl)); (focus (with_unfolding_all exact rfl)); (focus (dsimp only [set_zero, set_succ]; try exact rfl)))
    | ((with_reducible apply regW_stB); (focus (dsimp only [ev_t, ev_c, getD_zero, getD_succ]; try exact rfl)); (focus (dsimp only [ev_t, ev_c, getD_zero, getD_succ]; try exact rfl)); (focus (dsimp only [sidx_zero, sidx_succ]; try exact rfl)); (focus (with_unfolding_all exact rfl)); (focus (with_unfolding_all exact rfl)); (focus (with_unfolding_all exact rfl)); (focus (dsimp only [set_zero, set_succ]; try exact rfl)))
    | ((with_reducible apply regW_eqT); (focus (dsimp only [ev_t, ev_c, getD_zero, getD_succ]; try exact rfl)); (focus (dsimp only [ev_t, ev_c, getD_zero, getD_succ]; try exact rfl)); (focus (dsimp only [vals?, Cel.enc, Val.enc, Option.map_some]; try exact rfl)); (focus (dsimp only [vals?, Cel.enc, Val.enc, Option.map_some]; try exact rfl)); (focus (first | exact eqVz _ | exact eqzV _ | exact eqV _ _ | exact eqC _ _)); (focus (dsimp only [set_zero, set_succ]; try exact rfl)))
    | ((with_reducible apply regW_neT); (focus (dsimp only [ev_t, ev_c, getD_zero, getD_succ]; try exact rfl)); (focus (dsimp only [ev_t, ev_c, getD_zero, getD_succ]; try exact rfl)); (focus (dsimp only [vals?, Cel.enc, Val.enc, Option.map_some]; try exact rfl)); (focus (dsimp only [vals?, Cel.enc, Val.enc, Option.map_some]; try exact rfl)); (focus (first | exact eqVz _ | exact eqzV _ | exact eqV _ _ | exact eqC _ _)); (focus (dsimp only [set_zero, set_succ]; try exact rfl)))
    | ((with_reducible apply regW_bs1); (focus (dsimp only [ev_t, ev_c, getD_zero, getD_succ]; try exact rfl)); (focus (with_unfolding_all exact rfl)); (focus (with_unfolding_all exact rfl)); (focus (with_unfolding_all exact rfl)); (focus (dsimp only [set_zero, set_succ, List.length_cons, List.length_nil, Nat.reduceAdd]; try exact rfl)); (focus (dsimp only [List.cons_append, List.nil_append]; try exact rfl)))
    | ((with_reducible apply regW_app); (focus (dsimp only [ev_t, ev_c, getD_zero, getD_succ]; try exact rfl)); (focus (dsimp only [sidx_zero, sidx_succ]; try exact rfl)); (focus (with_reducible exact rfl)); (focus (dsimp only [ev_t, ev_c, getD_zero, getD_succ]; try exact rfl)); (focus (dsimp only [sidx_zero, sidx_succ]; try exact rfl)); (focus (with_unfolding_all exact rfl)); (focus assumption); (focus decide); (focus (dsimp only [set_zero, set_succ, List.length_cons, List.length_nil, Nat.reduceAdd]; try exact rfl)); (focus (dsimp only [set_zero, set_succ, List.cons_append, List.nil_append]; try exact rfl)))
    | ((with_reducible apply regW_opS); (focus (dsimp only [semF, ev_t, ev_c, getD_zero, getD_succ, bin_lss, bin_leq, bin_gtr, bin_geq, bin_eql, bin_neq, bin_add, bin_sub, bin_mul, bin_and, bin_shr20, bin_rem20, un_not, cond_true, cond_false, Nat.reduceAdd, Bool.not_true, Bool.not_false, scalar, Bool.and_self, if_true, if_false, Bool.false_eq_true, Option.map_some, AV.cells?, getCells, sidx_zero, sidx_succ, List.length_cons, List.length_nil, List.nil_append, List.cons_append, List.append_nil, List.drop, List.take, splice, Cel.enc, Val.enc]; try exact rfl)); (focus (dsimp only [set_zero, set_succ]; try exact rfl)))
    | ((with_reducible apply regW_op); (focus (dsimp only [semF, ev_t, ev_c, getD_zero, getD_succ, bin_lss, bin_leq, bin_gtr, bin_geq, bin_eql, bin_neq, bin_add, bin_sub, bin_mul, bin_and, bin_shr20, bin_rem20, un_not, cond_true, cond_false, Nat.reduceAdd, Bool.not_true, Bool.not_false, scalar, Bool.and_self, if_true, if_false, Bool.false_eq_true, Option.map_some, AV.cells?, getCells, sidx_zero, sidx_succ, List.length_cons, List.length_nil, List.nil_append, List.cons_append, List.append_nil, List.drop, List.take, splice]; try exact rfl)); (focus (dsimp only [set_zero, set_succ]; try exact rfl)))
    | ((with_reducible apply regW_shut'); (focus (dsimp only [getD_zero, getD_succ]; try (with_reducible exact rfl); done)); (focus (dsimp only [set_zero, set_succ]; try exact rfl)))
    | ((with_reducible apply regW_splitT); (focus (dsimp only [getD_zero, getD_succ]; try exact rfl)); all_goals (intro hc; (try dsimp only [set_zero, set_succ]); (try (with_reducible cases hc)); (try (with_reducible contradiction)); (try rw [hc])))
    | ((with_reducible apply regW_splitF); (focus (dsimp only [getD_zero, getD_succ]; try exact rfl)); all_goals (intro hc; (try dsimp only [set_zero, set_succ]); (try (with_reducible cases hc)); (try (with_reducible contradiction)); (try rw [hc])))
    | ((with_reducible apply regW_opN); (focus (dsimp only [semF, ev_t, ev_c, getD_zero, getD_succ, bin_lss, bin_leq, bin_gtr, bin_geq, bin_eql, bin_neq, bin_add, bin_sub, bin_mul, bin_and, bin_shr20, bin_rem20, un_not, cond_true, cond_false, Nat.reduceAdd, Bool.not_true, Bool.not_false, scalar, Bool.and_self, if_true, if_false, Bool.false_eq_true, Option.map_some, AV.cells?, getCells, sidx_zero, sidx_succ, List.length_cons, List.length_nil, List.nil_append, List.cons_append, List.append_nil, List.drop, List.take, splice, set_zero, set_succ]; try exact rfl)))
    | ((with_reducible apply G_cond); (focus (dsimp only [ev_t, ev_c, getD_zero, getD_succ]; try exact rfl)); all_goals (intro hc; (try (with_reducible cases hc)); (try (with_reducible contradiction)))))
      all_goals first
        | (refine Nx_inv ⟨(k + 1, acc ++ [c]), [3], ?_, ⟨(by first | omega | (dsimp only; omega) | (simp; omega) | (simp only [List.length_append, List.length_cons, List.length_nil]; omega)), (by first | omega | (dsimp only; omega) | (simp; omega) | (simp only [List.length_append, List.length_cons, List.length_nil]; omega)), ?_⟩, (by first | omega | (dsimp only; omega) | (simp; omega) | (simp only [List.length_append, List.length_cons, List.length_nil]; omega))⟩; (focus ((refine ⟨by decide, rfl, ?_, ?_⟩ <;> repeat' first
      | exact True.intro
      | ((refine And.intro (Or.inl ?_) ?_); (focus (with_reducible exact rfl)))
      | ((refine And.intro (Or.inr (And.intro ?_ (And.intro rfl rfl))) ?_); (focus (dsimp only [AV.ren, getD_zero, getD_succ]; try (with_reducible exact rfl); done)))
      | (refine And.intro (Or.inr (And.intro ?_ (And.intro rfl rfl))) ?_)
      | (with_reducible exact weakO_row rfl)
      | (refine And.intro (Exists.intro _ (And.intro rfl ?_)) ?_)
      | (refine Exists.intro _ (And.intro rfl ?_))
      | (with_reducible exact rfl)) <;> fail)); (rw [hI, hat]; clear hI hat; simp_all))
        | (refine Nx_inv ⟨(k + 1, acc), [0], ?_, ⟨(by first | omega | (dsimp only; omega) | (simp; omega) | (simp only [List.length_append, List.length_cons, List.length_nil]; omega)), (by first | omega | (dsimp only; omega) | (simp; omega) | (simp only [List.length_append, List.length_cons, List.length_nil]; omega)), ?_⟩, (by first | omega | (dsimp only; omega) | (simp; omega) | (simp only [List.length_append, List.length_cons, List.length_nil]; omega))⟩; (focus ((refine ⟨by decide, rfl, ?_, ?_⟩ <;> repeat' first
      | exact True.intro
      | ((refine And.intro (Or.inl ?_) ?_); (focus (with_reducible exact rfl)))
      | ((refine And.intro (Or.inr (And.intro ?_ (And.intro rfl rfl))) ?_); (focus (dsimp only [AV.ren, getD_zero, getD_succ]; try (with_reducible exact rfl); done)))
      | (refine And.intro (Or.inr (And.intro ?_ (And.intro rfl rfl))) ?_)
      | (with_reducible exact weakO_row rfl)
      | (refine And.intro (Exists.intro _ (And.intro rfl ?_)) ?_)
      | (refine Exists.intro _ (And.intro rfl ?_))
      | (with_reducible exact rfl)) <;> fail)); (rw [hI, hat]; clear hI hat; simp_all))
    · have hd : ¬ (decide ((k : Int) < (l.length : Int)) = true) := by simp; omega
      (repeat' first
    | with_reducible refine G_seq ?_
    | with_reducible refine G_reg ?_
    | with_reducible refine regW_nil ?_
    | with_reducible refine Nx_code ?_
    | with_reducible refine Nx_blk ?_
    | with_reducible refine Ex_blk ?_
    | with_reducible refine Ex_code ?_
    | with_reducible refine Ex_inv ?_
    | with_reducible refine G_exit ?_
    | with_reducible refine G_block ?_
    | with_reducible refine G_ret ?_
    | with_reducible refine G_skip ?_
    | ((with_reducible refine G_draw mixed (by decide +kernel) ?_))
    | ((with_reducible apply regW_iaM); (focus (dsimp only [ev_t, ev_c, getD_zero, getD_succ]; try exact rfl)); (focus (dsimp only [ev_t, ev_c, getD_zero, getD_succ]; try exact rfl)); (focus assumption); (focus (with_unfolding_all exact rfl)); (focus (dsimp only [set_zero, set_succ]; try exact rfl)))
    | ((with_reducible apply regW_lenM); (focus (dsimp only [ev_t, ev_c, getD_zero, getD_succ]; try exact rfl)); (focus (dsimp only [set_zero, set_succ]; try exact rfl)))
    | ((with_reducible apply regW_add); (focus (dsimp only [ev_t, ev_c, getD_zero, getD_succ]; try exact rfl)); (focus (dsimp only [ev_t, ev_c, getD_zero, getD_succ]; try exact rfl)); (focus (first | assumption | exact rfl)); (focus (dsimp only [set_zero, set_succ]; try exact rfl)))
    | ((with_reducible apply regW_sub); (focus (dsimp only [ev_t, ev_c, getD_zero, getD_succ]; try exact rfl)); (focus (dsimp only [ev_t, ev_c, getD_zero, getD_succ]; try exact rfl)); (focus (first | assumption | exact rfl)); (focus (dsimp only [set_zero, set_succ]; try exact rfl)))
    | ((with_reducible apply regW_ldE); (focus (dsimp only [ev_t, ev_c, getD_zero, getD_succ]; try exact rfl)); (focus (with_unfolding_all exact rfl)); (focus (dsimp only [set_zero, set_succ]; try exact rfl)))
    | ((with_reducible apply regW_ldB); (focus (dsimp only [ev_t, ev_c, getD_zero, getD_succ]; try exact rfl)); (focus (dsimp only [sidx_zero, sidx_succ]; try exact rfl)); (focus (with_unfolding_all exact rfl)); (focus (dsimp only [set_zero, set_succ]; try exact rfl)))
    | ((with_reducible apply regW_stB); (focus (dsimp only [ev_t, ev_c, getD_zero, getD_succ]; try exact rfl)); (focus (dsimp only [ev_t, ev_c, getD_zero, getD_succ]; try exact rfl)); (focus (dsimp only [sidx_zero, sidx_succ]; try exact rfl)); (focus (with_unfolding_all exact rfl)); (focus (with_unfolding_all exact rfl)); (focus (with_unfolding_all exact rfl)); (focus (dsimp only [set_zero, set_succ]; try exact rfl)))
    | ((with_reducible apply regW_eqT); (focus (dsimp only [ev_t, ev_c, getD_zero, getD_succ]; try exact rfl)); (focus (dsimp only [ev_t, ev_c, getD_zero, getD_succ]; try exact rfl)); (focus (dsimp only [vals?, Cel.enc, Val.enc, Option.map_some]; try exact rfl)); (focus (dsimp only [vals?, Cel.enc, Val.enc, Option.map_some]; try exact rfl)); (focus (first | exact eqVz _ | exact eqzV _ | exact eqV _ _ | exact eqC _ _)); (focus (dsimp only [set_zero, set_succ]; try exact rfl)))
    | ((with_reducible apply regW_neT); (focus (dsimp only [ev_t, ev_c, getD_zero, getD_succ]; try exact rfl)); (focus (dsimp only [ev_t, ev_c, getD_zero, getD_succ]; try exact rfl)); (focus (dsimp only [vals?, Cel.enc, Val.enc, Option.map_some]; try exact rfl)); (focus (dsimp only [vals?, Cel.enc, Val.enc, Option.map_some]; try exact rfl)); (focus (first | exact eqVz _ | exact eqzV _ | exact eqV _ _ | exact eqC _ _)); (focus (dsimp only [set_zero, set_succ]; try exact rfl)))
    | ((with_reducible apply regW_bs1); (focus (dsimp only [ev_t, ev_c, getD_zero, getD_succ]; try exact rfl)); (focus (with_unfolding_all exact rfl)); (focus (with_unfolding_all exact rfl)); (focus (with_unfolding_all exact rfl)); (focus (dsimp only [set_zero, set_succ, List.length_cons, List.length_nil, Nat.reduceAdd]; try exact rfl)); (focus (dsimp only [List.cons_append, List.nil_append]; try exact rfl)))
    | ((with_reducible apply regW_app); (focus (dsimp only [ev_t, ev_c, getD_zero, getD_succ]; try exact rfl)); (focus (dsimp only [sidx_zero, sidx_succ]; try exact rfl)); (focus (with_reducible exact rfl)); (focus (dsimp only [ev_t, ev_c, getD_zero, getD_succ]; try exact rfl)); (focus (dsimp only [sidx_zero, sidx_succ]; try exact rfl)); (focus (with_unfolding_all exact rfl)); (focus assumption); (focus decide); (focus (dsimp only [set_zero, set_succ, List.length_cons, List.length_nil, Nat.reduceAdd]; try exact rfl)); (focus (dsimp only [set_zero, set_succ, List.cons_append, List.nil_append]; try exact rfl)))
    | ((with_reducible apply regW_opS); (focus (dsimp only [semF, ev_t, ev_c, getD_zero, getD_succ, bin_lss, bin_leq, bin_gtr, bin_geq, bin_eql, bin_neq, bin_add, bin_sub, bin_mul, bin_and, bin_shr20, bin_rem20, un_not, cond_true, cond_false, Nat.reduceAdd, Bool.not_true, Bool.not_false, scalar, Bool.and_self, if_true, if_false, Bool.false_eq_true, Option.map_some, AV.cells?, getCells, sidx_zero, sidx_succ, List.length_cons, List.length_nil, List.nil_append, List.cons_append, List.append_nil, List.drop, List.take, splice, Cel.enc, Val.enc]; try exact rfl)); (focus (dsimp only [set_zero, set_succ]; try exact rfl)))
    | ((with_reducible apply regW_op); (focus (dsimp only [semF, ev_t, ev_c, getD_zero, getD_succ, bin_lss, bin_leq, bin_gtr, bin_geq, bin_eql, bin_neq, bin_add, bin_sub, bin_mul, bin_and, bin_shr20, bin_rem20, un_not, cond_true, cond_false, Nat.reduceAdd, Bool.not_true, Bool.not_false, scalar, Bool.and_self, if_true, if_false, Bool.false_eq_true, Option.map_some, AV.cells?, getCells, sidx_zero, sidx_succ, List.length_cons, List.length_nil, List.nil_append, List.cons_append, List.append_nil, List.drop, List.take, splice]; try exact rfl)); (focus (dsimp only [set_zero, set_succ]; try exact rfl)))
    | ((with_reducible apply regW_shut'); (focus (dsimp only [getD_zero, getD_succ]; try (with_reducible exact rfl); done)); (focus (dsimp only [set_zero, set_succ]; try exact rfl)))
    | ((with_reducible apply regW_splitT); (focus (dsimp only [getD_zero, getD_succ]; try exact rfl)); all_goals (intro hc; (try dsimp only [set_zero, set_succ]); (try (with_reducible cases hc)); (try (with_reducible contradiction)); (try rw [hc])))
    | ((with_reducible apply regW_splitF); (focus (dsimp only [getD_zero, getD_succ]; try exact rfl)); all_goals (intro hc; (try dsimp only [set_zero, set_succ]); (try (with_reducible cases hc)); (try (with_reducible contradiction)); (try rw [hc])))
    | ((with_reducible apply regW_opN); (focus (dsimp only [semF, ev_t, ev_c, getD_zero, getD_succ, bin_lss, bin_leq, bin_gtr, bin_geq, bin_eql, bin_neq, bin_add, bin_sub, bin_mul, bin_and, bin_shr20, bin_rem20, un_not, cond_true, cond_false, Nat.reduceAdd, Bool.not_true, Bool.not_false, scalar, Bool.and_self, if_true, if_false, Bool.false_eq_true, Option.map_some, AV.cells?, getCells, sidx_zero, sidx_succ, List.length_cons, List.length_nil, List.nil_append, List.cons_append, List.append_nil, List.drop, List.take, splice, set_zero, set_succ]; try exact rfl)))
    | ((with_reducible apply G_cond); (focus (dsimp only [ev_t, ev_c, getD_zero, getD_succ]; try exact rfl)); all_goals (intro hc; (try (with_reducible cases hc)); (try (with_reducible contradiction)))))
      rw [List.drop_eq_nil_of_le (by omega)] at hI
      have hI2 : ofB id l = acc := by rw [hI]; simp [ofB]
      rw [hI2]
      exact ⟨_, rfl, .inr (.inl ⟨0, 31, 6, acc.map Cel.enc, by simp, rfl, rfl⟩)⟩
set_option maxHeartbeats 1000000 in
theorem c24 (l : List Cel) (id : Int) (hl : l.length ≤ 100000) : Contract Try.prog 24 [encL l, .v (.int .i64 id)] (.fresh 31 6 ((ofB id l).map Cel.enc)) := by
  unfold encL
  refine contract_g (fr := [.vs (l.map Cel.enc), .v (.int .i64 id), .v undef, .v undef, .v undef, .v undef, .v undef, .v undef, .v undef, .v undef, .v undef, .v undef, .v undef, .v undef, .v undef, .v undef, .v undef, .v undef, .v undef, .v undef, .v undef, .v undef, .v undef, .v undef, .v undef, .v undef, .v undef, .v undef]) Try.func24 a24_ok rfl ?_
  dsimp only [a24]
  (repeat' first
    | with_reducible refine G_seq ?_
    | with_reducible refine G_reg ?_
    | with_reducible refine regW_nil ?_
    | with_reducible refine Nx_code ?_
    | with_reducible refine Nx_blk ?_
    | with_reducible refine Ex_blk ?_
    | with_reducible refine Ex_code ?_
    | with_reducible refine Ex_inv ?_
    | with_reducible refine G_exit ?_
    | with_reducible refine G_block ?_
    | with_reducible refine G_ret ?_
    | with_reducible refine G_skip ?_
    | ((with_reducible refine G_draw mixed (by decide +kernel) ?_))
    | ((with_reducible apply regW_iaM); (focus (dsimp only [ev_t, ev_c, getD_zero, getD_succ]; try exact rfl)); (focus (dsimp only [ev_t, ev_c, getD_zero, getD_succ]; try exact rfl)); (focus assumption); (focus (with_unfolding_all exact rfl)); (focus (dsimp only [set_zero, set_succ]; try exact rfl)))
    | ((with_reducible apply regW_lenM); (focus (dsimp only [ev_t, ev_c, getD_zero, getD_succ]; try exact rfl)); (focus (dsimp only [set_zero, set_succ]; try exact rfl)))
    | ((with_reducible apply regW_add); (focus (dsimp only [ev_t, ev_c, getD_zero, getD_succ]; try exact rfl)); (focus (dsimp only [ev_t, ev_c, getD_zero, getD_succ]; try exact rfl)); (focus (first | assumption | exact rfl)); (focus (dsimp only [set_zero, set_succ]; try exact rfl)))
    | ((with_reducible apply regW_sub); (focus (dsimp only [ev_t, ev_c, getD_zero, getD_succ]; try exact rfl)); (focus (dsimp only [ev_t, ev_c, getD_zero, getD_succ]; try exact rfl)); (focus (first | assumption | exact rfl)); (focus (dsimp only [set_zero, set_succ]; try exact rfl)))
    | ((with_reducible apply regW_ldE); (focus (dsimp only [ev_t, ev_c, getD_zero, getD_succ]; try exact rfl)); (focus (with_unfolding_all exact rfl)); (focus (dsimp only [set_zero, set_succ]; try exact rfl)))
    | ((with_reducible apply regW_ldB); (focus (dsimp only [ev_t, ev_c, getD_zero, getD_succ]; try exact rfl)); (focus (dsimp only [sidx_zero, sidx_succ]; try exact rfl)); (focus (with_unfolding_all exact rfl)); (focus (dsimp only [set_zero, set_succ]; try exact rfl)))
    | ((with_reducible apply regW_stB); (focus (dsimp only [ev_t, ev_c, getD_zero, getD_succ]; try exact rfl)); (focus (dsimp only [ev_t, ev_c, getD_zero, getD_succ]; try exact rfl)); (focus (dsimp only [sidx_zero, sidx_succ]; try exact rfl)); (focus (with_unfolding_all exact rfl)); (focus (with_unfolding_all exact rfl)); (focus (with_unfolding_all exact rfl)); (focus (dsimp only [set_zero, set_succ]; try exact rfl)))
    | ((with_reducible apply regW_eqT); (focus (dsimp only [ev_t, ev_c, getD_zero, getD_succ]; try exact rfl)); (focus (dsimp only [ev_t, ev_c, getD_zero, getD_succ]; try exact rfl)); (focus (dsimp only [vals?, Cel.enc, Val.enc, Option.map_some]; try exact rfl)); (focus (dsimp only [vals?, Cel.enc, Val.enc, Option.map_some]; try exact rfl)); (focus (first | exact eqVz _ | exact eqzV _ | exact eqV _ _ | exact eqC _ _)); (focus (dsimp only [set_zero, set_succ]; try exact rfl)))
    | ((with_reducible apply regW_neT); (focus (dsimp only [ev_t, ev_c, getD_zero, getD_succ]; try exact rfl)); (focus (dsimp only [ev_t, ev_c, getD_zero, getD_succ]; try exact rfl)); (focus (dsimp only [vals?, Cel.enc, Val.enc, Option.map_some]; try exact rfl)); (focus (dsimp only [vals?, Cel.enc, Val.enc, Option.map_some]; try exact rfl)); (focus (first | exact eqVz _ | exact eqzV _ | exact eqV _ _ | exact eqC _ _)); (focus (dsimp only [set_zero, set_succ]; try exact rfl)))
    | ((with_reducible apply regW_bs1); (focus (dsimp only [ev_t, ev_c, getD_zero, getD_succ]; try exact rfl)); (focus (with_unfolding_all exact rfl)); (focus (with_unfolding_all exact rfl)); (focus (with_unfolding_all exact rfl)); (focus (dsimp only [set_zero, set_succ, List.length_cons, List.length_nil, Nat.reduceAdd]; try exact rfl)); (focus (dsimp only [List.cons_append, List.nil_append]; try exact rfl)))
    | ((with_reducible apply regW_app); (focus (dsimp only [ev_t, ev_c, getD_zero, getD_succ]; try exact rfl)); (focus (dsimp only [sidx_zero, sidx_succ]; try exact rfl)); (focus (with_reducible exact rfl)); (focus (dsimp only [ev_t, ev_c, getD_zero, getD_succ]; try exact rfl)); (focus (dsimp only [sidx_zero, sidx_succ]; try exact rfl)); (focus (with_unfolding_all exact rfl)); (focus assumption); (focus decide); (focus (dsimp only [set_zero, set_succ, List.length_cons, List.length_nil, Nat.reduceAdd]; try exact rfl)); (focus (dsimp only [set_zero, set_succ, List.cons_append, List.nil_append]; try exact rfl)))
    | ((with_reducible apply regW_opS); (focus (dsimp only [semF, ev_t, ev_c, getD_zero, getD_succ, bin_lss, bin_leq, bin_gtr, bin_geq, bin_eql, bin_neq, bin_add, bin_sub, bin_mul, bin_and, bin_shr20, bin_rem20, un_not, cond_true, cond_false, Nat.reduceAdd, Bool.not_true, Bool.not_false, scalar, Bool.and_self, if_true, if_false, Bool.false_eq_true, Option.map_some, AV.cells?, getCells, sidx_zero, sidx_succ, List.length_cons, List.length_nil, List.nil_append, List.cons_append, List.append_nil, List.drop, List.take, splice, Cel.enc, Val.enc]; try exact rfl)); (focus (dsimp only [set_zero, set_succ]; try exact rfl)))
    | ((with_reducible apply regW_op); (focus (dsimp only [semF, ev_t, ev_c, getD_zero, getD_succ, bin_lss, bin_leq, bin_gtr, bin_geq, bin_eql, bin_neq, bin_add, bin_sub, bin_mul, bin_and, bin_shr20, bin_rem20, un_not, cond_true, cond_false, Nat.reduceAdd, Bool.not_true, Bool.not_false, scalar, Bool.and_self, if_true, if_false, Bool.false_eq_true, Option.map_some, AV.cells?, getCells, sidx_zero, sidx_succ, List.length_cons, List.length_nil, List.nil_append, List.cons_append, List.append_nil, List.drop, List.take, splice]; try exact rfl)); (focus (dsimp only [set_zero, set_succ]; try exact rfl)))
    | ((with_reducible apply regW_shut'); (focus (dsimp only [getD_zero, getD_succ]; try (with_reducible exact rfl); done)); (focus (dsimp only [set_zero, set_succ]; try exact rfl)))
    | ((with_reducible apply regW_splitT); (focus (dsimp only [getD_zero, getD_succ]; try exact rfl)); all_goals (intro hc; (try dsimp only [set_zero, set_succ]); (try (with_reducible cases hc)); (try (with_reducible contradiction)); (try rw [hc])))
    | ((with_reducible apply regW_splitF); (focus (dsimp only [getD_zero, getD_succ]; try exact rfl)); all_goals (intro hc; (try dsimp only [set_zero, set_succ]); (try (with_reducible cases hc)); (try (with_reducible contradiction)); (try rw [hc])))
    | ((with_reducible apply regW_opN); (focus (dsimp only [semF, ev_t, ev_c, getD_zero, getD_succ, bin_lss, bin_leq, bin_gtr, bin_geq, bin_eql, bin_neq, bin_add, bin_sub, bin_mul, bin_and, bin_shr20, bin_rem20, un_not, cond_true, cond_false, Nat.reduceAdd, Bool.not_true, Bool.not_false, scalar, Bool.and_self, if_true, if_false, Bool.false_eq_true, Option.map_some, AV.cells?, getCells, sidx_zero, sidx_succ, List.length_cons, List.length_nil, List.nil_append, List.cons_append, List.append_nil, List.drop, List.take, splice, set_zero, set_succ]; try exact rfl)))
    | ((with_reducible apply G_cond); (focus (dsimp only [ev_t, ev_c, getD_zero, getD_succ]; try exact rfl)); all_goals (intro hc; (try (with_reducible cases hc)); (try (with_reducible contradiction)))))
  refine G_nil 5 31 6 rfl rfl ?_
  refine G_loopF (fun g : Nat × List Cel => ⟨[.vs (l.map Cel.enc), .v (.int .i64 id), .und, .und, .und, .own 0 0 g.2.length, .v (.int .i64 (g.1 : Int)), .und, .und, .und, .und, .und, .und, .und, .und, .und, .und, .und, .und, .und, .und, .und, .und, .und, .und, .und, .und, .und], [.row true 31 6 (g.2.map Cel.enc)]⟩) (fun g => g.1 ≤ l.length ∧ g.2.length ≤ g.1 ∧ ofB id l = g.2 ++ ofB id (l.drop g.1)) (fun g => l.length - g.1) (0, []) [0] ?_ ⟨by simp, by simp, rfl⟩ ?_
  · (refine ⟨by decide, rfl, ?_, ?_⟩ <;> repeat' first
      | exact True.intro
      | ((refine And.intro (Or.inl ?_) ?_); (focus (with_reducible exact rfl)))
      | ((refine And.intro (Or.inr (And.intro ?_ (And.intro rfl rfl))) ?_); (focus (dsimp only [AV.ren, getD_zero, getD_succ]; try (with_reducible exact rfl); done)))
      | (refine And.intro (Or.inr (And.intro ?_ (And.intro rfl rfl))) ?_)
      | (with_reducible exact weakO_row rfl)
      | (refine And.intro (Exists.intro _ (And.intro rfl ?_)) ?_)
      | (refine Exists.intro _ (And.intro rfl ?_))
      | (with_reducible exact rfl))
    all_goals rfl
  · intro ⟨k, acc⟩ ⟨hk, ha, hI⟩
    dsimp only at hk ha hI ⊢
    by_cases hlt : k < l.length
    · have hck : l[k]? = some l[k] := List.getElem?_eq_getElem hlt
      generalize l[k] = c at hck
      have hd : ¬ (decide ((k : Int) < (l.length : Int)) = false) := by simp; omega
      have hw1 := wrap_succ k (by omega)
      have hroom : (acc.length + 1) * 56 ≤ maxRow := by unfold maxRow; omega
      have hat : ofB id (l.drop k) = if c.id == id then c :: ofB id (l.drop (k + 1)) else ofB id (l.drop (k + 1)) := by rw [drop_at hck]; simp [ofB, List.filter_cons]
      (repeat' first
    | with_reducible refine G_seq ?_
    | with_reducible refine G_reg ?_
    | with_reducible refine regW_nil ?_
    | with_reducible refine Nx_code ?_
    | with_reducible refine Nx_blk ?_
    | with_reducible refine Ex_blk ?_
    | with_reducible refine Ex_code ?_
    | with_reducible refine Ex_inv ?_
    | with_reducible refine G_exit ?_
    | with_reducible refine G_block ?_
    | with_reducible refine G_ret ?_
    | with_reducible refine G_skip ?_
    | ((with_reducible refine G_draw mixed (by decide +kernel) ?_))
    | ((with_reducible apply regW_iaM); (focus (dsimp only [ev_t, ev_c, getD_zero, getD_succ]; try exact rfl)); (focus (dsimp only [ev_t, ev_c, getD_zero, getD_succ]; try exact rfl)); (focus assumption); (focus (with_unfolding_all exact rfl)); (focus (dsimp only [set_zero, set_succ]; try exact rfl)))
    | ((with_reducible apply regW_lenM); (focus (dsimp only [ev_t, ev_c, getD_zero, getD_succ]; try exact rfl)); (focus (dsimp only [set_zero, set_succ]; try exact rfl)))
    | ((with_reducible apply regW_add); (focus (dsimp only [ev_t, ev_c, getD_zero, getD_succ]; try exact rfl)); (focus (dsimp only [ev_t, ev_c, getD_zero, getD_succ]; try exact rfl)); (focus (first | assumption | exact rfl)); (focus (dsimp only [set_zero, set_succ]; try exact rfl)))
    | ((with_reducible apply regW_sub); (focus (dsimp only [ev_t, ev_c, getD_zero, getD_succ]; try exact rfl)); (focus (dsimp only [ev_t, ev_c, getD_zero, getD_succ]; try exact rfl)); (focus (first | assumption | exact rfl)); (focus (dsimp only [set_zero, set_succ]; try exact rfl)))
    | ((with_reducible apply regW_ldE); (focus (dsimp only [ev_t, ev_c, getD_zero, getD_succ]; try exact rfl)); (focus (with_unfolding_all exact rfl)); (focus (dsimp only [set_zero, set_succ]; try exact rfl)))
    | ((with_reducible apply regW_ldB); (focus (dsimp only [ev_t, ev_c, getD_zero, getD_succ]; try exact rfl)); (focus (dsimp only [sidx_zero, sidx_succ]; try exact rfl)); (focus (with_unfolding_all exact rfl)); (focus (dsimp only [set_zero, set_succ]; try exact rfl)))
    | ((with_reducible apply regW_stB); (focus (dsimp only [ev_t, ev_c, getD_zero, getD_succ]; try exact rfl)); (focus (dsimp only [ev_t, ev_c, getD_zero, getD_succ]; try exact rfl)); (focus (dsimp only [sidx_zero, sidx_succ]; try exact rfl)); (focus (with_unfolding_all exact rfl)); (focus (with_unfolding_all exact rfl)); (focus (with_unfolding_all exact rfl)); (focus (dsimp only [set_zero, set_succ]; try exact rfl)))
    | ((with_reducible apply regW_eqT); (focus (dsimp only [ev_t, ev_c, getD_zero, getD_succ]; try exact rfl)); (focus (dsimp only [ev_t, ev_c, getD_zero, getD_succ]; try exact rfl)); (focus (dsimp only [vals?, Cel.enc, Val.enc, Option.map_some]; try exact rfl)); (focus (dsimp only [vals?, Cel.enc, Val.enc, Option.map_some]; try exact rfl)); (focus (first | exact eqVz _ | exact eqzV _ | exact eqV _ _ | exact eqC _ _)); (focus (dsimp only [set_zero, set_succ]; try exact rfl)))
    | ((with_reducible apply regW_neT); (focus (dsimp only [ev_t, ev_c, getD_zero, getD_succ]; try exact rfl)); (focus (dsimp only [ev_t, ev_c, getD_zero, getD_succ]; try exact rfl)); (focus (dsimp only [vals?, Cel.enc, Val.enc, Option.map_some]; try exact rfl)); (focus (dsimp only [vals?, Cel.enc, Val.enc, Option.map_some]; try exact rfl)); (focus (first | exact eqVz _ | exact eqzV _ | exact eqV _ _ | exact eqC _ _)); (focus (dsimp only [set_zero, set_succ]; try exact rfl)))
    | ((with_reducible apply regW_bs1); (focus (dsimp only [ev_t, ev_c, getD_zero, getD_succ]; try exact rfl)); (focus (with_unfolding_all exact rfl)); (focus (with_unfolding_all exact rfl)); (focus (with_unfolding_all exact rfl)); (focus (dsimp only [set_zero, set_succ, List.length_cons, List.length_nil, Nat.reduceAdd]; try exact rfl)); (focus (dsimp only [List.cons_append, List.nil_append]; try exact rfl)))
    | ((with_reducible apply regW_app); (focus (dsimp only [ev_t, ev_c, getD_zero, getD_succ]; try exact rfl)); (focus (dsimp only [sidx_zero, sidx_succ]; try exact rfl)); (focus (with_reducible exact rfl)); (focus (dsimp only [ev_t, ev_c, getD_zero, getD_succ]; try exact rfl)); (focus (dsimp only [sidx_zero, sidx_succ]; try exact rfl)); (focus (with_unfolding_all exact rfl)); (focus assumption); (focus decide); (focus (dsimp only [set_zero, set_succ, List.length_cons, List.length_nil, Nat.reduceAdd]; try exact rfl)); (focus (dsimp only [set_zero, set_succ, List.cons_append, List.nil_append]; try exact rfl)))
    | ((with_reducible apply regW_opS); (focus (dsimp only [semF, ev_t, ev_c, getD_zero, getD_succ, bin_lss, bin_leq, bin_gtr, bin_geq, bin_eql, bin_neq, bin_add, bin_sub, bin_mul, bin_and, bin_shr20, bin_rem20, un_not, cond_true, cond_false, Nat.reduceAdd, Bool.not_true, Bool.not_false, scalar, Bool.and_self, if_true, if_false, Bool.false_eq_true, Option.map_some, AV.cells?, getCells, sidx_zero, sidx_succ, List.length_cons, List.length_nil, List.nil_append, List.cons_append, List.append_nil, List.drop, List.take, splice, Cel.enc, Val.enc]; try exact rfl)); (focus (dsimp only [set_zero, set_succ]; try exact rfl)))
    | ((with_reducible apply regW_op); (focus (dsimp only [semF, ev_t, ev_c, getD_zero, getD_succ, bin_lss, bin_leq, bin_gtr, bin_geq, bin_eql, bin_neq, bin_add, bin_sub, bin_mul, bin_and, bin_shr20, bin_rem20, un_not, cond_true, cond_false, Nat.reduceAdd, Bool.not_true, Bool.not_false, scalar, Bool.and_self, if_true, if_false, Bool.false_eq_true, Option.map_some, AV.cells?, getCells, sidx_zero, sidx_succ, List.length_cons, List.length_nil, List.nil_append, List.cons_append, List.append_nil, List.drop, List.take, splice]; try exact rfl)); (focus (dsimp only [set_zero, set_succ]; try exact rfl)))
    | ((with_reducible apply regW_shut'); (focus (dsimp only [getD_zero, getD_succ]; try (with_reducible exact rfl); done)); (focus (dsimp only [set_zero, set_succ]; try exact rfl)))
    | ((with_reducible apply regW_splitT); (focus (dsimp only [getD_zero, getD_succ]; try exact rfl)); all_goals (intro hc; (try dsimp only [set_zero, set_succ]); (try (with_reducible cases hc)); (try (with_reducible contradiction)); (try rw [hc])))
    | ((with_reducible apply regW_splitF); (focus (dsimp only [getD_zero, getD_succ]; try exact rfl)); all_goals (intro hc; (try dsimp only [set_zero, set_succ]); (try (with_reducible cases hc)); (try (with_reducible contradiction)); (try rw [hc])))
    | ((with_reducible apply regW_opN); (focus (dsimp only [semF, ev_t, ev_c, getD_zero, getD_succ, bin_lss, bin_leq, bin_gtr, bin_geq, bin_eql, bin_neq, bin_add, bin_sub, bin_mul, bin_and, bin_shr20, bin_rem20, un_not, cond_true, cond_false, Nat.reduceAdd, Bool.not_true, Bool.not_false, scalar, Bool.and_self, if_true, if_false, Bool.false_eq_true, Option.map_some, AV.cells?, getCells, sidx_zero, sidx_succ, List.length_cons, List.length_nil, List.nil_append, List.cons_append, List.append_nil, List.drop, List.take, splice, set_zero, set_succ]; try exact rfl)))
    | ((with_reducible apply G_cond); (focus (dsimp only [ev_t, ev_c, getD_zero, getD_succ]; try exact rfl)); all_goals (intro hc; (try (with_reducible cases hc)); (try (with_reducible contradiction)))))
      all_goals first
        | (refine Nx_inv ⟨(k + 1, acc ++ [c]), [2], ?_, ⟨(by first | omega | (dsimp only; omega) | (simp; omega) | (simp only [List.length_append, List.length_cons, List.length_nil]; omega)), (by first | omega | (dsimp only; omega) | (simp; omega) | (simp only [List.length_append, List.length_cons, List.length_nil]; omega)), ?_⟩, (by first | omega | (dsimp only; omega) | (simp; omega) | (simp only [List.length_append, List.length_cons, List.length_nil]; omega))⟩; (focus ((refine ⟨by decide, rfl, ?_, ?_⟩ <;> repeat' first
      | exact True.intro
      | ((refine And.intro (Or.inl ?_) ?_); (focus (with_reducible exact rfl)))
      | ((refine And.intro (Or.inr (And.intro ?_ (And.intro rfl rfl))) ?_); (focus (dsimp only [AV.ren, getD_zero, getD_succ]; try (with_reducible exact rfl); done)))
      | (refine And.intro (Or.inr (And.intro ?_ (And.intro rfl rfl))) ?_)
      | (with_reducible exact weakO_row rfl)
      | (refine And.intro (Exists.intro _ (And.intro rfl ?_)) ?_)
      | (refine Exists.intro _ (And.intro rfl ?_))
      | (with_reducible exact rfl)) <;> fail)); (rw [hI, hat]; clear hI hat; simp_all))
        | (refine Nx_inv ⟨(k + 1, acc), [0], ?_, ⟨(by first | omega | (dsimp only; omega) | (simp; omega) | (simp only [List.length_append, List.length_cons, List.length_nil]; omega)), (by first | omega | (dsimp only; omega) | (simp; omega) | (simp only [List.length_append, List.length_cons, List.length_nil]; omega)), ?_⟩, (by first | omega | (dsimp only; omega) | (simp; omega) | (simp only [List.length_append, List.length_cons, List.length_nil]; omega))⟩; (focus ((refine ⟨by decide, rfl, ?_, ?_⟩ <;> repeat' first
      | exact True.intro
      | ((refine And.intro (Or.inl ?_) ?_); (focus (with_reducible exact rfl)))
      | ((refine And.intro (Or.inr (And.intro ?_ (And.intro rfl rfl))) ?_); (focus (dsimp only [AV.ren, getD_zero, getD_succ]; try (with_reducible exact rfl); done)))
      | (refine And.intro (Or.inr (And.intro ?_ (And.intro rfl rfl))) ?_)
      | (with_reducible exact weakO_row rfl)
      | (refine And.intro (Exists.intro _ (And.intro rfl ?_)) ?_)
      | (refine Exists.intro _ (And.intro rfl ?_))
      | (with_reducible exact rfl)) <;> fail)); (rw [hI, hat]; clear hI hat; simp_all))
    · have hd : ¬ (decide ((k : Int) < (l.length : Int)) = true) := by simp; omega
      (repeat' first
    | with_reducible refine G_seq ?_
    | with_reducible refine G_reg ?_
    | with_reducible refine regW_nil ?_
    | with_reducible refine Nx_code ?_
    | with_reducible refine Nx_blk ?_
    | with_reducible refine Ex_blk ?_
    | with_reducible refine Ex_code ?_
    | with_reducible refine Ex_inv ?_
    | with_reducible refine G_exit ?_
    | with_reducible refine G_block ?_
    | with_reducible refine G_ret ?_
    | with_reducible refine G_skip ?_
    | ((with_reducible refine G_draw mixed (by decide +kernel) ?_))
    | ((with_reducible apply regW_iaM); (focus (dsimp only [ev_t, ev_c, getD_zero, getD_succ]; try exact rfl)); (focus (dsimp only [ev_t, ev_c, getD_zero, getD_succ]; try exact rfl)); (focus assumption); (focus (with_unfolding_all exact rfl)); (focus (dsimp only [set_zero, set_succ]; try exact rfl)))
    | ((with_reducible apply regW_lenM); (focus (dsimp only [ev_t, ev_c, getD_zero, getD_succ]; try exact rfl)); (focus (dsimp only [set_zero, set_succ]; try exact rfl)))
    | ((with_reducible apply regW_add); (focus (dsimp only [ev_t, ev_c, getD_zero, getD_succ]; try exact rfl)); (focus (dsimp only [ev_t, ev_c, getD_zero, getD_succ]; try exact rfl)); (focus (first | assumption | exact rfl)); (focus (dsimp only [set_zero, set_succ]; try exact rfl)))
    | ((with_reducible apply regW_sub); (focus (dsimp only [ev_t, ev_c, getD_zero, getD_succ]; try exact rfl)); (focus (dsimp only [ev_t, ev_c, getD_zero, getD_succ]; try exact rfl)); (focus (first | assumption | exact rfl)); (focus (dsimp only [set_zero, set_succ]; try exact rfl)))
    | ((with_reducible apply regW_ldE); (focus (dsimp only [ev_t, ev_c, getD_zero, getD_succ]; try exact rfl)); (focus (with_unfolding_all exact rfl)); (focus (dsimp only [set_zero, set_succ]; try exact rfl)))
    | ((with_reducible apply regW_ldB); (focus (dsimp only [ev_t, ev_c, getD_zero, getD_succ]; try exact rfl)); (focus (dsimp only [sidx_zero, sidx_succ]; try exact rfl)); (focus (with_unfolding_all exact rfl)); (focus (dsimp only [set_zero, set_succ]; try exact rfl)))
    | ((with_reducible apply regW_stB); (focus (dsimp only [ev_t, ev_c, getD_zero, getD_succ]; try exact rfl)); (focus (dsimp only [ev_t, ev_c, getD_zero, getD_succ]; try exact rfl)); (focus (dsimp only [sidx_zero, sidx_succ]; try exact rfl)); (focus (with_unfolding_all exact rfl)); (focus (with_unfolding_all exact rfl)); (focus (with_unfolding_all exact rfl)); (focus (dsimp only [set_zero, set_succ]; try exact rfl)))
    | ((with_reducible apply regW_eqT); (focus (dsimp only [ev_t, ev_c, getD_zero, getD_succ]; try exact rfl)); (focus (dsimp only [ev_t, ev_c, getD_zero, getD_succ]; try exact rfl)); (focus (dsimp only [vals?, Cel.enc, Val.enc, Option.map_some]; try exact rfl)); (focus (dsimp only [vals?, Cel.enc, Val.enc, Option.map_some]; try exact rfl)); (focus (first | exact eqVz _ | exact eqzV _ | exact eqV _ _ | exact eqC _ _)); (focus (dsimp only [set_zero, set_succ]; try exact rfl)))
    | ((with_reducible apply regW_neT); (focus (dsimp only [ev_t, ev_c, getD_zero, getD_succ]; try exact rfl)); (focus (dsimp only [ev_t, ev_c, getD_zero, getD_succ]; try exact rfl)); (focus (dsimp only [vals?, Cel.enc, Val.enc, Option.map_some]; try exact rfl)); (focus (dsimp only [vals?, Cel.enc, Val.enc, Option.map_some]; try exact rfl)); (focus (first | exact eqVz _ | exact eqzV _ | exact eqV _ _ | exact eqC _ _)); (focus (dsimp only [set_zero, set_succ]; try exact rfl)))
    | ((with_reducible apply regW_bs1); (focus (dsimp only [ev_t, ev_c, getD_zero, getD_succ]; try exact rfl)); (focus (with_unfolding_all exact rfl)); (focus (with_unfolding_all exact rfl)); (focus (with_unfolding_all exact rfl)); (focus (dsimp only [set_zero, set_succ, List.length_cons, List.length_nil, Nat.reduceAdd]; try exact rfl)); (focus (dsimp only [List.cons_append, List.nil_append]; try exact rfl)))
    | ((with_reducible apply regW_app); (focus (dsimp only [ev_t, ev_c, getD_zero, getD_succ]; try exact rfl)); (focus (dsimp only [sidx_zero, sidx_succ]; try exact rfl)); (focus (with_reducible exact rfl)); (focus (dsimp only [ev_t, ev_c, getD_zero, getD_succ]; try exact rfl)); (focus (dsimp only [sidx_zero, sidx_succ]; try exact rfl)); (focus (with_unfolding_all exact rfl)); (focus assumption); (focus decide); (focus (dsimp only [set_zero, set_succ, List.length_cons, List.length_nil, Nat.reduceAdd]; try exact rfl)); (focus (dsimp only [set_zero, set_succ, List.cons_append, List.nil_append]; try exact rfl)))
    | ((with_reducible apply regW_opS); (focus (dsimp only [semF, ev_t, ev_c, getD_zero, getD_succ, bin_lss, bin_leq, bin_gtr, bin_geq, bin_eql, bin_neq, bin_add, bin_sub, bin_mul, bin_and, bin_shr20, bin_rem20, un_not, cond_true, cond_false, Nat.reduceAdd, Bool.not_true, Bool.not_false, scalar, Bool.and_self, if_true, if_false, Bool.false_eq_true, Option.map_some, AV.cells?, getCells, sidx_zero, sidx_succ, List.length_cons, List.length_nil, List.nil_append, List.cons_append, List.append_nil, List.drop, List.take, splice, Cel.enc, Val.enc]; try exact rfl)); (focus (dsimp only [set_zero, set_succ]; try exact rfl)))
    | ((with_reducible apply regW_op); (focus (dsimp only [semF, ev_t, ev_c, getD_zero, getD_succ, bin_lss, bin_leq, bin_gtr, bin_geq, bin_eql, bin_neq, bin_add, bin_sub, bin_mul, bin_and, bin_shr20, bin_rem20, un_not, cond_true, cond_false, Nat.reduceAdd, Bool.not_true, Bool.not_false, scalar, Bool.and_self, if_true, if_false, Bool.false_eq_true, Option.map_some, AV.cells?, getCells, sidx_zero, sidx_succ, List.length_cons, List.length_nil, List.nil_append, List.cons_append, List.append_nil, List.drop, List.take, splice]; try exact rfl)); (focus (dsimp only [set_zero, set_succ]; try exact rfl)))
    | ((with_reducible apply regW_shut'); (focus (dsimp only [getD_zero, getD_succ]; try (with_reducible exact rfl); done)); (focus (dsimp only [set_zero, set_succ]; try exact rfl)))
    | ((with_reducible apply regW_splitT); (focus (dsimp only [getD_zero, getD_succ]; try exact rfl)); all_goals (intro hc; (try dsimp only [set_zero, set_succ]); (try (with_reducible cases hc)); (try (with_reducible contradiction)); (try rw [hc])))
    | ((with_reducible apply regW_splitF); (focus (dsimp only [getD_zero, getD_succ]; try exact rfl)); all_goals (intro hc; (try dsimp only [set_zero, set_succ]); (try (with_reducible cases hc)); (try (with_reducible contradiction)); (try rw [hc])))
    | ((with_reducible apply regW_opN); (focus (dsimp only [semF, ev_t, ev_c, getD_zero, getD_succ, bin_lss, bin_leq, bin_gtr, bin_geq, bin_eql, bin_neq, bin_add, bin_sub, bin_mul, bin_and, bin_shr20, bin_rem20, un_not, cond_true, cond_false, Nat.reduceAdd, Bool.not_true, Bool.not_false, scalar, Bool.and_self, if_true, if_false, Bool.false_eq_true, Option.map_some, AV.cells?, getCells, sidx_zero, sidx_succ, List.length_cons, List.length_nil, List.nil_append, List.cons_append, List.append_nil, List.drop, List.take, splice, set_zero, set_succ]; try exact rfl)))
    | ((with_reducible apply G_cond); (focus (dsimp only [ev_t, ev_c, getD_zero, getD_succ]; try exact rfl)); all_goals (intro hc; (try (with_reducible cases hc)); (try (with_reducible contradiction)))))
      rw [List.drop_eq_nil_of_le (by omega)] at hI
      have hI2 : ofB id l = acc := by rw [hI]; simp [ofB]
      rw [hI2]
      exact ⟨_, rfl, .inr (.inl ⟨0, 31, 6, acc.map Cel.enc, by simp, rfl, rfl⟩)⟩
set_option maxHeartbeats 1000000 in
theorem c30 (l : List Cel) (hl : l.length ≤ 100000) : Contract Try.prog 30 [encL l] (.fresh 31 6 ((strong l).map Cel.enc)) := by
  unfold encL
  refine contract_g (fr := [.vs (l.map Cel.enc), .v undef, .v undef, .v undef, .v undef, .v undef, .v undef, .v undef, .v undef, .v undef, .v undef, .v undef, .v undef, .v undef, .v undef, .v undef, .v undef, .v undef, .v undef, .v undef, .v undef, .v undef, .v undef, .v undef, .v undef, .v undef]) Try.func30 a30_ok rfl ?_
  dsimp only [a30]
  (repeat' first
    | with_reducible refine G_seq ?_
    | with_reducible refine G_reg ?_
    | with_reducible refine regW_nil ?_
    | with_reducible refine Nx_code ?_
    | with_reducible refine Nx_blk ?_
    | with_reducible refine Ex_blk ?_
    | with_reducible refine Ex_code ?_
    | with_reducible refine Ex_inv ?_
    | with_reducible refine G_exit ?_
    | with_reducible refine G_block ?_
    | with_reducible refine G_ret ?_
    | with_reducible refine G_skip ?_
    | ((with_reducible refine G_draw mixed (by decide +kernel) ?_))
    | ((with_reducible apply regW_iaM); (focus (dsimp only [ev_t, ev_c, getD_zero, getD_succ]; try exact rfl)); (focus (dsimp only [ev_t, ev_c, getD_zero, getD_succ]; try exact rfl)); (focus assumption); (focus (with_unfolding_all exact rfl)); (focus (dsimp only [set_zero, set_succ]; try exact rfl)))
    | ((with_reducible apply regW_lenM); (focus (dsimp only [ev_t, ev_c, getD_zero, getD_succ]; try exact rfl)); (focus (dsimp only [set_zero, set_succ]; try exact rfl)))
    | ((with_reducible apply regW_add); (focus (dsimp only [ev_t, ev_c, getD_zero, getD_succ]; try exact rfl)); (focus (dsimp only [ev_t, ev_c, getD_zero, getD_succ]; try exact rfl)); (focus (first | assumption | exact rfl)); (focus (dsimp only [set_zero, set_succ]; try exact rfl)))
    | ((with_reducible apply regW_sub); (focus (dsimp only [ev_t, ev_c, getD_zero, getD_succ]; try exact rfl)); (focus (dsimp only [ev_t, ev_c, getD_zero, getD_succ]; try exact rfl)); (focus (first | assumption | exact rfl)); (focus (dsimp only [set_zero, set_succ]; try exact rfl)))
    | ((with_reducible apply regW_ldE); (focus (dsimp only [ev_t, ev_c, getD_zero, getD_succ]; try exact rfl)); (focus (with_unfolding_all exact rfl)); (focus (dsimp only [set_zero, set_succ]; try exact rfl)))
    | ((with_reducible apply regW_ldB); (focus (dsimp only [ev_t, ev_c, getD_zero, getD_succ]; try exact rfl)); (focus (dsimp only [sidx_zero, sidx_succ]; try exact rfl)); (focus (with_unfolding_all exact rfl)); (focus (dsimp only [set_zero, set_succ]; try exact rfl)))
    | ((with_reducible apply regW_stB); (focus (dsimp only [ev_t, ev_c, getD_zero, getD_succ]; try exact rfl)); (focus (dsimp only [ev_t, ev_c, getD_zero, getD_succ]; try exact rfl)); (focus (dsimp only [sidx_zero, sidx_succ]; try exact rfl)); (focus (with_unfolding_all exact rfl)); (focus (with_unfolding_all exact rfl)); (focus (with_unfolding_all exact rfl)); (focus (dsimp only [set_zero, set_succ]; try exact rfl)))
    | ((with_reducible apply regW_eqT); (focus (dsimp only [ev_t, ev_c, getD_zero, getD_succ]; try exact rfl)); (focus (dsimp only [ev_t, ev_c, getD_zero, getD_succ]; try exact rfl)); (focus (dsimp only [vals?, Cel.enc, Val.enc, Option.map_some]; try exact rfl)); (focus (dsimp only [vals?, Cel.enc, Val.enc, Option.map_some]; try exact rfl)); (focus (first | exact eqVz _ | exact eqzV _ | exact eqV _ _ | exact eqC _ _)); (focus (dsimp only [set_zero, set_succ]; try exact rfl)))
    | ((with_reducible apply regW_neT); (focus (dsimp only [ev_t, ev_c, getD_zero, getD_succ]; try exact rfl)); (focus (dsimp only [ev_t, ev_c, getD_zero, getD_succ]; try exact rfl)); (focus (dsimp only [vals?, Cel.enc, Val.enc, Option.map_some]; try exact rfl)); (focus (dsimp only [vals?, Cel.enc, Val.enc, Option.map_some]; try exact rfl)); (focus (first | exact eqVz _ | exact eqzV _ | exact eqV _ _ | exact eqC _ _)); (focus (dsimp only [set_zero, set_succ]; try exact rfl)))
    | ((with_reducible apply regW_bs1); (focus (dsimp only [ev_t, ev_c, getD_zero, getD_succ]; try exact rfl)); (focus (with_unfolding_all exact rfl)); (focus (with_unfolding_all exact rfl)); (focus (with_unfolding_all exact rfl)); (focus (dsimp only [set_zero, set_succ, List.length_cons, List.length_nil, Nat.reduceAdd]; try exact rfl)); (focus (dsimp only [List.cons_append, List.nil_append]; try exact rfl)))
    | ((with_reducible apply regW_app); (focus (dsimp only [ev_t, ev_c, getD_zero, getD_succ]; try exact rfl)); (focus (dsimp only [sidx_zero, sidx_succ]; try exact rfl)); (focus (with_reducible exact rfl)); (focus (dsimp only [ev_t, ev_c, getD_zero, getD_succ]; try exact rfl)); (focus (dsimp only [sidx_zero, sidx_succ]; try exact rfl)); (focus (with_unfolding_all exact rfl)); (focus assumption); (focus decide); (focus (dsimp only [set_zero, set_succ, List.length_cons, List.length_nil, Nat.reduceAdd]; try exact rfl)); (focus (dsimp only [set_zero, set_succ, List.cons_append, List.nil_append]; try exact rfl)))
    | ((with_reducible apply regW_opS); (focus (dsimp only [semF, ev_t, ev_c, getD_zero, getD_succ, bin_lss, bin_leq, bin_gtr, bin_geq, bin_eql, bin_neq, bin_add, bin_sub, bin_mul, bin_and, bin_shr20, bin_rem20, un_not, cond_true, cond_false, Nat.reduceAdd, Bool.not_true, Bool.not_false, scalar, Bool.and_self, if_true, if_false, Bool.false_eq_true, Option.map_some, AV.cells?, getCells, sidx_zero, sidx_succ, List.length_cons, List.length_nil, List.nil_append, List.cons_append, List.append_nil, List.drop, List.take, splice, Cel.enc, Val.enc]; try exact rfl)); (focus (dsimp only [set_zero, set_succ]; try exact rfl)))
    | ((with_reducible apply regW_op); (focus (dsimp only [semF, ev_t, ev_c, getD_zero, getD_succ, bin_lss, bin_leq, bin_gtr, bin_geq, bin_eql, bin_neq, bin_add, bin_sub, bin_mul, bin_and, bin_shr20, bin_rem20, un_not, cond_true, cond_false, Nat.reduceAdd, Bool.not_true, Bool.not_false, scalar, Bool.and_self, if_true, if_false, Bool.false_eq_true, Option.map_some, AV.cells?, getCells, sidx_zero, sidx_succ, List.length_cons, List.length_nil, List.nil_append, List.cons_append, List.append_nil, List.drop, List.take, splice]; try exact rfl)); (focus (dsimp only [set_zero, set_succ]; try exact rfl)))
    | ((with_reducible apply regW_shut'); (focus (dsimp only [getD_zero, getD_succ]; try (with_reducible exact rfl); done)); (focus (dsimp only [set_zero, set_succ]; try exact rfl)))
    | ((with_reducible apply regW_splitT); (focus (dsimp only [getD_zero, getD_succ]; try exact rfl)); all_goals (intro hc; (try dsimp only [set_zero, set_succ]); (try (with_reducible cases hc)); (try (with_reducible contradiction)); (try rw [hc])))
    | ((with_reducible apply regW_splitF); (focus (dsimp only [getD_zero, getD_succ]; try exact rfl)); all_goals (intro hc; (try dsimp only [set_zero, set_succ]); (try (with_reducible cases hc)); (try (with_reducible contradiction)); (try rw [hc])))
    | ((with_reducible apply regW_opN); (focus (dsimp only [semF, ev_t, ev_c, getD_zero, getD_succ, bin_lss, bin_leq, bin_gtr, bin_geq, bin_eql, bin_neq, bin_add, bin_sub, bin_mul, bin_and, bin_shr20, bin_rem20, un_not, cond_true, cond_false, Nat.reduceAdd, Bool.not_true, Bool.not_false, scalar, Bool.and_self, if_true, if_false, Bool.false_eq_true, Option.map_some, AV.cells?, getCells, sidx_zero, sidx_succ, List.length_cons, List.length_nil, List.nil_append, List.cons_append, List.append_nil, List.drop, List.take, splice, set_zero, set_succ]; try exact rfl)))
    | ((with_reducible apply G_cond); (focus (dsimp only [ev_t, ev_c, getD_zero, getD_succ]; try exact rfl)); all_goals (intro hc; (try (with_reducible cases hc)); (try (with_reducible contradiction)))))
  refine G_nil 3 31 6 rfl rfl ?_
  refine G_loopF (fun g : Nat × List Cel => ⟨[.vs (l.map Cel.enc), .und, .und, .own 0 0 g.2.length, .v (.int .i64 (g.1 : Int)), .und, .und, .und, .und, .und, .und, .und, .und, .und, .und, .und, .und, .und, .und, .und, .und, .und, .und, .und, .und, .und], [.row true 31 6 (g.2.map Cel.enc)]⟩) (fun g => g.1 ≤ l.length ∧ g.2.length ≤ g.1 ∧ strong l = g.2 ++ strong (l.drop g.1)) (fun g => l.length - g.1) (0, []) [0] ?_ ⟨by simp, by simp, rfl⟩ ?_
  · (refine ⟨by decide, rfl, ?_, ?_⟩ <;> repeat' first
      | exact True.intro
      | ((refine And.intro (Or.inl ?_) ?_); (focus (with_reducible exact rfl)))
      | ((refine And.intro (Or.inr (And.intro ?_ (And.intro rfl rfl))) ?_); (focus (dsimp only [AV.ren, getD_zero, getD_succ]; try (with_reducible exact rfl); done)))
      | (refine And.intro (Or.inr (And.intro ?_ (And.intro rfl rfl))) ?_)
      | (with_reducible exact weakO_row rfl)
      | (refine And.intro (Exists.intro _ (And.intro rfl ?_)) ?_)
      | (refine Exists.intro _ (And.intro rfl ?_))
      | (with_reducible exact rfl))
    all_goals rfl
  · intro ⟨k, acc⟩ ⟨hk, ha, hI⟩
    dsimp only at hk ha hI ⊢
    by_cases hlt : k < l.length
    · have hck : l[k]? = some l[k] := List.getElem?_eq_getElem hlt
      generalize l[k] = c at hck
      have hd : ¬ (decide ((k : Int) < (l.length : Int)) = false) := by simp; omega
      have hw1 := wrap_succ k (by omega)
      have hroom : (acc.length + 1) * 56 ≤ maxRow := by unfold maxRow; omega
      have hat : strong (l.drop k) = if !c.v.beq Val.zero then c :: strong (l.drop (k + 1)) else strong (l.drop (k + 1)) := by rw [drop_at hck]; simp only [strong, List.filter_cons]
      (repeat' first
    | with_reducible refine G_seq ?_
    | with_reducible refine G_reg ?_
    | with_reducible refine regW_nil ?_
    | with_reducible refine Nx_code ?_
    | with_reducible refine Nx_blk ?_
    | with_reducible refine Ex_blk ?_
    | with_reducible refine Ex_code ?_
    | with_reducible refine Ex_inv ?_
    | with_reducible refine G_exit ?_
    | with_reducible refine G_block ?_
    | with_reducible refine G_ret ?_
    | with_reducible refine G_skip ?_
    | ((with_reducible refine G_draw mixed (by decide +kernel) ?_))
    | ((with_reducible apply regW_iaM); (focus (dsimp only [ev_t, ev_c, getD_zero, getD_succ]; try exact rfl)); (focus (dsimp only [ev_t, ev_c, getD_zero, getD_succ]; try exact rfl)); (focus assumption); (focus (with_unfolding_all exact rfl)); (focus (dsimp only [set_zero, set_succ]; try exact rfl)))
    | ((with_reducible apply regW_lenM); (focus (dsimp only [ev_t, ev_c, getD_zero, getD_succ]; try exact rfl)); (focus (dsimp only [set_zero, set_succ]; try exact rfl)))
    | ((with_reducible apply regW_add); (focus (dsimp only [ev_t, ev_c, getD_zero, getD_succ]; try exact rfl)); (focus (dsimp only [ev_t, ev_c, getD_zero, getD_succ]; try exact rfl)); (focus (first | assumption | exact rfl)); (focus (dsimp only [set_zero, set_succ]; try exact rfl)))
    | ((with_reducible apply regW_sub); (focus (dsimp only [ev_t, ev_c, getD_zero, getD_succ]; try exact rfl)); (focus (dsimp only [ev_t, ev_c, getD_zero, getD_succ]; try exact rfl)); (focus (first | assumption | exact rfl)); (focus (dsimp only [set_zero, set_succ]; try exact rfl)))
    | ((with_reducible apply regW_ldE); (focus (dsimp only [ev_t, ev_c, getD_zero, getD_succ]; try exact rfl)); (focus (with_unfolding_all exact rfl)); (focus (dsimp only [set_zero, set_succ]; try exact rfl)))
    | ((with_reducible apply regW_ldB); (focus (dsimp only [ev_t, ev_c, getD_zero, getD_succ]; try exact rfl)); (focus (dsimp only [sidx_zero, sidx_succ]; try exact rfl)); (focus (with_unfolding_all exact rfl)); (focus (dsimp only [set_zero, set_succ]; try exact rfl)))
    | ((with_reducible apply regW_stB); (focus (dsimp only [ev_t, ev_c, getD_zero, getD_succ]; try exact rfl)); (focus (dsimp only [ev_t, ev_c, getD_zero, getD_succ]; try exact rfl)); (focus (dsimp only [sidx_zero, sidx_succ]; try exact rfl)); (focus (with_unfolding_all exact rfl)); (focus (with_unfolding_all exact rfl)); (focus (with_unfolding_all exact rfl)); (focus (dsimp only [set_zero, set_succ]; try exact rfl)))
    | ((with_reducible apply regW_eqT); (focus (dsimp only [ev_t, ev_c, getD_zero, getD_succ]; try exact rfl)); (focus (dsimp only [ev_t, ev_c, getD_zero, getD_succ]; try exact rfl)); (focus (dsimp only [vals?, Cel.enc, Val.enc, Option.map_some]; try exact rfl)); (focus (dsimp only [vals?, Cel.enc, Val.enc, Option.map_some]; try exact rfl)); (focus (first | exact eqVz _ | exact eqzV _ | exact eqV _ _ | exact eqC _ _)); (focus (dsimp only [set_zero, set_succ]; try exact rfl)))
    | ((with_reducible apply regW_neT); (focus (dsimp only [ev_t, ev_c, getD_zero, getD_succ]; try exact rfl)); (focus (dsimp only [ev_t, ev_c, getD_zero, getD_succ]; try exact rfl)); (focus (dsimp only [vals?, Cel.enc, Val.enc, Option.map_some]; try exact rfl)); (focus (dsimp only [vals?, Cel.enc, Val.enc, Option.map_some]; try exact rfl)); (focus (first | exact eqVz _ | exact eqzV _ | exact eqV _ _ | exact eqC _ _)); (focus (dsimp only [set_zero, set_succ]; try exact rfl)))
    | ((with_reducible apply regW_bs1); (focus (dsimp only [ev_t, ev_c, getD_zero, getD_succ]; try exact rfl)); (focus (with_unfolding_all exact rfl)); (focus (with_unfolding_all exact rfl)); (focus (with_unfolding_all exact rfl)); (focus (dsimp only [set_zero, set_succ, List.length_cons, List.length_nil, Nat.reduceAdd]; try exact rfl)); (focus (dsimp only [List.cons_append, List.nil_append]; try exact rfl)))
    | ((with_reducible apply regW_app); (focus (dsimp only [ev_t, ev_c, getD_zero, getD_succ]; try exact rfl)); (focus (dsimp only [sidx_zero, sidx_succ]; try exact rfl)); (focus (with_reducible exact rfl)); (focus (dsimp only [ev_t, ev_c, getD_zero, getD_succ]; try exact rfl)); (focus (dsimp only [sidx_zero, sidx_succ]; try exact rfl)); (focus (with_unfolding_all exact rfl)); (focus assumption); (focus decide); (focus (dsimp only [set_zero, set_succ, List.length_cons, List.length_nil, Nat.reduceAdd]; try exact rfl)); (focus (dsimp only [set_zero, set_succ, List.cons_append, List.nil_append]; try exact rfl)))
    | ((with_reducible apply regW_opS); (focus (dsimp only [semF, ev_t, ev_c, getD_zero, getD_succ, bin_lss, bin_leq, bin_gtr, bin_geq, bin_eql, bin_neq, bin_add, bin_sub, bin_mul, bin_and, bin_shr20, bin_rem20, un_not, cond_true, cond_false, Nat.reduceAdd, Bool.not_true, Bool.not_false, scalar, Bool.and_self, if_true, if_false, Bool.false_eq_true, Option.map_some, AV.cells?, getCells, sidx_zero, sidx_succ, List.length_cons, List.length_nil, List.nil_append, List.cons_append, List.append_nil, List.drop, List.take, splice, Cel.enc, Val.enc]; try exact rfl)); (focus (dsimp only [set_zero, set_succ]; try exact rfl)))
    | ((with_reducible apply regW_op); (focus (dsimp only [semF, ev_t, ev_c, getD_zero, getD_succ, bin_lss, bin_leq, bin_gtr, bin_geq, bin_eql, bin_neq, bin_add, bin_sub, bin_mul, bin_and, bin_shr20, bin_rem20, un_not, cond_true, cond_false, Nat.reduceAdd, Bool.not_true, Bool.not_false, scalar, Bool.and_self, if_true, if_false, Bool.false_eq_true, Option.map_some, AV.cells?, getCells, sidx_zero, sidx_succ, List.length_cons, List.length_nil, List.nil_append, List.cons_append, List.append_nil, List.drop, List.take, splice]; try exact rfl)); (focus (dsimp only [set_zero, set_succ]; try exact rfl)))
    | ((with_reducible apply regW_shut'); (focus (dsimp only [getD_zero, getD_succ]; try (with_reducible exact rfl); done)); (focus (dsimp only [set_zero, set_succ]; try exact rfl)))
    | ((with_reducible apply regW_splitT); (focus (dsimp only [getD_zero, getD_succ]; try exact rfl)); all_goals (intro hc; (try dsimp only [set_zero, set_succ]); (try (with_reducible cases hc)); (try (with_reducible contradiction)); (try rw [hc])))
    | ((with_reducible apply regW_splitF); (focus (dsimp only [getD_zero, getD_succ]; try exact rfl)); all_goals (intro hc; (try dsimp only [set_zero, set_succ]); (try (with_reducible cases hc)); (try (with_reducible contradiction)); (try rw [hc])))
    | ((with_reducible apply regW_opN); (focus (dsimp only [semF, ev_t, ev_c, getD_zero, getD_succ, bin_lss, bin_leq, bin_gtr, bin_geq, bin_eql, bin_neq, bin_add, bin_sub, bin_mul, bin_and, bin_shr20, bin_rem20, un_not, cond_true, cond_false, Nat.reduceAdd, Bool.not_true, Bool.not_false, scalar, Bool.and_self, if_true, if_false, Bool.false_eq_true, Option.map_some, AV.cells?, getCells, sidx_zero, sidx_succ, List.length_cons, List.length_nil, List.nil_append, List.cons_append, List.append_nil, List.drop, List.take, splice, set_zero, set_succ]; try exact rfl)))
    | ((with_reducible apply G_cond); (focus (dsimp only [ev_t, ev_c, getD_zero, getD_succ]; try exact rfl)); all_goals (intro hc; (try (with_reducible cases hc)); (try (with_reducible contradiction)))))
      all_goals first
        | (refine Nx_inv ⟨(k + 1, acc ++ [c]), [2], ?_, ⟨(by first | omega | (dsimp only; omega) | (simp; omega) | (simp only [List.length_append, List.length_cons, List.length_nil]; omega)), (by first | omega | (dsimp only; omega) | (simp; omega) | (simp only [List.length_append, List.length_cons, List.length_nil]; omega)), ?_⟩, (by first | omega | (dsimp only; omega) | (simp; omega) | (simp only [List.length_append, List.length_cons, List.length_nil]; omega))⟩; (focus ((refine ⟨by decide, rfl, ?_, ?_⟩ <;> repeat' first
      | exact True.intro
      | ((refine And.intro (Or.inl ?_) ?_); (focus (with_reducible exact rfl)))
      | ((refine And.intro (Or.inr (And.intro ?_ (And.intro rfl rfl))) ?_); (focus (dsimp only [AV.ren, getD_zero, getD_succ]; try (with_reducible exact rfl); done)))
      | (refine And.intro (Or.inr (And.intro ?_ (And.intro rfl rfl))) ?_)
      | (with_reducible exact weakO_row rfl)
      | (refine And.intro (Exists.intro _ (And.intro rfl ?_)) ?_)
      | (refine Exists.intro _ (And.intro rfl ?_))
      | (with_reducible exact rfl)) <;> fail)); (rw [hI, hat]; clear hI hat; simp_all))
        | (refine Nx_inv ⟨(k + 1, acc), [0], ?_, ⟨(by first | omega | (dsimp only; omega) | (simp; omega) | (simp only [List.length_append, List.length_cons, List.length_nil]; omega)), (by first | omega | (dsimp only; omega) | (simp; omega) | (simp only [List.length_append, List.length_cons, List.length_nil]; omega)), ?_⟩, (by first | omega | (dsimp only; omega) | (simp; omega) | (simp only [List.length_append, List.length_cons, List.length_nil]; omega))⟩; (focus ((refine ⟨by decide, rfl, ?_, ?_⟩ <;> repeat' first
      | exact True.intro
      | ((refine And.intro (Or.inl ?_) ?_); (focus (with_reducible exact rfl)))
      | ((refine And.intro (Or.inr (And.intro ?_ (And.intro rfl rfl))) ?_); (focus (dsimp only [AV.ren, getD_zero, getD_succ]; try (with_reducible exact rfl); done)))
      | (refine And.intro (Or.inr (And.intro ?_ (And.intro rfl rfl))) ?_)
      | (with_reducible exact weakO_row rfl)
      | (refine And.intro (Exists.intro _ (And.intro rfl ?_)) ?_)
      | (refine Exists.intro _ (And.intro rfl ?_))
      | (with_reducible exact rfl)) <;> fail)); (rw [hI, hat]; clear hI hat; simp_all))
    · have hd : ¬ (decide ((k : Int) < (l.length : Int)) = true) := by simp; omega
      (repeat' first
    | with_reducible refine G_seq ?_
    | with_reducible refine G_reg ?_
    | with_reducible refine regW_nil ?_
    | with_reducible refine Nx_code ?_
    | with_reducible refine Nx_blk ?_
    | with_reducible refine Ex_blk ?_
    | with_reducible refine Ex_code ?_
    | with_reducible refine Ex_inv ?_
    | with_reducible refine G_exit ?_
    | with_reducible refine G_block ?_
    | with_reducible refine G_ret ?_
    | with_reducible refine G_skip ?_
    | ((with_reducible refine G_draw mixed (by decide +kernel) ?_))
    | ((with_reducible apply regW_iaM); (focus (dsimp only [ev_t, ev_c, getD_zero, getD_succ]; try exact rfl)); (focus (dsimp only [ev_t, ev_c, getD_zero, getD_succ]; try exact rfl)); (focus assumption); (focus (with_unfolding_all exact rfl)); (focus (dsimp only [set_zero, set_succ]; try exact rfl)))
    | ((with_reducible apply regW_lenM); (focus (dsimp only [ev_t, ev_c, getD_zero, getD_succ]; try exact rfl)); (focus (dsimp only [set_zero, set_succ]; try exact rfl)))
    | ((with_reducible apply regW_add); (focus (dsimp only [ev_t, ev_c, getD_zero, getD_succ]; try exact rfl)); (focus (dsimp only [ev_t, ev_c, getD_zero, getD_succ]; try exact rfl)); (focus (first | assumption | exact rfl)); (focus (dsimp only [set_zero, set_succ]; try exact rfl)))
    | ((with_reducible apply regW_sub); (focus (dsimp only [ev_t, ev_c, getD_zero, getD_succ]; try exact rfl)); (focus (dsimp only [ev_t, ev_c, getD_zero, getD_succ]; try exact rfl)); (focus (first | assumption | exact rfl)); (focus (dsimp only [set_zero, set_succ]; try exact rfl)))
    | ((with_reducible apply regW_ldE); (focus (dsimp only [ev_t, ev_c, getD_zero, getD_succ]; try exact rfl)); (focus (with_unfolding_all exact rfl)); (focus (dsimp only [set_zero, set_succ]; try exact rfl)))
    | ((with_reducible apply regW_ldB); (focus (dsimp only [ev_t, ev_c, getD_zero, getD_succ]; try exact rfl)); (focus (dsimp only [sidx_zero, sidx_succ]; try exact rfl)); (focus (with_unfolding_all exact rfl)); (focus (dsimp only [set_zero, set_succ]; try exact rfl)))
    | ((with_reducible apply regW_stB); (focus (dsimp only [ev_t, ev_c, getD_zero, getD_succ]; try exact rfl)); (focus (dsimp only [ev_t, ev_c, getD_zero, getD_succ]; try exact rfl)); (focus (dsimp only [sidx_zero, sidx_succ]; try exact rfl)); (focus (with_unfolding_all exact rfl)); (focus (with_unfolding_all exact rfl)); (focus (with_unfolding_all exact rfl)); (focus (dsimp only [set_zero, set_succ]; try exact rfl)))
    | ((with_reducible apply regW_eqT); (focus (dsimp only [ev_t, ev_c, getD_zero, getD_succ]; try exact rfl)); (focus (dsimp only [ev_t, ev_c, getD_zero, getD_succ]; try exact rfl)); (focus (dsimp only [vals?, Cel.enc, Val.enc, Option.map_some]; try exact rfl)); (focus (dsimp only [vals?, Cel.enc, Val.enc, Option.map_some]; try exact rfl)); (focus (first | exact eqVz _ | exact eqzV _ | exact eqV _ _ | exact eqC _ _)); (focus (dsimp only [set_zero, set_succ]; try exact rfl)))
    | ((with_reducible apply regW_neT); (focus (dsimp only [ev_t, ev_c, getD_zero, getD_succ]; try exact rfl)); (focus (dsimp only [ev_t, ev_c, getD_zero, getD_succ]; try exact rfl)); (focus (dsimp only [vals?, Cel.enc, Val.enc, Option.map_some]; try exact rfl)); (focus (dsimp only [vals?, Cel.enc, Val.enc, Option.map_some]; try exact rfl)); (focus (first | exact eqVz _ | exact eqzV _ | exact eqV _ _ | exact eqC _ _)); (focus (dsimp only [set_zero, set_succ]; try exact rfl)))
    | ((with_reducible apply regW_bs1); (focus (dsimp only [ev_t, ev_c, getD_zero, getD_succ]; try exact rfl)); (focus (with_unfolding_all exact rfl)); (focus (with_unfolding_all exact rfl)); (focus (with_unfolding_all exact rfl)); (focus (dsimp only [set_zero, set_succ, List.length_cons, List.length_nil, Nat.reduceAdd]; try exact rfl)); (focus (dsimp only [List.cons_append, List.nil_append]; try exact rfl)))
    | ((with_reducible apply regW_app); (focus (dsimp only [ev_t, ev_c, getD_zero, getD_succ]; try exact rfl)); (focus (dsimp only [sidx_zero, sidx_succ]; try exact rfl)); (focus (with_reducible exact rfl)); (focus (dsimp only [ev_t, ev_c, getD_zero, getD_succ]; try exact rfl)); (focus (dsimp only [sidx_zero, sidx_succ]; try exact rfl)); (focus (with_unfolding_all exact rfl)); (focus assumption); (focus decide); (focus (dsimp only [set_zero, set_succ, List.length_cons, List.length_nil, Nat.reduceAdd]; try exact rfl)); (focus (dsimp only [set_zero, set_succ, List.cons_append, List.nil_append]; try exact rfl)))
    | ((with_reducible apply regW_opS); (focus (dsimp only [semF, ev_t, ev_c, getD_zero, getD_succ, bin_lss, bin_leq, bin_gtr, bin_geq, bin_eql, bin_neq, bin_add, bin_sub, bin_mul, bin_and, bin_shr20, bin_rem20, un_not, cond_true, cond_false, Nat.reduceAdd, Bool.not_true, Bool.not_false, scalar, Bool.and_self, if_true, if_false, Bool.false_eq_true, Option.map_some, AV.cells?, getCells, sidx_zero, sidx_succ, List.length_cons, List.length_nil, List.nil_append, List.cons_append, List.append_nil, List.drop, List.take, splice, Cel.enc, Val.enc]; try exact rfl)); (focus (dsimp only [set_zero, set_succ]; try exact rfl)))
    | ((with_reducible apply regW_op); (focus (dsimp only [semF, ev_t, ev_c, getD_zero, getD_succ, bin_lss, bin_leq, bin_gtr, bin_geq, bin_eql, bin_neq, bin_add, bin_sub, bin_mul, bin_and, bin_shr20, bin_rem20, un_not, cond_true, cond_false, Nat.reduceAdd, Bool.not_true, Bool.not_false, scalar, Bool.and_self, if_true, if_false, Bool.false_eq_true, Option.map_some, AV.cells?, getCells, sidx_zero, sidx_succ, List.length_cons, List.length_nil, List.nil_append, List.cons_append, List.append_nil, List.drop, List.take, splice]; try exact rfl)); (focus (dsimp only [set_zero, set_succ]; try exact rfl)))
    | ((with_reducible apply regW_shut'); (focus (dsimp only [getD_zero, getD_succ]; try (with_reducible exact rfl); done)); (focus (dsimp only [set_zero, set_succ]; try exact rfl)))
    | ((with_reducible apply regW_splitT); (focus (dsimp only [getD_zero, getD_succ]; try exact rfl)); all_goals (intro hc; (try dsimp only [set_zero, set_succ]); (try (with_reducible cases hc)); (try (with_reducible contradiction)); (try rw [hc])))
    | ((with_reducible apply regW_splitF); (focus (dsimp only [getD_zero, getD_succ]; try exact rfl)); all_goals (intro hc; (try dsimp only [set_zero, set_succ]); (try (with_reducible cases hc)); (try (with_reducible contradiction)); (try rw [hc])))
    | ((with_reducible apply regW_opN); (focus (dsimp only [semF, ev_t, ev_c, getD_zero, getD_succ, bin_lss, bin_leq, bin_gtr, bin_geq, bin_eql, bin_neq, bin_add, bin_sub, bin_mul, bin_and, bin_shr20, bin_rem20, un_not, cond_true, cond_false, Nat.reduceAdd, Bool.not_true, Bool.not_false, scalar, Bool.and_self, if_true, if_false, Bool.false_eq_true, Option.map_some, AV.cells?, getCells, sidx_zero, sidx_succ, List.length_cons, List.length_nil, List.nil_append, List.cons_append, List.append_nil, List.drop, List.take, splice, set_zero, set_succ]; try exact rfl)))
    | ((with_reducible apply G_cond); (focus (dsimp only [ev_t, ev_c, getD_zero, getD_succ]; try exact rfl)); all_goals (intro hc; (try (with_reducible cases hc)); (try (with_reducible contradiction)))))
      rw [List.drop_eq_nil_of_le (by omega)] at hI
      have hI2 : strong l = acc := by rw [hI]; simp [strong]
      rw [hI2]
      exact ⟨_, rfl, .inr (.inl ⟨0, 31, 6, acc.map Cel.enc, by simp, rfl, rfl⟩)⟩
end Go.Proofs.Ythbkdnojneffdaa

/- Contracts of functions of the program over the abstract machine. -/
import Derived.Test.YthbkdnojneffdaaT11
namespace Go.Proofs.Ythbkdnojneffdaa
open Go.Am

def w1 : Cel := ⟨1048577, 1, ⟨2, false, ⟨#[]⟩, 0⟩⟩
def w2 : Cel := ⟨1048577, 3, ⟨0, false, ⟨#[102]⟩, 0⟩⟩
def w3 : Cel := ⟨1048577, 3, ⟨0, false, ⟨#[103]⟩, 0⟩⟩
def w4 : Cel := ⟨1048577, 3, ⟨0, false, ⟨#[]⟩, 0⟩⟩
theorem wv : validB [w1, w2] = true := by decide
theorem wx : putB [w1, w2] [w3] = [w1, w3] := by
  have h1 : (validB [w1, w2] && writesB [w3]) = true := by decide
  have e : over [w1, w2] [w3] = [w1, w3] := by
    rw [over_cons, if_pos (by decide), over_cons, if_neg (by decide), if_pos (by decide), over_nil_l]
  rw [putB, if_pos h1, e]
  exact strong_solid (by decide)
theorem wy : putB [w1, w2] [w4] = [w1] := by
  have h1 : (validB [w1, w2] && writesB [w4]) = true := by decide
  have e : over [w1, w2] [w4] = [w1, w4] := by
    rw [over_cons, if_pos (by decide), over_cons, if_neg (by decide), if_pos (by decide), over_nil_l]
  rw [putB, if_pos h1, e, strong_cons, if_pos (by decide), strong_cons, if_neg (by decide)]
  rfl
theorem wd1 : diffB [w1, w2] [w1, w3] = [w3] := by
  have h1 : (validB [w1, w2] && validB [w1, w3]) = true := by decide
  rw [diffB, if_pos h1, diff_cons, if_neg (by decide), if_pos (by decide), if_pos (by decide), diff_cons, if_neg (by decide), if_pos (by decide), if_neg (by decide), diff_nil_l]
theorem wd2 : diffB [w1, w2] [w1, w2] = [] := by
  have h1 : (validB [w1, w2] && validB [w1, w2]) = true := by decide
  rw [diffB, if_pos h1, diff_cons, if_neg (by decide), if_pos (by decide), if_pos (by decide), diff_cons, if_neg (by decide), if_pos (by decide), if_pos (by decide), diff_nil_l]

set_option maxHeartbeats 1000000 in
theorem c10 : Contract Try.prog 10 [] (.pure (.v (.bool true))) := by
  have k1 : Contract Try.prog 25 [.v (.int .i64 1), .agg w1.v.enc] (.fresh 31 6 ([w1].map Cel.enc)) := c25 1 w1.v
  have k2 : Contract Try.prog 25 [.v (.int .i64 3), .agg w2.v.enc] (.fresh 31 6 ([w2].map Cel.enc)) := c25 3 w2.v
  have k3 : Contract Try.prog 25 [.v (.int .i64 3), .agg w3.v.enc] (.fresh 31 6 ([w3].map Cel.enc)) := c25 3 w3.v
  have k4 : Contract Try.prog 25 [.v (.int .i64 3), .agg w4.v.enc] (.fresh 31 6 ([w4].map Cel.enc)) := c25 3 w4.v
  have p1 := c16 [w1, w2] [w3] (by decide) (by decide)
  have p2 := c16 [w1, w2] [w4] (by decide) (by decide)
  have d1 := c18 [w1, w2] [w1, w3] (by decide) (by decide)
  have d2 := c18 [w1, w2] [w1, w2] (by decide) (by decide)
  have v1 := c11 [w1, w2] (by decide)
  have g1 : Contract Try.prog 20 [encL [w1, w3], .v (.int .i64 1048577), .v (.int .i64 3)] (.pure (.agg w3.v.enc)) := c20 [w1, w3] 1048577 3 (by decide)
  rw [wx] at p1
  rw [wy] at p2
  rw [wd1] at d1
  rw [wd2] at d2
  rw [wv] at v1
  (refine contract_g (fr := [.v undef, .v undef, .v undef, .v undef, .v undef, .v undef, .v undef, .v undef, .v undef, .v undef, .v undef, .v undef, .v undef, .v undef, .v undef, .v undef, .v undef, .v undef, .v undef, .v undef, .v undef, .v undef, .v undef, .v undef, .v undef, .v undef, .v undef, .v undef, .v undef, .v undef, .v undef, .v undef, .v undef, .v undef, .v undef, .v undef, .v undef, .v undef, .v undef, .v undef, .v undef, .v undef, .v undef, .v undef, .v undef, .v undef, .v undef, .v undef, .v undef]) Try.func10 a10_ok rfl ?_; dsimp only [a10])
  (repeat' first
    | with_reducible refine G_seq ?_
    | with_reducible refine G_reg ?_
    | with_reducible refine regW_nil ?_
    | with_reducible refine Nx_code ?_
    | with_reducible refine Nx_blk ?_
    | with_reducible refine Ex_blk ?_
    | with_reducible refine Ex_code ?_
    | with_reducible refine Ex_inv ?_
    | with_reducible refine G_exit ?_
    | with_reducible refine G_block ?_
    | with_reducible refine G_ret ?_
    | with_reducible refine G_skip ?_
    | ((with_reducible refine G_draw mixed (by decide +kernel) ?_))
    | ((with_reducible apply regW_ia0); (focus ((try dsimp only [ev_t, ev_c, getD_zero, getD_succ]); first | done | exact rfl)); (focus (with_unfolding_all exact rfl)); (focus (dsimp only [set_zero, set_succ]; try exact rfl)))
    | ((with_reducible apply regW_tail); (focus ((try dsimp only [ev_t, ev_c, getD_zero, getD_succ]); first | done | exact rfl)); (focus (intro; (with_unfolding_all exact rfl))); (focus (dsimp only [set_zero, set_succ]; try exact rfl)))
    | ((with_reducible apply regW_iaM); (focus (dsimp only [ev_t, ev_c, getD_zero, getD_succ]; try exact rfl)); (focus (dsimp only [ev_t, ev_c, getD_zero, getD_succ]; try exact rfl)); (focus assumption); (focus (with_unfolding_all exact rfl)); (focus (dsimp only [set_zero, set_succ]; try exact rfl)))
    | ((with_reducible apply regW_lenM); (focus (dsimp only [ev_t, ev_c, getD_zero, getD_succ]; try exact rfl)); (focus (dsimp only [set_zero, set_succ]; try exact rfl)))
    | ((with_reducible apply regW_lenO); (focus ((try dsimp only [ev_t, ev_c, getD_zero, getD_succ]); first | done | exact rfl)); (focus (dsimp only [set_zero, set_succ]; try exact rfl)))
    | ((with_reducible apply regW_add); (focus (dsimp only [ev_t, ev_c, getD_zero, getD_succ]; try exact rfl)); (focus (dsimp only [ev_t, ev_c, getD_zero, getD_succ]; try exact rfl)); (focus (first | assumption | exact rfl)); (focus (dsimp only [set_zero, set_succ]; try exact rfl)))
    | ((with_reducible apply regW_sub); (focus (dsimp only [ev_t, ev_c, getD_zero, getD_succ]; try exact rfl)); (focus (dsimp only [ev_t, ev_c, getD_zero, getD_succ]; try exact rfl)); (focus (first | assumption | exact rfl)); (focus (dsimp only [set_zero, set_succ]; try exact rfl)))
    | ((with_reducible apply regW_ldE); (focus (dsimp only [ev_t, ev_c, getD_zero, getD_succ]; try exact rfl)); (focus (with_unfolding_all exact rfl)); (focus (dsimp only [set_zero, set_succ]; try exact rfl)))
    | ((with_reducible apply regW_ldB); (focus (dsimp only [ev_t, ev_c, getD_zero, getD_succ]; try exact rfl)); (focus (dsimp only [sidx_zero, sidx_succ]; try exact rfl)); (focus (with_unfolding_all exact rfl)); (focus (dsimp only [set_zero, set_succ]; try exact rfl)))
    | ((with_reducible apply regW_stB); (focus (dsimp only [ev_t, ev_c, getD_zero, getD_succ]; try exact rfl)); (focus (dsimp only [ev_t, ev_c, getD_zero, getD_succ]; try exact rfl)); (focus (dsimp only [sidx_zero, sidx_succ]; try exact rfl)); (focus (with_unfolding_all exact rfl)); (focus (with_unfolding_all exact rfl)); (focus (with_unfolding_all exact rfl)); (focus (dsimp only [set_zero, set_succ]; try exact rfl)))
    | ((with_reducible apply regW_eqT); (focus (dsimp only [ev_t, ev_c, getD_zero, getD_succ]; try exact rfl)); (focus (dsimp only [ev_t, ev_c, getD_zero, getD_succ]; try exact rfl)); (focus (dsimp only [vals?, Cel.enc, Val.enc, Option.map_some]; try exact rfl)); (focus (dsimp only [vals?, Cel.enc, Val.enc, Option.map_some]; try exact rfl)); (focus (first | exact eqVz _ | exact eqzV _ | exact eqV _ _ | exact eqC _ _)); (focus (dsimp only [set_zero, set_succ]; try exact rfl)))
    | ((with_reducible apply regW_neT); (focus (dsimp only [ev_t, ev_c, getD_zero, getD_succ]; try exact rfl)); (focus (dsimp only [ev_t, ev_c, getD_zero, getD_succ]; try exact rfl)); (focus (dsimp only [vals?, Cel.enc, Val.enc, Option.map_some]; try exact rfl)); (focus (dsimp only [vals?, Cel.enc, Val.enc, Option.map_some]; try exact rfl)); (focus (first | exact eqVz _ | exact eqzV _ | exact eqV _ _ | exact eqC _ _)); (focus (dsimp only [set_zero, set_succ]; try exact rfl)))
    | ((with_reducible apply regW_bs1); (focus (first | exact congrArg AV.agg hfold | (dsimp only [ev_t, ev_c, getD_zero, getD_succ]; first | done | exact rfl))); (focus (with_unfolding_all exact rfl)); (focus (with_unfolding_all exact rfl)); (focus (with_unfolding_all exact rfl)); (focus (dsimp only [set_zero, set_succ, List.length_cons, List.length_nil, Nat.reduceAdd]; try exact rfl)); (focus (dsimp only [List.cons_append, List.nil_append]; try exact rfl)))
    | ((with_reducible apply regW_app); (focus (dsimp only [ev_t, ev_c, getD_zero, getD_succ]; try exact rfl)); (focus (dsimp only [sidx_zero, sidx_succ]; try exact rfl)); (focus (with_reducible exact rfl)); (focus (dsimp only [ev_t, ev_c, getD_zero, getD_succ]; try exact rfl)); (focus (dsimp only [sidx_zero, sidx_succ]; try exact rfl)); (focus (with_unfolding_all exact rfl)); (focus (first | assumption | decide)); (focus decide); (focus (dsimp only [set_zero, set_succ, List.length_cons, List.length_nil, Nat.reduceAdd]; try exact rfl)); (focus (dsimp only [set_zero, set_succ, List.cons_append, List.nil_append]; try exact rfl)))
    | ((with_reducible apply regW_appE); (focus ((try dsimp only [ev_t, ev_c, getD_zero, getD_succ]); first | done | exact rfl)); (focus ((try dsimp only [ev_t, ev_c, getD_zero, getD_succ]); first | done | exact rfl)); (focus (dsimp only [set_zero, set_succ]; try exact rfl)))
    | ((with_reducible apply regW_appL); (focus ((try dsimp only [ev_t, ev_c, getD_zero, getD_succ]); first | done | exact rfl)); (focus (dsimp only [sidx_zero, sidx_succ]; try exact rfl)); (focus (with_reducible exact rfl)); (focus ((try dsimp only [ev_t, ev_c, getD_zero, getD_succ]); first | done | exact rfl)); (focus assumption); (focus (intros; (with_unfolding_all exact rfl))); (focus assumption); (focus decide); (focus (dsimp only [set_zero, set_succ, List.length_cons, List.length_nil, Nat.reduceAdd]; try exact rfl)); (focus (dsimp only [set_zero, set_succ, List.cons_append, List.nil_append]; try exact rfl)))
    | ((with_reducible apply regW_opS); (focus (dsimp only [semF, ev_t, ev_c, getD_zero, getD_succ, bin_lss, bin_leq, bin_gtr, bin_geq, bin_eql, bin_neq, bin_add, bin_sub, bin_mul, bin_and, bin_shr20, bin_rem20, un_not, cond_true, cond_false, Nat.reduceAdd, Bool.not_true, Bool.not_false, scalar, Bool.and_self, if_true, if_false, Bool.false_eq_true, Option.map_some, AV.cells?, getCells, sidx_zero, sidx_succ, List.length_cons, List.length_nil, List.nil_append, List.cons_append, List.append_nil, List.drop, List.take, splice, fillA, Cel.enc, Val.enc]; try exact rfl)); (focus (dsimp only [set_zero, set_succ]; try exact rfl)))
    | ((with_reducible apply regW_op); (focus (dsimp only [semF, ev_t, ev_c, getD_zero, getD_succ, bin_lss, bin_leq, bin_gtr, bin_geq, bin_eql, bin_neq, bin_add, bin_sub, bin_mul, bin_and, bin_shr20, bin_rem20, un_not, cond_true, cond_false, Nat.reduceAdd, Bool.not_true, Bool.not_false, scalar, Bool.and_self, if_true, if_false, Bool.false_eq_true, Option.map_some, AV.cells?, getCells, sidx_zero, sidx_succ, List.length_cons, List.length_nil, List.nil_append, List.cons_append, List.append_nil, List.drop, List.take, splice, fillA]; try exact rfl)); (focus (dsimp only [set_zero, set_succ]; try exact rfl)))
    | ((with_reducible apply regW_shut'); (focus (dsimp only [getD_zero, getD_succ]; try (with_reducible exact rfl); done)); (focus (dsimp only [set_zero, set_succ]; try exact rfl)))
    | ((with_reducible apply regW_splitT); (focus (dsimp only [getD_zero, getD_succ]; try exact rfl)); all_goals (intro hc; (try dsimp only [set_zero, set_succ]); (try (with_reducible cases hc)); (try (with_reducible contradiction)); (try exact absurd hc (by decide)); (try rw [hc])))
    | ((with_reducible apply regW_splitF); (focus (dsimp only [getD_zero, getD_succ]; try exact rfl)); all_goals (intro hc; (try dsimp only [set_zero, set_succ]); (try (with_reducible cases hc)); (try (with_reducible contradiction)); (try exact absurd hc (by decide)); (try rw [hc])))
    | ((with_reducible apply regW_opN); (focus (dsimp only [semF, ev_t, ev_c, getD_zero, getD_succ, bin_lss, bin_leq, bin_gtr, bin_geq, bin_eql, bin_neq, bin_add, bin_sub, bin_mul, bin_and, bin_shr20, bin_rem20, un_not, cond_true, cond_false, Nat.reduceAdd, Bool.not_true, Bool.not_false, scalar, Bool.and_self, if_true, if_false, Bool.false_eq_true, Option.map_some, AV.cells?, getCells, sidx_zero, sidx_succ, List.length_cons, List.length_nil, List.nil_append, List.cons_append, List.append_nil, List.drop, List.take, splice, fillA, set_zero, set_succ]; try exact rfl)))
    | ((with_reducible apply regW_callM); (focus (dsimp only [List.map, ev_t, ev_c, getD_zero, getD_succ]; try exact rfl)); (focus (repeat' first | exact reifyAll_nil | (apply reifyAll_vs) | (apply reifyAll_nils Cel.enc) | ((apply reifyAll_own); (focus (dsimp only [sidx_zero, sidx_succ]; try exact rfl)); (focus (with_reducible exact rfl))) | (apply reifyAll_val rfl))); (focus (exact k1)); (focus exact cel_flat); (focus (dsimp only [List.length_cons, List.length_nil, Nat.reduceAdd]; try exact rfl)); (focus (dsimp only [set_zero, set_succ]; try exact rfl)); (focus (dsimp only [List.cons_append, List.nil_append]; try exact rfl)))
    | ((with_reducible apply regW_callM); (focus (dsimp only [List.map, ev_t, ev_c, getD_zero, getD_succ]; try exact rfl)); (focus (repeat' first | exact reifyAll_nil | (apply reifyAll_vs) | (apply reifyAll_nils Cel.enc) | ((apply reifyAll_own); (focus (dsimp only [sidx_zero, sidx_succ]; try exact rfl)); (focus (with_reducible exact rfl))) | (apply reifyAll_val rfl))); (focus (exact k2)); (focus exact cel_flat); (focus (dsimp only [List.length_cons, List.length_nil, Nat.reduceAdd]; try exact rfl)); (focus (dsimp only [set_zero, set_succ]; try exact rfl)); (focus (dsimp only [List.cons_append, List.nil_append]; try exact rfl)))
    | ((with_reducible apply regW_callM); (focus (dsimp only [List.map, ev_t, ev_c, getD_zero, getD_succ]; try exact rfl)); (focus (repeat' first | exact reifyAll_nil | (apply reifyAll_vs) | (apply reifyAll_nils Cel.enc) | ((apply reifyAll_own); (focus (dsimp only [sidx_zero, sidx_succ]; try exact rfl)); (focus (with_reducible exact rfl))) | (apply reifyAll_val rfl))); (focus (exact k3)); (focus exact cel_flat); (focus (dsimp only [List.length_cons, List.length_nil, Nat.reduceAdd]; try exact rfl)); (focus (dsimp only [set_zero, set_succ]; try exact rfl)); (focus (dsimp only [List.cons_append, List.nil_append]; try exact rfl)))
    | ((with_reducible apply regW_callM); (focus (dsimp only [List.map, ev_t, ev_c, getD_zero, getD_succ]; try exact rfl)); (focus (repeat' first | exact reifyAll_nil | (apply reifyAll_vs) | (apply reifyAll_nils Cel.enc) | ((apply reifyAll_own); (focus (dsimp only [sidx_zero, sidx_succ]; try exact rfl)); (focus (with_reducible exact rfl))) | (apply reifyAll_val rfl))); (focus (exact k4)); (focus exact cel_flat); (focus (dsimp only [List.length_cons, List.length_nil, Nat.reduceAdd]; try exact rfl)); (focus (dsimp only [set_zero, set_succ]; try exact rfl)); (focus (dsimp only [List.cons_append, List.nil_append]; try exact rfl)))
    | ((with_reducible apply regW_callM); (focus (dsimp only [List.map, ev_t, ev_c, getD_zero, getD_succ]; try exact rfl)); (focus (repeat' first | exact reifyAll_nil | (apply reifyAll_vs) | (apply reifyAll_nils Cel.enc) | ((apply reifyAll_own); (focus (dsimp only [sidx_zero, sidx_succ]; try exact rfl)); (focus (with_reducible exact rfl))) | (apply reifyAll_val rfl))); (focus (exact p1)); (focus exact cel_flat); (focus (dsimp only [List.length_cons, List.length_nil, Nat.reduceAdd]; try exact rfl)); (focus (dsimp only [set_zero, set_succ]; try exact rfl)); (focus (dsimp only [List.cons_append, List.nil_append]; try exact rfl)))
    | ((with_reducible apply regW_callM); (focus (dsimp only [List.map, ev_t, ev_c, getD_zero, getD_succ]; try exact rfl)); (focus (repeat' first | exact reifyAll_nil | (apply reifyAll_vs) | (apply reifyAll_nils Cel.enc) | ((apply reifyAll_own); (focus (dsimp only [sidx_zero, sidx_succ]; try exact rfl)); (focus (with_reducible exact rfl))) | (apply reifyAll_val rfl))); (focus (exact p2)); (focus exact cel_flat); (focus (dsimp only [List.length_cons, List.length_nil, Nat.reduceAdd]; try exact rfl)); (focus (dsimp only [set_zero, set_succ]; try exact rfl)); (focus (dsimp only [List.cons_append, List.nil_append]; try exact rfl)))
    | ((with_reducible apply regW_callM); (focus (dsimp only [List.map, ev_t, ev_c, getD_zero, getD_succ]; try exact rfl)); (focus (repeat' first | exact reifyAll_nil | (apply reifyAll_vs) | (apply reifyAll_nils Cel.enc) | ((apply reifyAll_own); (focus (dsimp only [sidx_zero, sidx_succ]; try exact rfl)); (focus (with_reducible exact rfl))) | (apply reifyAll_val rfl))); (focus (exact d1)); (focus exact cel_flat); (focus (dsimp only [List.length_cons, List.length_nil, Nat.reduceAdd]; try exact rfl)); (focus (dsimp only [set_zero, set_succ]; try exact rfl)); (focus (dsimp only [List.cons_append, List.nil_append]; try exact rfl)))
    | ((with_reducible apply regW_callM); (focus (dsimp only [List.map, ev_t, ev_c, getD_zero, getD_succ]; try exact rfl)); (focus (repeat' first | exact reifyAll_nil | (apply reifyAll_vs) | (apply reifyAll_nils Cel.enc) | ((apply reifyAll_own); (focus (dsimp only [sidx_zero, sidx_succ]; try exact rfl)); (focus (with_reducible exact rfl))) | (apply reifyAll_val rfl))); (focus (exact d2)); (focus exact cel_flat); (focus (dsimp only [List.length_cons, List.length_nil, Nat.reduceAdd]; try exact rfl)); (focus (dsimp only [set_zero, set_succ]; try exact rfl)); (focus (dsimp only [List.cons_append, List.nil_append]; try exact rfl)))
    | ((with_reducible apply regW_callV); (focus (dsimp only [List.map, ev_t, ev_c, getD_zero, getD_succ]; try exact rfl)); (focus (repeat' first | exact reifyAll_nil | (apply reifyAll_vs) | (apply reifyAll_nils Cel.enc) | ((apply reifyAll_own); (focus (dsimp only [sidx_zero, sidx_succ]; try exact rfl)); (focus (with_reducible exact rfl))) | (apply reifyAll_val rfl))); (focus (exact v1)); (focus (first | exact Flat.v _ | exact val_flat _)); (focus (dsimp only [set_zero, set_succ]; try exact rfl)))
    | ((with_reducible apply regW_callV); (focus (dsimp only [List.map, ev_t, ev_c, getD_zero, getD_succ]; try exact rfl)); (focus (repeat' first | exact reifyAll_nil | (apply reifyAll_vs) | (apply reifyAll_nils Cel.enc) | ((apply reifyAll_own); (focus (dsimp only [sidx_zero, sidx_succ]; try exact rfl)); (focus (with_reducible exact rfl))) | (apply reifyAll_val rfl))); (focus (exact g1)); (focus (first | exact Flat.v _ | exact val_flat _)); (focus (dsimp only [set_zero, set_succ]; try exact rfl)))
    | ((with_reducible apply G_cond); (focus (dsimp only [ev_t, ev_c, getD_zero, getD_succ]; try exact rfl)); all_goals (intro hc; (try (with_reducible cases hc)); (try (with_reducible contradiction)); (try exact absurd hc (by decide)))))
  all_goals first
    | exact ⟨_, rfl, .inl ⟨_, rfl, ret_bool rfl⟩⟩
    | (exfalso; simp [w3] at *; done)

end Go.Proofs.Ythbkdnojneffdaa

/- A part of the proof: function 73 No condition. -/
import Derived.Test.YtogflgcngfghpaaD08

/- function 73 -/
section
set_option maxHeartbeats 4000000
set_option linter.unusedVariables false
set_option linter.unusedSimpArgs false
namespace Go.Proofs.Ytogflgcngfghpaa
open Go.J
def f_slices_Clone_uint64_uint64 (a0 : List Int) : Option (List Int) := app 8 [] a0

theorem c_slices_Clone_uint64_uint64 {a0 : List Int} {r : List Int} (h : f_slices_Clone_uint64_uint64 a0 = some r) : Ct Try.prog 73 [(Rep.sl (Rep.int .u64) 1).at a0] [] (fun _ : Unit => (Rep.sl (Rep.int .u64) 1).at r) (fun _ => []) := by
  refine Ct.mk Try.func73 rfl Try.ntmps73 (by simp) fun I R => ?_
  refine J.drop0 ?_
  unfold f_slices_Clone_uint64_uint64 at h
  refine J_seq (J_region (JLp (T_assign rfl) rfl (nofun) .none (JL_nil (KJ_nrm_then (KJ_J ?_)))))
  refine J_seq ?_
  refine J_seq (J_region ?_)
  refine JLp (T_move rfl) rfl (nofun) .none ?_
  refine JLv (T_eqnil (ρ := (Rep.int .u64)) (n := 1) Try.underlying67 (.mk rfl)) rfl .none fun b => ?_
  refine JL_nil (KJ_nrm_then (KJ_J ?_))
  refine J_test rfl (fun hq => ?_) (fun hq => ?_)
  · have hb := b.2 hq
    have hr : r = [] := by rw [hb] at h; simp [app, lim] at h; exact h
    subst hr
    refine J_seq (J_region (JLp (T_assign rfl) rfl (nofun) .none (JL_nil (KJ_nrm_then (KJ_J ?_)))))
    refine J_ret (KJ_ret_then ?_)
    exact KJ_ret1' Try.results73 (.tmp (.nilc rfl) Rv.nil) rfl rfl
  · refine J_skip (KJ_nrm_then (KJ_J ?_))
    refine J_seq (J_region ?_)
    refine JLv (T_bslr (ρ := (Rep.int .u64)) (l := []) sl67 (Lay.int _) .nil rfl (by decide)) rfl .none fun g1 => ?_
    refine JLp (T_move rfl) rfl (nofun) .none ?_
    refine JLe1 (T_append sl67 ⟨_, (Lay.int _)⟩ (.mk rfl) (.mk rfl) h) rfl .none fun g2 => ?_
    refine JLp (T_assign rfl) rfl (nofun) .none ?_
    refine JL_nil (KJ_nrm_then (KJ_J ?_))
    refine J_ret ?_
    refine KJ_freeze (t := 2) rfl ?_
    exact KJ_ret1' Try.results73 (.tmp (.mk rfl) Rv.nil) rfl rfl
end Go.Proofs.Ytogflgcngfghpaa
end

/- function 43 -/
section
set_option maxHeartbeats 4000000
set_option linter.unusedVariables false
set_option linter.unusedSimpArgs false
namespace Go.Proofs.Ytogflgcngfghpaa
open Go.J
def f_compare_copied (a0 : api_Tree) : Option (api_Tree) :=
  (mkC 24 (a0.Levels.length : Int)).bind fun x3 => (rangeF (σ := List (List Int)) (ρ := api_Tree) (fun i12 x16 s5 => (f_slices_Clone_uint64_uint64 x16).bind fun x18 => (app 24 s5 [x18]).bind fun x19 => some (Rd.next x19)) a0.Levels 0 ([] : List (List Int))).bind fun o7 => o7.then fun s5 => some (⟨a0.Size, a0.Leaf, s5⟩ : api_Tree)

theorem c_compare_copied {a0 : api_Tree} {r : api_Tree} (h : f_compare_copied a0 = some r) : Ct Try.prog 43 [r_api_Tree.at a0] [] (fun _ : Unit => r_api_Tree.at r) (fun _ => []) := by
  refine Ct.mk Try.func43 rfl Try.ntmps43 (by simp) fun I R => ?_
  refine J.drop0 ?_
  unfold f_compare_copied at h
  refine J_seq ?_
  refine J_region ?_
  refine JLa (T_boxm (.mk rfl) lay_api_Tree) rfl .none fun b1 => ?_
  refine JLa (T_alloc z24 lay_api_Tree) rfl .none fun b2 => ?_
  refine JL_nil ?_
  refine KJ_nrm_then (KJ_J ?_)
  refine J_seq ?_
  refine J_region ?_
  refine JLp (T_faddr fo24_2 rfl) rfl (nofun) .none ?_
  refine JLp (T_loadb ty22 rfl hf_api_Tree_Levels) rfl B1 .none ?_
  refine JLp (T_len (ρ := (Rep.sl (Rep.int .u64) 1)) sl22 (.mk rfl)) rfl (nofun) .none ?_
  replace h := bnd h; obtain ⟨x3, hx3, h⟩ := h
  refine JLv (T_mkrow (ρ := (Rep.sl (Rep.int .u64) 1)) sl22 rfl rfl hx3) rfl .none fun g4 => ?_
  refine JLp (T_assign rfl) rfl (nofun) .none ?_
  refine JL_nil ?_
  refine KJ_nrm_then (KJ_J ?_)
  refine J_seq ?_
  refine J_seq ?_
  refine J_region ?_
  refine JLp (T_faddr fo24_2 rfl) rfl (nofun) .none ?_
  refine JLp (T_loadb ty22 rfl hf_api_Tree_Levels) rfl B2 .none ?_
  refine JLp (T_len (ρ := (Rep.sl (Rep.int .u64) 1)) sl22 (.mk rfl)) rfl (nofun) .none ?_
  refine JLp (T_move rfl) rfl (nofun) .none ?_
  refine JL_nil ?_
  refine KJ_nrm_then (KJ_J ?_)
  replace h := bnd h; obtain ⟨o7, ho8, h⟩ := h
  refine J_cuto o7 (fun (s5 : List (List Int)) (g6 : Value) => [(1, Rep.ptr.at (b1, 0)), (2, Rep.ptr.at (b2, 0)), (3, Rep.slv.at g6)]) (fun s5 g6 => Ent.row g6 67 1 (Rep.sl (Rep.int .u64) 1) s5 :: Ent.box b2 r_api_Tree (⟨0, 0, []⟩ : api_Tree) :: Ent.box b1 r_api_Tree a0 :: R) ?_ ?_
  · refine J_block ?_
    refine J_lim (ρ := (Rep.sl (Rep.int .u64) 1)) (n := 1) (l := a0.Levels) (x := .tmp 11) (.mk rfl) fun hl => ?_
    refine J_range ho8 hl (fun i12 (s5 : List (List Int)) (g6 : Value) => [(1, Rep.ptr.at (b1, 0)), (2, Rep.ptr.at (b2, 0)), (11, (Rep.sl (Rep.sl (Rep.int .u64) 1) 1).at a0.Levels), (12, (Rep.int .i64).at (a0.Levels.length : Int)), (3, Rep.slv.at g6), (13, (Rep.int .i64).at i12)]) (fun i12 s5 g6 => Ent.row g6 67 1 (Rep.sl (Rep.int .u64) 1) s5 :: Ent.box b2 r_api_Tree (⟨0, 0, []⟩ : api_Tree) :: Ent.box b1 r_api_Tree a0 :: R) g4 (.cons rfl (.cons rfl (.cons rfl (.cons rfl (.cons rfl (.cons rfl (.nil _))))))) rfl ?_ ?_
    · intro s5 g6 ho8n
      refine J_seq (J_region (JLp (T_lss rfl rfl) rfl (nofun) .none (JL_nil (KJ_nrm_then (KJ_J ?_)))))
      refine J_seq (J_test rfl (fun hp => absurd (of_decide_eq_true hp) (by omega)) (fun _ => J_exit (KJ_exit_then (KJ_exit_then (KJ_exit_here (KJ_nrm_kq ?_))))))
      exact KJ_ot s5 g6 ho8n (.cons rfl (.cons rfl (.cons rfl (.nil _)))) rfl
    · intro i12 x16 s5 g6 st11 hi13 hj14 hx17 hw15 hb9 hf10
      refine J_seq (J_region (JLp (T_lss rfl rfl) rfl (nofun) .none (JL_nil (KJ_nrm_then (KJ_J ?_)))))
      refine J_seq (J_test rfl (fun _ => J_skip (KJ_nrm_then (KJ_J ?_))) (fun hp => absurd hj14 (of_decide_eq_false hp)))
      refine J_seq ?_
      refine J_block ?_
      refine J_seq ?_
      refine J_region ?_
      refine JLp (T_ix sl22 (.mk rfl) rfl hx17) rfl (nofun) .none ?_
      refine JLp (T_load ty67 rfl) rfl (nofun) .none ?_
      refine JLp (T_assign rfl) rfl (nofun) .none ?_
      refine JL_nil ?_
      refine KJ_nrm_then (KJ_J ?_)
      refine J_region ?_
      refine JLp (T_move rfl) rfl (nofun) .none ?_
      refine JLp (T_move rfl) rfl (nofun) .none ?_
      replace hb9 := bnd hb9; obtain ⟨x18, hx18, hb9⟩ := hb9
      refine JLe0 (T_call ⟨_, Try.func73, rfl, rfl⟩ (c_slices_Clone_uint64_uint64 hx18) ⟨(.mk rfl), trivial⟩) rfl .none ?_
      refine JLe0 (T_bslice (ρ := (Rep.sl (Rep.int .u64) 1)) sl22 (Lay.sl _ _) (.cons (.mk rfl) .nil) rfl (by decide)) rfl .none ?_
      replace hb9 := bnd hb9; obtain ⟨x19, hx19, hb9⟩ := hb9
      refine JLe1 (T_append sl22 ⟨_, (Lay.sl _ _)⟩ (.mk rfl) (.mk rfl) hx19) rfl .none fun g20 => ?_
      refine JLp (T_assign rfl) rfl (nofun) .none ?_
      refine JL_nil ?_
      refine KJ_nrm_blk ?_
      refine KJ_nrm_then (KJ_J ?_)
      refine J_region ?_
      refine JLp (T_addw rfl rfl hw15) rfl (nofun) .none ?_
      refine JLp (T_move rfl) rfl (nofun) .none ?_
      refine JL_nil ?_
      refine KJ_nrm_then ?_
      exact KJ_nx x19 g20 (inj hb9) (.cons rfl (.cons rfl (.cons rfl (.cons rfl (.cons rfl (.cons rfl (.nil _))))))) rfl
  · intro s5 g6 hs
    subst hs
    replace h := thn h
    refine KJ_nrm_then (KJ_J ?_)
    refine J_seq ?_
    refine J_region ?_
    refine JLp (T_move rfl) rfl (nofun) .none ?_
    refine JLp (T_faddr fo24_2 rfl) rfl (nofun) .none ?_
    refine JL_freeze2 23 3 rfl rfl ?_
    refine JL.perm F1 ?_
    refine JLn1 (T_storeV (⟨a0.Size, a0.Leaf, s5⟩ : api_Tree) ty22 rfl (.mk rfl) sf_api_Tree_Levels rfl) .none ?_
    refine JL_nil ?_
    refine KJ_nrm_then (KJ_J ?_)
    refine J_seq ?_
    refine J_region ?_
    refine JLp (T_loadw ty24 rfl) rfl B0 .none ?_
    refine JL.perm F1 ?_
    refine JLn1 (T_store ty24 rfl (.mk rfl) (SetF.self lay_api_Tree)) .none ?_
    refine JL_nil ?_
    refine KJ_nrm_then (KJ_J ?_)
    refine J_ret ?_
    obtain rfl := inj h
    exact KJ_ret1c () [Ent.box b2 r_api_Tree (⟨a0.Size, a0.Leaf, s5⟩ : api_Tree), Ent.box b1 r_api_Tree (⟨a0.Size, a0.Leaf, s5⟩ : api_Tree)] rfl Try.results43 (.cell ty24 rfl (by simp) Rv.nil) rfl rfl
end Go.Proofs.Ytogflgcngfghpaa
end

/- function 44 -/
section
set_option maxHeartbeats 4000000
set_option linter.unusedVariables false
set_option linter.unusedSimpArgs false
namespace Go.Proofs.Ytogflgcngfghpaa
open Go.J
def f_compare_walk_request (a0 : compare_walk) : Option (api_Message) :=
  (rangeF (σ := List Int) (ρ := api_Message) (fun i10 x14 s3 => (app 8 s3 [x14.Start, x14.Count]).bind fun x17 => some (Rd.next x17)) a0.Walk.Pending 0 ([a0.Walk.Tree.Size, a0.Walk.Tree.Leaf] : List Int)).bind fun o5 => o5.then fun s3 => some (⟨13, 0, 0, a0.Walk.Level, 0, 0, s3, []⟩ : api_Message)

theorem c_compare_walk_request {a0 : compare_walk} {b0 : Nat} {r : api_Message} (h : f_compare_walk_request a0 = some r) : Ct Try.prog 44 [Rep.ptr.at (b0, 0)] [Ent.box b0 r_compare_walk a0] (fun _ : Unit => r_api_Message.at r) (fun _ => [Ent.box b0 r_compare_walk a0]) := by
  refine Ct.mk Try.func44 rfl Try.ntmps44 (by simp) fun I R => ?_
  unfold f_compare_walk_request at h
  refine J_seq ?_
  refine J_region ?_
  refine JLa (T_alloc z28 lay_api_Message) rfl .none fun b1 => ?_
  refine JL_nil ?_
  refine KJ_nrm_then (KJ_J ?_)
  refine J_seq ?_
  refine J_drawR (Ks := []) rfl (by kernel_rfl) fun K hK => ?_
  refine DR.p (.base (t := 0) rfl .nil) (T_move rfl) .none rfl rfl (nofun) ?_
  refine DR.p (.dep 0 0 rfl rfl rfl .nil) (T_nilchk rfl) .none rfl rfl (nofun) ?_
  refine DR.p (.dep 1 0 rfl rfl rfl .nil) (T_faddr fo98_0 rfl) .none rfl rfl (nofun) ?_
  refine DR.p (.dep 2 0 rfl rfl rfl .nil) (T_faddr fo41_0 rfl) .none rfl rfl (nofun) ?_
  refine DR.p (.dep 3 0 rfl rfl rfl .nil) (T_faddr fo24_0 rfl) .none rfl rfl (nofun) ?_
  refine DR.p (.dep 4 0 rfl rfl rfl .nil) (T_loadb ty3 rfl (HasF.comp (HasF.comp hf_compare_walk_Walk hf_api_Walk_Tree) hf_api_Tree_Size)) .none rfl rfl B1 ?_
  refine DR.p (.base (t := 0) rfl .nil) (T_move rfl) .none rfl rfl (nofun) ?_
  refine DR.p (.dep 6 0 rfl rfl rfl .nil) (T_nilchk rfl) .none rfl rfl (nofun) ?_
  refine DR.p (.dep 7 0 rfl rfl rfl .nil) (T_faddr fo98_0 rfl) .none rfl rfl (nofun) ?_
  refine DR.p (.dep 8 0 rfl rfl rfl .nil) (T_faddr fo41_0 rfl) .none rfl rfl (nofun) ?_
  refine DR.p (.dep 9 0 rfl rfl rfl .nil) (T_faddr fo24_1 rfl) .none rfl rfl (nofun) ?_
  refine DR.p (.dep 10 0 rfl rfl rfl .nil) (T_loadb ty3 rfl (HasF.comp (HasF.comp hf_compare_walk_Walk hf_api_Walk_Tree) hf_api_Tree_Leaf)) .none rfl rfl B1 ?_
  refine DR.tail (by kernel_rfl) (.refl _) rfl ?_
  simp only [List.reverse_cons, List.reverse_nil, List.nil_append, List.cons_append, DT]
  refine JLv (T_bslr (ρ := (Rep.int .i64)) sl25 (Lay.int _) (.cons (.mk rfl) (.cons (.mk rfl) .nil)) rfl (by decide)) rfl .none fun g2 => ?_
  refine JLp (T_assign rfl) rfl (nofun) .none ?_
  refine JL_nil (KJ_hid hK ?_)
  refine KJ_nrm_then (KJ_J ?_)
  refine J_seq ?_
  refine J_seq ?_
  refine J_region ?_
  refine JLp (T_move rfl) rfl (nofun) .none ?_
  refine JLp (T_nilchk rfl) rfl (nofun) .none ?_
  refine JLp (T_faddr fo98_0 rfl) rfl (nofun) .none ?_
  refine JLp (T_faddr fo41_1 rfl) rfl (nofun) .none ?_
  refine JLp (T_loadb ty39 rfl (HasF.comp hf_compare_walk_Walk hf_api_Walk_Pending)) rfl B2 .none ?_
  refine JLp (T_len (ρ := r_api_Extent) sl39 (.mk rfl)) rfl (nofun) .none ?_
  refine JLp (T_move rfl) rfl (nofun) .none ?_
  refine JL_nil ?_
  refine KJ_nrm_then (KJ_J ?_)
  replace h := bnd h; obtain ⟨o5, ho6, h⟩ := h
  refine J_cuto o5 (fun (s3 : List Int) (g4 : Value) => [(0, Rep.ptr.at (b0, 0)), (2, Rep.ptr.at (b1, 0)), (3, Rep.slv.at g4)]) (fun s3 g4 => Ent.row g4 3 1 (Rep.int .i64) s3 :: Ent.box b1 r_api_Message (⟨0, 0, 0, 0, 0, 0, [], []⟩ : api_Message) :: Ent.box b0 r_compare_walk a0 :: R) ?_ ?_
  · refine J_block ?_
    refine J_lim (ρ := r_api_Extent) (n := 2) (l := a0.Walk.Pending) (x := .tmp 23) (.mk rfl) fun hl => ?_
    refine J_range ho6 hl (fun i10 (s3 : List Int) (g4 : Value) => [(0, Rep.ptr.at (b0, 0)), (2, Rep.ptr.at (b1, 0)), (23, (Rep.sl r_api_Extent 2).at a0.Walk.Pending), (24, (Rep.int .i64).at (a0.Walk.Pending.length : Int)), (3, Rep.slv.at g4), (25, (Rep.int .i64).at i10)]) (fun i10 s3 g4 => Ent.row g4 3 1 (Rep.int .i64) s3 :: Ent.box b1 r_api_Message (⟨0, 0, 0, 0, 0, 0, [], []⟩ : api_Message) :: Ent.box b0 r_compare_walk a0 :: R) g2 (.cons rfl (.cons rfl (.cons rfl (.cons rfl (.cons rfl (.cons rfl (.nil _))))))) rfl ?_ ?_
    · intro s3 g4 ho6n
      refine J_seq (J_region (JLp (T_lss rfl rfl) rfl (nofun) .none (JL_nil (KJ_nrm_then (KJ_J ?_)))))
      refine J_seq (J_test rfl (fun hp => absurd (of_decide_eq_true hp) (by omega)) (fun _ => J_exit (KJ_exit_then (KJ_exit_then (KJ_exit_here (KJ_nrm_kq ?_))))))
      exact KJ_ot s3 g4 ho6n (.cons rfl (.cons rfl (.cons rfl (.nil _)))) rfl
    · intro i10 x14 s3 g4 st9 hi11 hj12 hx15 hw13 hb7 hf8
      refine J_seq (J_region (JLp (T_lss rfl rfl) rfl (nofun) .none (JL_nil (KJ_nrm_then (KJ_J ?_)))))
      refine J_seq (J_test rfl (fun _ => J_skip (KJ_nrm_then (KJ_J ?_))) (fun hp => absurd hj12 (of_decide_eq_false hp)))
      refine J_seq ?_
      refine J_block ?_
      refine J_seq ?_
      refine J_region ?_
      refine JLp (T_ix sl39 (.mk rfl) rfl hx15) rfl (nofun) .none ?_
      refine JLp (T_load ty62 rfl) rfl (nofun) .none ?_
      refine JLa (T_alloc z62 lay_api_Extent) rfl .none fun b16 => ?_
      refine JLn1 (T_store ty62 rfl (.mk rfl) (SetF.self lay_api_Extent)) .none ?_
      refine JL_nil ?_
      refine KJ_nrm_then (KJ_J ?_)
      refine J_region ?_
      refine JLp (T_move rfl) rfl (nofun) .none ?_
      refine JLp (T_faddr fo62_0 rfl) rfl (nofun) .none ?_
      refine JLp (T_loadb ty3 rfl hf_api_Extent_Start) rfl B0 .none ?_
      refine JLp (T_faddr fo62_1 rfl) rfl (nofun) .none ?_
      refine JLp (T_loadb ty3 rfl hf_api_Extent_Count) rfl B0 .none ?_
      refine JLe0 (T_bslice (ρ := (Rep.int .i64)) sl25 (Lay.int _) (.cons (.mk rfl) (.cons (.mk rfl) .nil)) rfl (by decide)) rfl .none ?_
      replace hb7 := bnd hb7; obtain ⟨x17, hx17, hb7⟩ := hb7
      refine JL.perm F1 ?_
      refine JLe1 (T_append sl25 ⟨_, (Lay.int _)⟩ (.mk rfl) (.mk rfl) hx17) rfl .none fun g18 => ?_
      refine JLp (T_assign rfl) rfl (nofun) .none ?_
      refine JL_nil ?_
      refine KJ_nrm_blk ?_
      refine KJ_nrm_then (KJ_J ?_)
      refine J_region ?_
      refine JLp (T_addw rfl rfl hw13) rfl (nofun) .none ?_
      refine JLp (T_move rfl) rfl (nofun) .none ?_
      refine JL_nil ?_
      refine KJ_nrm_then ?_
      refine KJ.perm F1 ?_
      refine KJ.drop1 ?_
      exact KJ_nx x17 g18 (inj hb7) (.cons rfl (.cons rfl (.cons rfl (.cons rfl (.cons rfl (.cons rfl (.nil _))))))) rfl
  · intro s3 g4 hs
    subst hs
    replace h := thn h
    refine KJ_nrm_then (KJ_J ?_)
    refine J_seq ?_
    refine J_region ?_
    refine JLp (T_move rfl) rfl (nofun) .none ?_
    refine JLp (T_nilchk rfl) rfl (nofun) .none ?_
    refine JLp (T_faddr fo98_0 rfl) rfl (nofun) .none ?_
    refine JLp (T_faddr fo41_2 rfl) rfl (nofun) .none ?_
    refine JLp (T_loadb ty3 rfl (HasF.comp hf_compare_walk_Walk hf_api_Walk_Level)) rfl B2 .none ?_
    refine JLp (T_move rfl) rfl (nofun) .none ?_
    refine JL_freeze2 42 3 rfl rfl ?_
    refine JLp (T_build (s' := (⟨13, 0, 0, a0.Walk.Level, 0, 0, s3, []⟩ : api_Message)) bd28 z28 lay_api_Message (.cons (π := (Rep.int .i64)) (.mk rfl) rfl (Lay.int _) sf_api_Message_Kind (.cons (π := (Rep.int .i64)) (.mk rfl) rfl (Lay.int _) sf_api_Message_Number (.cons (π := (Rep.sl (Rep.int .i64) 1)) (.mk rfl) rfl (Lay.sl _ _) sf_api_Message_Values .nil)))) rfl (nofun) .none ?_
    refine JLn1 (T_store ty28 rfl (.mk rfl) (SetF.self lay_api_Message)) .none ?_
    refine JL_nil ?_
    refine KJ_nrm_then (KJ_J ?_)
    refine J_ret ?_
    obtain rfl := inj h
    exact KJ_ret1c () [Ent.box b1 r_api_Message (⟨13, 0, 0, a0.Walk.Level, 0, 0, s3, []⟩ : api_Message)] rfl Try.results44 (.cell ty28 rfl (by simp) Rv.nil) rfl rfl
end Go.Proofs.Ytogflgcngfghpaa
end

/- function 74 -/
section
set_option maxHeartbeats 4000000
set_option linter.unusedVariables false
set_option linter.unusedSimpArgs false
namespace Go.Proofs.Ytogflgcngfghpaa
open Go.J
def f_slices_Equal_byte_byte (a0 : List Int) (a1 : List Int) : Option (Bool) :=
  if (!decide ((a0.length : Int) = (a1.length : Int))) = true then some false else (capN (a0.length : Int) (countF (σ := Unit) (ρ := Bool) (fun i9 s2 => (idx a0 i9).bind fun x13 => (idx a1 i9).bind fun x14 => if (!decide (x13 = x14)) = true then some (Rd.ret false) else some (Rd.next ())) (((a0.length : Int) : Int) - 0).toNat 0 ())).bind fun o4 => o4.then fun s2 => some true

theorem c_slices_Equal_byte_byte {a0 : List Int} {a1 : List Int} {r : Bool} (h : f_slices_Equal_byte_byte a0 a1 = some r) : Ct Try.prog 74 [(Rep.sl (Rep.int .u8) 1).at a0, (Rep.sl (Rep.int .u8) 1).at a1] [] (fun _ : Unit => Rep.bool.at r) (fun _ => []) := by
  refine Ct.mk Try.func74 rfl Try.ntmps74 (by simp) fun I R => ?_
  refine J.drop0 ?_
  unfold f_slices_Equal_byte_byte at h
  refine J_seq ?_
  refine J_region ?_
  refine JLp (T_assign rfl) rfl (nofun) .none ?_
  refine JL_nil ?_
  refine KJ_nrm_then (KJ_J ?_)
  refine J_seq ?_
  refine J_seq ?_
  refine J_region ?_
  refine JLp (T_move rfl) rfl (nofun) .none ?_
  refine JLp (T_len (ρ := (Rep.int .u8)) sl26 (.mk rfl)) rfl (nofun) .none ?_
  refine JLp (T_move rfl) rfl (nofun) .none ?_
  refine JLp (T_len (ρ := (Rep.int .u8)) sl26 (.mk rfl)) rfl (nofun) .none ?_
  refine JLp (T_neq rfl rfl) rfl (nofun) .none ?_
  refine JL_nil ?_
  refine KJ_nrm_then (KJ_J ?_)
  refine J_test rfl (fun hq1 => ?_) (fun hq1 => ?_)
  · replace h := ift hq1 h
    refine J_seq ?_
    refine J_region ?_
    refine JLp (T_assign rfl) rfl (nofun) .none ?_
    refine JL_nil ?_
    refine KJ_nrm_then (KJ_J ?_)
    refine J_ret ?_
    refine KJ_ret_then ?_
    obtain rfl := inj h
    exact KJ_ret1' Try.results74 (.tmp (.mk rfl) Rv.nil) rfl rfl
  · replace h := iff_ hq1 h
    refine J_skip ?_
    refine KJ_nrm_then (KJ_J ?_)
    refine J_seq ?_
    refine J_seq ?_
    refine J_region ?_
    refine JLp (T_move rfl) rfl (nofun) .none ?_
    refine JLp (T_len (ρ := (Rep.int .u8)) sl26 (.mk rfl)) rfl (nofun) .none ?_
    refine JLp (T_move rfl) rfl (nofun) .none ?_
    refine JL_nil ?_
    refine KJ_nrm_then (KJ_J ?_)
    replace h := bnd h; obtain ⟨o4, ho5, h⟩ := h
    have ho5c := capN_some ho5
    refine J_cuto o4 (fun (s2 : Unit) (g3 : Unit) => []) (fun s2 g3 => R) ?_ ?_
    · refine J_block ?_
      refine J_count (n := (a0.length : Int)) ho5c.2 (by decide) ho5c.1 (fun i9 (s2 : Unit) (g3 : Unit) => [(0, (Rep.sl (Rep.int .u8) 1).at a0), (1, (Rep.sl (Rep.int .u8) 1).at a1), (12, (Rep.int .i64).at (a0.length : Int)), (13, (Rep.int .i64).at i9)]) (fun i9 s2 g3 => R) () (.cons rfl (.cons rfl (.cons rfl (.cons rfl (.nil _))))) rfl ?_ ?_
      · intro i9 s2 g3 hi ho5n
        refine J_seq (J_region (JLp (T_lss rfl rfl) rfl (nofun) .none (JL_nil (KJ_nrm_then (KJ_J ?_)))))
        refine J_seq (J_test rfl (fun hp => absurd (of_decide_eq_true hp) (by omega)) (fun _ => J_exit (KJ_exit_then (KJ_exit_then (KJ_exit_here (KJ_nrm_kq ?_))))))
        exact KJ_ot s2 g3 ho5n (.nil _) rfl
      · intro i9 s2 g3 st8 hi10 hj11 hw12 hb6 hf7
        refine J_seq (J_region (JLp (T_lss rfl rfl) rfl (nofun) .none (JL_nil (KJ_nrm_then (KJ_J ?_)))))
        refine J_seq (J_test rfl (fun _ => J_skip (KJ_nrm_then (KJ_J ?_))) (fun hp => absurd hj11 (of_decide_eq_false hp)))
        refine J_seq ?_
        refine J_block ?_
        refine J_seq ?_
        refine J_region ?_
        refine JLp (T_move rfl) rfl (nofun) .none ?_
        refine JLp (T_assign rfl) rfl (nofun) .none ?_
        refine JL_nil ?_
        refine KJ_nrm_then (KJ_J ?_)
        refine J_seq ?_
        replace hb6 := bnd hb6; obtain ⟨x13, hx13, hb6⟩ := hb6
        replace hb6 := bnd hb6; obtain ⟨x14, hx14, hb6⟩ := hb6
        refine J_drawR (Ks := []) rfl (by kernel_rfl) fun K hK => ?_
        refine DR.p (.base (t := 0) rfl .nil) (T_move rfl) .none rfl rfl (nofun) ?_
        refine DR.p (.base (t := 5) rfl .nil) (T_move rfl) .none rfl rfl (nofun) ?_
        refine DR.p (.dep 0 1 rfl rfl rfl (.dep 1 0 rfl rfl rfl .nil)) (T_ix sl26 (.mk rfl) rfl hx13) .none rfl rfl (nofun) ?_
        refine DR.p (.dep 2 0 rfl rfl rfl .nil) (T_load ty5 rfl) .none rfl rfl (nofun) ?_
        refine DR.p (.base (t := 1) rfl .nil) (T_move rfl) .none rfl rfl (nofun) ?_
        refine DR.p (.base (t := 5) rfl .nil) (T_move rfl) .none rfl rfl (nofun) ?_
        refine DR.p (.dep 4 1 rfl rfl rfl (.dep 5 0 rfl rfl rfl .nil)) (T_ix sl26 (.mk rfl) rfl hx14) .none rfl rfl (nofun) ?_
        refine DR.p (.dep 6 0 rfl rfl rfl .nil) (T_load ty5 rfl) .none rfl rfl (nofun) ?_
        refine DR.tail (by kernel_rfl) (.refl _) rfl ?_
        simp only [List.reverse_cons, List.reverse_nil, List.nil_append, List.cons_append, DT]
        refine JLp (T_neq rfl rfl) rfl (nofun) .none ?_
        refine JL_nil (KJ_hid hK ?_)
        refine KJ_nrm_then (KJ_J ?_)
        refine J_test rfl (fun hq15 => ?_) (fun hq15 => ?_)
        · replace hb6 := ift hq15 hb6
          refine J_seq ?_
          refine J_region ?_
          refine JLp (T_assign rfl) rfl (nofun) .none ?_
          refine JL_nil ?_
          refine KJ_nrm_then (KJ_J ?_)
          refine J_ret ?_
          refine KJ_ret_blk ?_
          refine KJ_ret_then ?_
          refine KJ_ret_then ?_
          refine KJ_ret_blk ?_
          refine KJ_ret_kq ?_
          refine KJ_ret_then ?_
          obtain rfl := inj hb6
          have hf7' := hf7
          obtain rfl : o4 = _ := hf7'
          replace h : some _ = some _ := h
          obtain rfl := inj h
          exact KJ_ret1' Try.results74 (.tmp (.mk rfl) Rv.nil) rfl rfl
        · replace hb6 := iff_ hq15 hb6
          refine J_skip ?_
          refine KJ_nrm_blk ?_
          refine KJ_nrm_then (KJ_J ?_)
          refine J_region ?_
          refine JLp (T_addw rfl rfl hw12) rfl (nofun) .none ?_
          refine JLp (T_move rfl) rfl (nofun) .none ?_
          refine JL_nil ?_
          refine KJ_nrm_then ?_
          exact KJ_nx () () (inj hb6) (.cons rfl (.cons rfl (.cons rfl (.cons rfl (.nil _))))) rfl
    · intro s2 g3 hs
      subst hs
      replace h := thn h
      refine KJ_nrm_then (KJ_J ?_)
      refine J_seq ?_
      refine J_region ?_
      refine JLp (T_assign rfl) rfl (nofun) .none ?_
      refine JL_nil ?_
      refine KJ_nrm_then (KJ_J ?_)
      refine J_ret ?_
      obtain rfl := inj h
      exact KJ_ret1' Try.results74 (.tmp (.mk rfl) Rv.nil) rfl rfl
end Go.Proofs.Ytogflgcngfghpaa
end

/- function 75 -/
section
set_option maxHeartbeats 4000000
set_option linter.unusedVariables false
set_option linter.unusedSimpArgs false
namespace Go.Proofs.Ytogflgcngfghpaa
open Go.J
def f_compare_walk_nodes (a0 : compare_walk) : Option (List Int) :=
  (idx a0.Walk.Tree.Levels a0.Walk.Level).bind fun x1 => some x1

theorem c_compare_walk_nodes {a0 : compare_walk} {b0 : Nat} {r : List Int} (h : f_compare_walk_nodes a0 = some r) : Ct Try.prog 75 [Rep.ptr.at (b0, 0)] [Ent.box b0 r_compare_walk a0] (fun _ : Unit => (Rep.sl (Rep.int .u64) 1).at r) (fun _ => [Ent.box b0 r_compare_walk a0]) := by
  refine Ct.mk Try.func75 rfl Try.ntmps75 (by simp) fun I R => ?_
  unfold f_compare_walk_nodes at h
  refine J_seq ?_
  refine J_region ?_
  refine JLp (T_assign rfl) rfl (nofun) .none ?_
  refine JL_nil ?_
  refine KJ_nrm_then (KJ_J ?_)
  refine J_seq ?_
  refine J_drawR (Ks := []) rfl (by kernel_rfl) fun K hK => ?_
  refine DR.p (.base (t := 0) rfl .nil) (T_move rfl) .none rfl rfl (nofun) ?_
  refine DR.p (.dep 0 0 rfl rfl rfl .nil) (T_nilchk rfl) .none rfl rfl (nofun) ?_
  refine DR.p (.dep 1 0 rfl rfl rfl .nil) (T_faddr fo98_0 rfl) .none rfl rfl (nofun) ?_
  refine DR.p (.dep 2 0 rfl rfl rfl .nil) (T_faddr fo41_0 rfl) .none rfl rfl (nofun) ?_
  refine DR.p (.dep 3 0 rfl rfl rfl .nil) (T_faddr fo24_2 rfl) .none rfl rfl (nofun) ?_
  refine DR.p (.dep 4 0 rfl rfl rfl .nil) (T_loadb ty22 rfl (HasF.comp (HasF.comp hf_compare_walk_Walk hf_api_Walk_Tree) hf_api_Tree_Levels)) .none rfl rfl B0 ?_
  refine DR.p (.base (t := 0) rfl .nil) (T_move rfl) .none rfl rfl (nofun) ?_
  refine DR.p (.dep 6 0 rfl rfl rfl .nil) (T_nilchk rfl) .none rfl rfl (nofun) ?_
  refine DR.p (.dep 7 0 rfl rfl rfl .nil) (T_faddr fo98_0 rfl) .none rfl rfl (nofun) ?_
  refine DR.p (.dep 8 0 rfl rfl rfl .nil) (T_faddr fo41_2 rfl) .none rfl rfl (nofun) ?_
  refine DR.p (.dep 9 0 rfl rfl rfl .nil) (T_loadb ty3 rfl (HasF.comp hf_compare_walk_Walk hf_api_Walk_Level)) .none rfl rfl B0 ?_
  refine DR.tail (by kernel_rfl) (.refl _) rfl ?_
  simp only [List.reverse_cons, List.reverse_nil, List.nil_append, List.cons_append, DT]
  replace h := bnd h; obtain ⟨x1, hx1, h⟩ := h
  refine JLp (T_ix sl22 (.mk rfl) rfl hx1) rfl (nofun) .none ?_
  refine JLp (T_load ty67 rfl) rfl (nofun) .none ?_
  refine JLp (T_assign rfl) rfl (nofun) .none ?_
  refine JL_nil (KJ_hid hK ?_)
  refine KJ_nrm_then (KJ_J ?_)
  refine J_ret ?_
  obtain rfl := inj h
  exact KJ_ret1c () [] rfl Try.results75 (.tmp (.mk rfl) Rv.nil) rfl rfl

theorem c_compare_walk_nodes_h0_1 {a0 : compare_walk} {b0 : Nat} {h_0 : Go.Value} {r : List Int} (h : f_compare_walk_nodes a0 = some r) : Ct Try.prog 75 [Rep.ptr.at (b0, 0)] [Ent.box b0 r_compare_walk_h0_1 (a0, h_0)] (fun _ : Unit => (Rep.sl (Rep.int .u64) 1).at r) (fun _ => [Ent.box b0 r_compare_walk_h0_1 (a0, h_0)]) := by
  refine Ct.mk Try.func75 rfl Try.ntmps75 (by simp) fun I R => ?_
  unfold f_compare_walk_nodes at h
  refine J_seq ?_
  refine J_region ?_
  refine JLp (T_assign rfl) rfl (nofun) .none ?_
  refine JL_nil ?_
  refine KJ_nrm_then (KJ_J ?_)
  refine J_seq ?_
  refine J_drawR (Ks := []) rfl (by kernel_rfl) fun K hK => ?_
  refine DR.p (.base (t := 0) rfl .nil) (T_move rfl) .none rfl rfl (nofun) ?_
  refine DR.p (.dep 0 0 rfl rfl rfl .nil) (T_nilchk rfl) .none rfl rfl (nofun) ?_
  refine DR.p (.dep 1 0 rfl rfl rfl .nil) (T_faddr fo98_0 rfl) .none rfl rfl (nofun) ?_
  refine DR.p (.dep 2 0 rfl rfl rfl .nil) (T_faddr fo41_0 rfl) .none rfl rfl (nofun) ?_
  refine DR.p (.dep 3 0 rfl rfl rfl .nil) (T_faddr fo24_2 rfl) .none rfl rfl (nofun) ?_
  refine DR.p (.dep 4 0 rfl rfl rfl .nil) (T_loadb ty22 rfl (HasF.comp hf_compare_walk_h0_1_Walk (HasF.comp hf_api_Walk_h1_Tree hf_api_Tree_Levels))) .none rfl rfl B0 ?_
  refine DR.p (.base (t := 0) rfl .nil) (T_move rfl) .none rfl rfl (nofun) ?_
  refine DR.p (.dep 6 0 rfl rfl rfl .nil) (T_nilchk rfl) .none rfl rfl (nofun) ?_
  refine DR.p (.dep 7 0 rfl rfl rfl .nil) (T_faddr fo98_0 rfl) .none rfl rfl (nofun) ?_
  refine DR.p (.dep 8 0 rfl rfl rfl .nil) (T_faddr fo41_2 rfl) .none rfl rfl (nofun) ?_
  refine DR.p (.dep 9 0 rfl rfl rfl .nil) (T_loadb ty3 rfl (HasF.comp hf_compare_walk_h0_1_Walk hf_api_Walk_h1_Level)) .none rfl rfl B0 ?_
  refine DR.tail (by kernel_rfl) (.refl _) rfl ?_
  simp only [List.reverse_cons, List.reverse_nil, List.nil_append, List.cons_append, DT]
  replace h := bnd h; obtain ⟨x1, hx1, h⟩ := h
  refine JLp (T_ix sl22 (.mk rfl) rfl hx1) rfl (nofun) .none ?_
  refine JLp (T_load ty67 rfl) rfl (nofun) .none ?_
  refine JLp (T_assign rfl) rfl (nofun) .none ?_
  refine JL_nil (KJ_hid hK ?_)
  refine KJ_nrm_then (KJ_J ?_)
  refine J_ret ?_
  obtain rfl := inj h
  exact KJ_ret1c () [] rfl Try.results75 (.tmp (.mk rfl) Rv.nil) rfl rfl
end Go.Proofs.Ytogflgcngfghpaa
end

/- function 46 -/
section
set_option maxHeartbeats 4000000
set_option linter.unusedVariables false
set_option linter.unusedSimpArgs false
namespace Go.Proofs.Ytogflgcngfghpaa
open Go.J
def f_compare_walk_differing (a0 : compare_walk) (a1 : List Int) : Option ((List Int) × compare_walk) :=
  (f_compare_numbers a0.Walk.Pending).bind fun x3 => (eachN (σ := compare_walk × List Int × List Int) (fun x6 s4 => (slc s4.2.1 0 8).bind fun x11 => (f_compare_walk_nodes s4.1).bind fun x12 => (idx x12 x6).bind fun x13 => (f_compare_put x13).bind fun x14 => (f_slices_Equal_byte_byte x11 x14).bind fun x15 => ((if (!x15) = true then (app 8 s4.2.2 [x6]).bind fun x21 => some (Fl.go x21) else some (Fl.go s4.2.2) : Option (Fl (List Int) (Rd (compare_walk × List Int × List Int) Empty)))).bind fun o17 => o17.then fun s19 => (slc s4.2.1 8 (s4.2.1.length : Int)).bind fun x23 => some (Rd.next ((⟨(⟨s4.1.Walk.Tree, s4.1.Walk.Pending, s4.1.Walk.Level, s4.1.Walk.Found, IntKind.i64.wrap (s4.1.Walk.Sent + 1), s4.1.Walk.Done⟩ : api_Walk)⟩ : compare_walk), x23, s19))) x3 (a0, a1, [])).bind fun so7 => some (so7.2.2, so7.1)

theorem c_compare_walk_differing {a0 : compare_walk} {a1 : List Int} {b0 : Nat} {r : (List Int) × compare_walk} (h : f_compare_walk_differing a0 a1 = some r) : Ct Try.prog 46 [Rep.ptr.at (b0, 0), (Rep.sl (Rep.int .u8) 1).at a1] [Ent.box b0 r_compare_walk a0] (fun _ : Unit => (Rep.sl (Rep.int .i64) 1).at r.1) (fun _ => [Ent.box b0 r_compare_walk r.2]) := by
  refine Ct.mkM Try.func46 rfl Try.ntmps46 (by simp) fun I R => ?_
  unfold f_compare_walk_differing at h
  refine J_seq ?_
  refine J_region ?_
  refine JLe0 (T_box (ρ := Rep.ptr) (.mk rfl)) rfl .none ?_
  refine JLa (T_boxm (.mk rfl) (Lay.sl _ _)) rfl .none fun b1 => ?_
  refine JLp (T_assign rfl) rfl (nofun) .none ?_
  refine JL_nil ?_
  refine KJ_nrm_then (KJ_J ?_)
  refine J_seq ?_
  refine J_region ?_
  refine JLa (T_alloc zv25 Lay.slv) rfl .none fun b2 => ?_
  refine JL_nil ?_
  refine KJ_nrm_then (KJ_J ?_)
  refine J_seq ?_
  refine J_seq ?_
  refine J_region ?_
  refine JLp (T_load ty96 rfl) rfl (nofun) .none ?_
  refine JLp (T_nilchk rfl) rfl (nofun) .none ?_
  refine JLp (T_faddr fo98_0 rfl) rfl (nofun) .none ?_
  refine JLp (T_faddr fo41_1 rfl) rfl (nofun) .none ?_
  refine JLp (T_loadb ty39 rfl (HasF.comp hf_compare_walk_Walk hf_api_Walk_Pending)) rfl B2 .none ?_
  replace h := bnd h; obtain ⟨x3, hx3, h⟩ := h
  refine JLe0 (T_call ⟨_, Try.func36, rfl, rfl⟩ (c_compare_numbers hx3) ⟨(.mk rfl), trivial⟩) rfl .none ?_
  refine JL_nil ?_
  refine KJ_nrm_then (KJ_J ?_)
  refine J_rownil 3 1 (Rep.int .i64) ?_
  replace h := bnd h; obtain ⟨so7, ho8, h⟩ := h
  refine J_rforN ho8 [(2, (Rep.iptr Rep.ptr).at (b0, 0)), (3, Rep.ptr.at (b1, 0)), (5, Rep.ptr.at (b2, 0)), (12, (Rep.iter Try.prog (Rep.int .i64)).at x3)] (fun x6 (gx : Unit) => [(2, (Rep.iptr Rep.ptr).at (b0, 0)), (3, Rep.ptr.at (b1, 0)), (5, Rep.ptr.at (b2, 0)), (12, (Rep.iter Try.prog (Rep.int .i64)).at x3), (6, (Rep.int .i64).at x6)]) (fun x6 gx => []) (fun (s4 : compare_walk × List Int × List Int) (g5 : Value) => [Ent.row g5 3 1 (Rep.int .i64) s4.2.2, Ent.box b2 Rep.slv g5, Ent.box b1 (Rep.sl (Rep.int .u8) 1) s4.2.1, Ent.box b0 r_compare_walk s4.1]) (.slice none 0 0) rfl (.mk rfl) (.cons rfl (.cons rfl (.cons rfl (.cons rfl (.nil _))))) rfl rfl ?_ ?_ ?_
  · intro l I1 R1 x6 s4 g5
    refine J_region ?_
    refine JLp (T_assign rfl) rfl (nofun) .none ?_
    refine JL_nil ?_
    exact KJ_rfa () (.cons rfl (.cons rfl (.cons rfl (.cons rfl (.cons rfl (.nil _)))))) rfl
  · intro l I1 R1 x6 gx s4 g5 st10 hb9
    refine J_block ?_
    refine J_seq ?_
    refine J_seq ?_
    replace hb9 := bnd hb9; obtain ⟨x11, hx11, hb9⟩ := hb9
    replace hb9 := bnd hb9; obtain ⟨x12, hx12, hb9⟩ := hb9
    replace hb9 := bnd hb9; obtain ⟨x13, hx13, hb9⟩ := hb9
    replace hb9 := bnd hb9; obtain ⟨x14, hx14, hb9⟩ := hb9
    refine J_drawR (Ks := []) rfl (by kernel_rfl) fun K hK => ?_
    refine DR.p (.base (t := 3) rfl .nil) (T_loadw ty26 rfl) .none rfl rfl B2 ?_
    refine DR.p (.dep 0 0 rfl rfl rfl .nil) (T_slice_h sl26 (.mk rfl) rfl hx11) .none rfl rfl (nofun) ?_
    refine DR.p (.base (t := 2) rfl .nil) (T_load ty96 rfl) .none rfl rfl (nofun) ?_
    refine DR.b (.dep 2 0 rfl rfl rfl .nil) (T_call ⟨_, Try.func75, rfl, rfl⟩ (c_compare_walk_nodes hx12) ⟨.mk rfl, trivial⟩) .none rfl rfl B3 ?_
    refine DR.p (.base (t := 6) rfl .nil) (T_move rfl) .none rfl rfl (nofun) ?_
    refine DR.p (.dep 3 1 rfl rfl rfl (.dep 4 0 rfl rfl rfl .nil)) (T_ix sl67 (.mk rfl) rfl hx13) .none rfl rfl (nofun) ?_
    refine DR.p (.dep 5 0 rfl rfl rfl .nil) (T_load ty73 rfl) .none rfl rfl (nofun) ?_
    refine DR.e (.dep 6 0 rfl rfl rfl .nil) (T_call ⟨_, Try.func37, rfl, rfl⟩ (c_compare_put hx14) ⟨(.mk rfl), trivial⟩) .none rfl rfl ?_
    refine DR.tail (by kernel_rfl) (.refl _) rfl ?_
    simp only [List.reverse_cons, List.reverse_nil, List.nil_append, List.cons_append, DT]
    replace hb9 := bnd hb9; obtain ⟨x15, hx15, hb9⟩ := hb9
    refine JLe0 (T_call ⟨_, Try.func74, rfl, rfl⟩ (c_slices_Equal_byte_byte hx15) ⟨(.mk rfl), ⟨(.mk rfl), trivial⟩⟩) rfl .none ?_
    refine JLp (T_not rfl) rfl (nofun) .none ?_
    refine JL_nil (KJ_hid hK ?_)
    refine KJ_nrm_then (KJ_J ?_)
    replace hb9 := bnd hb9; obtain ⟨o17, ho18, hb9⟩ := hb9
    refine J_cuto o17 (fun (s19 : List Int) (g20 : Value) => [(2, (Rep.iptr Rep.ptr).at (b0, 0)), (3, Rep.ptr.at (b1, 0))]) (fun s19 g20 => Ent.row g20 3 1 (Rep.int .i64) s19 :: Ent.box b2 Rep.slv g20 :: Ent.box b1 (Rep.sl (Rep.int .u8) 1) s4.2.1 :: Ent.box b0 r_compare_walk s4.1 :: R1) ?_ ?_
    · refine J_test rfl (fun hq16 => ?_) (fun hq16 => ?_)
      · replace ho18 := ift hq16 ho18
        refine J_region ?_
        refine JLp (T_loadw tv25 rfl) rfl B1 .none ?_
        refine JLp (T_move rfl) rfl (nofun) .none ?_
        refine JLe0 (T_bslice (ρ := (Rep.int .i64)) sl25 (Lay.int _) (.cons (.mk rfl) .nil) rfl (by decide)) rfl .none ?_
        replace ho18 := bnd ho18; obtain ⟨x21, hx21, ho18⟩ := ho18
        refine JLe1 (T_append sl25 ⟨_, (Lay.int _)⟩ (.mk rfl) (.mk rfl) hx21) rfl .none fun g22 => ?_
        refine JL.perm F1 ?_
        refine JLn1 (T_store tv25 rfl (.mk rfl) (SetF.self Lay.slv)) .none ?_
        refine JL_nil ?_
        refine KJ_nrm_kq ?_
        refine KJ.perm F3 ?_
        refine KJ.perm F3 ?_
        refine KJ.perm F2 ?_
        refine KJ.perm F3 ?_
        exact KJ_ot x21 g22 (inj ho18) (.cons rfl (.cons rfl (.nil _))) rfl
      · replace ho18 := iff_ hq16 ho18
        refine J_skip ?_
        refine KJ_nrm_kq ?_
        exact KJ_ot s4.2.2 g5 (inj ho18) (.cons rfl (.cons rfl (.nil _))) rfl
    · intro s19 g20 hs
      subst hs
      replace hb9 := thn hb9
      refine KJ_nrm_then (KJ_J ?_)
      refine J_seq ?_
      refine J_region ?_
      refine JLp (T_loadw ty26 rfl) rfl B2 .none ?_
      replace hb9 := bnd hb9; obtain ⟨x23, hx23, hb9⟩ := hb9
      refine JLp (T_slice_l sl26 (.mk rfl) rfl hx23) rfl (nofun) .none ?_
      refine JL.perm F2 ?_
      refine JLn1 (T_store ty26 rfl (.mk rfl) (SetF.self (Lay.sl _ _))) .none ?_
      refine JL_nil ?_
      refine KJ_nrm_then (KJ_J ?_)
      refine J_region ?_
      refine JLp (T_load ty96 rfl) rfl (nofun) .none ?_
      refine JLp (T_nilchk rfl) rfl (nofun) .none ?_
      refine JLp (T_faddr fo98_0 rfl) rfl (nofun) .none ?_
      refine JLp (T_faddr fo41_4 rfl) rfl (nofun) .none ?_
      refine JLp (T_loadb ty3 rfl (HasF.comp hf_compare_walk_Walk hf_api_Walk_Sent)) rfl B3 .none ?_
      refine JLp (T_add rfl rfl) rfl (nofun) .none ?_
      refine JLp (T_nilchk rfl) rfl (nofun) .none ?_
      refine JLp (T_faddr fo98_0 rfl) rfl (nofun) .none ?_
      refine JLp (T_faddr fo41_4 rfl) rfl (nofun) .none ?_
      refine JL.perm F3 ?_
      refine JLn1 (T_storeV (⟨(⟨s4.1.Walk.Tree, s4.1.Walk.Pending, s4.1.Walk.Level, s4.1.Walk.Found, IntKind.i64.wrap (s4.1.Walk.Sent + 1), s4.1.Walk.Done⟩ : api_Walk)⟩ : compare_walk) ty3 rfl (.mk rfl) (SetF.comp lay_api_Walk sf_compare_walk_Walk hf_compare_walk_Walk sf_api_Walk_Sent) rfl) .none ?_
      refine JL_nil ?_
      refine KJ_nrm_blk ?_
      refine KJ.perm F1 ?_
      refine KJ.perm F3 ?_
      refine KJ.perm F3 ?_
      exact KJ_rq ((⟨(⟨s4.1.Walk.Tree, s4.1.Walk.Pending, s4.1.Walk.Level, s4.1.Walk.Found, IntKind.i64.wrap (s4.1.Walk.Sent + 1), s4.1.Walk.Done⟩ : api_Walk)⟩ : compare_walk), x23, s19) g20 (inj hb9) rfl
  · intro r24 g5
    refine KJ_nrm_then (KJ_J ?_)
    refine J_seq ?_
    refine J_region ?_
    refine JLp (T_loadw tv25 rfl) rfl B2 .none ?_
    refine JLp (T_assign rfl) rfl (nofun) .none ?_
    refine JL_nil ?_
    refine KJ_nrm_then (KJ_J ?_)
    refine J_ret ?_
    refine KJ.perm F1 ?_
    refine KJ_freeze (t := 4) rfl ?_
    obtain rfl := inj h
    exact KJ_retM1 (M := [Ent.mark r24]) (J := [Ent.box b2 Rep.slv g5, Ent.box b1 (Rep.sl (Rep.int .u8) 1) so7.2.1]) () (marks.cons marks.nil) rfl Try.results46 (.tmp (.mk rfl) Rv.nil) rfl
end Go.Proofs.Ytogflgcngfghpaa
end

/- function 48 -/
section
set_option maxHeartbeats 4000000
set_option linter.unusedVariables false
set_option linter.unusedSimpArgs false
namespace Go.Proofs.Ytogflgcngfghpaa
open Go.J
def f_compare_walk_finish (a0 : compare_walk) : Option (compare_walk) :=
  some (⟨(⟨a0.Walk.Tree, [], 0, a0.Walk.Found, a0.Walk.Sent, true⟩ : api_Walk)⟩ : compare_walk)

theorem c_compare_walk_finish {a0 : compare_walk} {b0 : Nat} {r : compare_walk} (h : f_compare_walk_finish a0 = some r) : Ct Try.prog 48 [Rep.ptr.at (b0, 0)] [Ent.box b0 r_compare_walk a0] (fun _ : Unit => Pr.tup []) (fun _ => [Ent.box b0 r_compare_walk r]) := by
  refine Ct.mk Try.func48 rfl Try.ntmps48 (by simp) fun I R => ?_
  unfold f_compare_walk_finish at h
  refine J_region ?_
  refine JLp (T_move rfl) rfl (nofun) .none ?_
  refine JLp (T_move rfl) rfl (nofun) .none ?_
  refine JLp (T_move rfl) rfl (nofun) .none ?_
  refine JLp (T_nilchk rfl) rfl (nofun) .none ?_
  refine JLp (T_faddr fo98_0 rfl) rfl (nofun) .none ?_
  refine JLp (T_faddr fo41_2 rfl) rfl (nofun) .none ?_
  refine JLn1 (T_storeV (⟨(⟨a0.Walk.Tree, a0.Walk.Pending, 0, a0.Walk.Found, a0.Walk.Sent, a0.Walk.Done⟩ : api_Walk)⟩ : compare_walk) ty3 rfl (.mk rfl) (SetF.comp lay_api_Walk sf_compare_walk_Walk hf_compare_walk_Walk sf_api_Walk_Level) rfl) .none ?_
  refine JLp (T_nilchk rfl) rfl (nofun) .none ?_
  refine JLp (T_faddr fo98_0 rfl) rfl (nofun) .none ?_
  refine JLp (T_faddr fo41_1 rfl) rfl (nofun) .none ?_
  refine JLn1 (T_storeV (⟨(⟨a0.Walk.Tree, [], 0, a0.Walk.Found, a0.Walk.Sent, a0.Walk.Done⟩ : api_Walk)⟩ : compare_walk) ty39 rfl (.nilc rfl) (SetF.comp lay_api_Walk sf_compare_walk_Walk hf_compare_walk_Walk sf_api_Walk_Pending) rfl) .none ?_
  refine JLp (T_nilchk rfl) rfl (nofun) .none ?_
  refine JLp (T_faddr fo98_0 rfl) rfl (nofun) .none ?_
  refine JLp (T_faddr fo41_5 rfl) rfl (nofun) .none ?_
  refine JLn1 (T_storeV (⟨(⟨a0.Walk.Tree, [], 0, a0.Walk.Found, a0.Walk.Sent, true⟩ : api_Walk)⟩ : compare_walk) ty4 rfl (.mk rfl) (SetF.comp lay_api_Walk sf_compare_walk_Walk hf_compare_walk_Walk sf_api_Walk_Done) rfl) .none ?_
  refine JL_nil ?_
  refine KJ_end_body ?_
  obtain rfl := inj h
  exact KJ_retnc () [] rfl Try.results48 Rv.nil rfl (by simp) rfl
end Go.Proofs.Ytogflgcngfghpaa
end

/- function 47 -/
section
set_option maxHeartbeats 4000000
set_option linter.unusedVariables false
set_option linter.unusedSimpArgs false
namespace Go.Proofs.Ytogflgcngfghpaa
open Go.J
def f_compare_walk_find (a0 : compare_walk) (a1 : List Int) : Option (compare_walk) :=
  (rangeF (σ := List api_Extent) (ρ := compare_walk) (fun i8 x12 s1 => (app 16 s1 [(⟨IntKind.i64.wrap (x12 * a0.Walk.Tree.Leaf), min a0.Walk.Tree.Leaf (IntKind.i64.wrap (a0.Walk.Tree.Size - (IntKind.i64.wrap (x12 * a0.Walk.Tree.Leaf))))⟩ : api_Extent)]).bind fun x14 => some (Rd.next x14)) a1 0 []).bind fun o3 => o3.then fun s1 => (f_extent_Union s1 []).bind fun x16 => (f_compare_walk_finish (⟨(⟨a0.Walk.Tree, a0.Walk.Pending, a0.Walk.Level, x16, a0.Walk.Sent, a0.Walk.Done⟩ : api_Walk)⟩ : compare_walk)).bind fun x17 => some x17

theorem c_compare_walk_find {a0 : compare_walk} {a1 : List Int} {b0 : Nat} {r : compare_walk} (h : f_compare_walk_find a0 a1 = some r) : Ct Try.prog 47 [Rep.ptr.at (b0, 0), (Rep.sl (Rep.int .i64) 1).at a1] [Ent.box b0 r_compare_walk a0] (fun _ : Unit => Pr.tup []) (fun _ => [Ent.box b0 r_compare_walk r]) := by
  refine Ct.mk Try.func47 rfl Try.ntmps47 (by simp) fun I R => ?_
  unfold f_compare_walk_find at h
  refine J_seq ?_
  refine J_region ?_
  refine JLp (T_move rfl) rfl (nofun) .none ?_
  refine JLp (T_nilchk rfl) rfl (nofun) .none ?_
  refine JLp (T_faddr fo98_0 rfl) rfl (nofun) .none ?_
  refine JLp (T_faddr fo41_3 rfl) rfl (nofun) .none ?_
  refine JLn1 (T_storeV (⟨(⟨a0.Walk.Tree, a0.Walk.Pending, a0.Walk.Level, [], a0.Walk.Sent, a0.Walk.Done⟩ : api_Walk)⟩ : compare_walk) ty39 rfl (.nilc rfl) (SetF.comp lay_api_Walk sf_compare_walk_Walk hf_compare_walk_Walk sf_api_Walk_Found) rfl) .none ?_
  refine JL_nil ?_
  refine KJ_nrm_then (KJ_J ?_)
  refine J_seq ?_
  refine J_region ?_
  refine JLp (T_assign rfl) rfl (nofun) .none ?_
  refine JL_nil ?_
  refine KJ_nrm_then (KJ_J ?_)
  refine J_seq ?_
  refine J_seq ?_
  refine J_region ?_
  refine JLp (T_move rfl) rfl (nofun) .none ?_
  refine JLp (T_len (ρ := (Rep.int .i64)) sl25 (.mk rfl)) rfl (nofun) .none ?_
  refine JLp (T_move rfl) rfl (nofun) .none ?_
  refine JL_nil ?_
  refine KJ_nrm_then (KJ_J ?_)
  refine J_rownil 62 2 r_api_Extent ?_
  replace h := bnd h; obtain ⟨o3, ho4, h⟩ := h
  refine J_cuto o3 (fun (s1 : List api_Extent) (g2 : Value) => [(0, Rep.ptr.at (b0, 0)), (4, Rep.slv.at g2)]) (fun s1 g2 => Ent.row g2 62 2 r_api_Extent s1 :: Ent.box b0 r_compare_walk (⟨(⟨a0.Walk.Tree, a0.Walk.Pending, a0.Walk.Level, [], a0.Walk.Sent, a0.Walk.Done⟩ : api_Walk)⟩ : compare_walk) :: R) ?_ ?_
  · refine J_block ?_
    refine J_lim (ρ := (Rep.int .i64)) (n := 1) (l := a1) (x := .tmp 12) (.mk rfl) fun hl => ?_
    refine J_range ho4 hl (fun i8 (s1 : List api_Extent) (g2 : Value) => [(0, Rep.ptr.at (b0, 0)), (12, (Rep.sl (Rep.int .i64) 1).at a1), (13, (Rep.int .i64).at (a1.length : Int)), (4, Rep.slv.at g2), (14, (Rep.int .i64).at i8)]) (fun i8 s1 g2 => Ent.row g2 62 2 r_api_Extent s1 :: Ent.box b0 r_compare_walk (⟨(⟨a0.Walk.Tree, a0.Walk.Pending, a0.Walk.Level, [], a0.Walk.Sent, a0.Walk.Done⟩ : api_Walk)⟩ : compare_walk) :: R) (.slice none 0 0) (.cons rfl (.cons rfl (.cons rfl (.cons rfl (.cons rfl (.nil _)))))) rfl ?_ ?_
    · intro s1 g2 ho4n
      refine J_seq (J_region (JLp (T_lss rfl rfl) rfl (nofun) .none (JL_nil (KJ_nrm_then (KJ_J ?_)))))
      refine J_seq (J_test rfl (fun hp => absurd (of_decide_eq_true hp) (by omega)) (fun _ => J_exit (KJ_exit_then (KJ_exit_then (KJ_exit_here (KJ_nrm_kq ?_))))))
      exact KJ_ot s1 g2 ho4n (.cons rfl (.cons rfl (.nil _))) rfl
    · intro i8 x12 s1 g2 st7 hi9 hj10 hx13 hw11 hb5 hf6
      refine J_seq (J_region (JLp (T_lss rfl rfl) rfl (nofun) .none (JL_nil (KJ_nrm_then (KJ_J ?_)))))
      refine J_seq (J_test rfl (fun _ => J_skip (KJ_nrm_then (KJ_J ?_))) (fun hp => absurd hj10 (of_decide_eq_false hp)))
      refine J_seq ?_
      refine J_block ?_
      refine J_seq ?_
      refine J_region ?_
      refine JLp (T_ix sl25 (.mk rfl) rfl hx13) rfl (nofun) .none ?_
      refine JLp (T_load ty3 rfl) rfl (nofun) .none ?_
      refine JLp (T_assign rfl) rfl (nofun) .none ?_
      refine JL_nil ?_
      refine KJ_nrm_then (KJ_J ?_)
      refine J_seq ?_
      refine J_region ?_
      refine JLp (T_move rfl) rfl (nofun) .none ?_
      refine JLp (T_move rfl) rfl (nofun) .none ?_
      refine JLp (T_nilchk rfl) rfl (nofun) .none ?_
      refine JLp (T_faddr fo98_0 rfl) rfl (nofun) .none ?_
      refine JLp (T_faddr fo41_0 rfl) rfl (nofun) .none ?_
      refine JLp (T_faddr fo24_1 rfl) rfl (nofun) .none ?_
      refine JLp (T_loadb ty3 rfl (HasF.comp (HasF.comp hf_compare_walk_Walk hf_api_Walk_Tree) hf_api_Tree_Leaf)) rfl B1 .none ?_
      refine JLp (T_mul rfl rfl) rfl (nofun) .none ?_
      refine JLp (T_assign rfl) rfl (nofun) .none ?_
      refine JL_nil ?_
      refine KJ_nrm_then (KJ_J ?_)
      refine J_drawR (Ks := []) rfl (by kernel_rfl) fun K hK => ?_
      refine DR.p (.base (t := 4) rfl .nil) (T_move rfl) .none rfl rfl (nofun) ?_
      refine DR.p (.base (t := 7) rfl .nil) (T_move rfl) .none rfl rfl (nofun) ?_
      refine DR.p (.base (t := 0) rfl .nil) (T_move rfl) .none rfl rfl (nofun) ?_
      refine DR.p (.dep 2 0 rfl rfl rfl .nil) (T_nilchk rfl) .none rfl rfl (nofun) ?_
      refine DR.p (.dep 3 0 rfl rfl rfl .nil) (T_faddr fo98_0 rfl) .none rfl rfl (nofun) ?_
      refine DR.p (.dep 4 0 rfl rfl rfl .nil) (T_faddr fo41_0 rfl) .none rfl rfl (nofun) ?_
      refine DR.p (.dep 5 0 rfl rfl rfl .nil) (T_faddr fo24_1 rfl) .none rfl rfl (nofun) ?_
      refine DR.p (.dep 6 0 rfl rfl rfl .nil) (T_loadb ty3 rfl (HasF.comp (HasF.comp hf_compare_walk_Walk hf_api_Walk_Tree) hf_api_Tree_Leaf)) .none rfl rfl B1 ?_
      refine DR.p (.base (t := 0) rfl .nil) (T_move rfl) .none rfl rfl (nofun) ?_
      refine DR.p (.dep 8 0 rfl rfl rfl .nil) (T_nilchk rfl) .none rfl rfl (nofun) ?_
      refine DR.p (.dep 9 0 rfl rfl rfl .nil) (T_faddr fo98_0 rfl) .none rfl rfl (nofun) ?_
      refine DR.p (.dep 10 0 rfl rfl rfl .nil) (T_faddr fo41_0 rfl) .none rfl rfl (nofun) ?_
      refine DR.p (.dep 11 0 rfl rfl rfl .nil) (T_faddr fo24_0 rfl) .none rfl rfl (nofun) ?_
      refine DR.p (.dep 12 0 rfl rfl rfl .nil) (T_loadb ty3 rfl (HasF.comp (HasF.comp hf_compare_walk_Walk hf_api_Walk_Tree) hf_api_Tree_Size)) .none rfl rfl B1 ?_
      refine DR.p (.base (t := 7) rfl .nil) (T_move rfl) .none rfl rfl (nofun) ?_
      refine DR.p (.dep 13 1 rfl rfl rfl (.dep 14 0 rfl rfl rfl .nil)) (T_sub rfl rfl) .none rfl rfl (nofun) ?_
      refine DR.p (.dep 7 8 rfl rfl rfl (.dep 15 0 rfl rfl rfl .nil)) (T_min rfl rfl) .none rfl rfl (nofun) ?_
      refine DR.p (.dep 1 15 rfl rfl rfl (.dep 16 0 rfl rfl rfl .nil)) (T_build (s' := (⟨IntKind.i64.wrap (x12 * a0.Walk.Tree.Leaf), min a0.Walk.Tree.Leaf (IntKind.i64.wrap (a0.Walk.Tree.Size - (IntKind.i64.wrap (x12 * a0.Walk.Tree.Leaf))))⟩ : api_Extent)) bd62 z62 lay_api_Extent (.cons (π := (Rep.int .i64)) (.mk rfl) rfl (Lay.int _) sf_api_Extent_Start (.cons (π := (Rep.int .i64)) (.mk rfl) rfl (Lay.int _) sf_api_Extent_Count .nil))) .none rfl rfl (nofun) ?_
      refine DR.e (.dep 17 0 rfl rfl rfl .nil) (T_bslice (ρ := r_api_Extent) sl39 lay_api_Extent (.cons (.mk rfl) .nil) rfl (by decide)) .none rfl rfl ?_
      refine DR.tail (by kernel_rfl) (.refl _) rfl ?_
      simp only [List.reverse_cons, List.reverse_nil, List.nil_append, List.cons_append, DT]
      replace hb5 := bnd hb5; obtain ⟨x14, hx14, hb5⟩ := hb5
      refine JLe1 (T_append sl39 ⟨_, lay_api_Extent⟩ (.mk rfl) (.mk rfl) hx14) rfl .none fun g15 => ?_
      refine JLp (T_assign rfl) rfl (nofun) .none ?_
      refine JL_nil (KJ_hid hK ?_)
      refine KJ_nrm_blk ?_
      refine KJ_nrm_then (KJ_J ?_)
      refine J_region ?_
      refine JLp (T_addw rfl rfl hw11) rfl (nofun) .none ?_
      refine JLp (T_move rfl) rfl (nofun) .none ?_
      refine JL_nil ?_
      refine KJ_nrm_then ?_
      exact KJ_nx x14 g15 (inj hb5) (.cons rfl (.cons rfl (.cons rfl (.cons rfl (.cons rfl (.nil _)))))) rfl
  · intro s1 g2 hs
    subst hs
    replace h := thn h
    refine KJ_nrm_then (KJ_J ?_)
    refine J_seq ?_
    refine J_region ?_
    refine JLp (T_move rfl) rfl (nofun) .none ?_
    refine JLp (T_move rfl) rfl (nofun) .none ?_
    replace h := bnd h; obtain ⟨x16, hx16, h⟩ := h
    refine JL_freeze2 48 4 rfl rfl ?_
    refine JLe0 (T_call ⟨_, Try.func60, rfl, rfl⟩ (c_extent_Union hx16) ⟨(.mk rfl), ⟨(.nilc rfl), trivial⟩⟩) rfl .none ?_
    refine JLp (T_nilchk rfl) rfl (nofun) .none ?_
    refine JLp (T_faddr fo98_0 rfl) rfl (nofun) .none ?_
    refine JLp (T_faddr fo41_3 rfl) rfl (nofun) .none ?_
    refine JLn1 (T_storeV (⟨(⟨a0.Walk.Tree, a0.Walk.Pending, a0.Walk.Level, x16, a0.Walk.Sent, a0.Walk.Done⟩ : api_Walk)⟩ : compare_walk) ty39 rfl (.mk rfl) (SetF.comp lay_api_Walk sf_compare_walk_Walk hf_compare_walk_Walk sf_api_Walk_Found) rfl) .none ?_
    refine JL_nil ?_
    refine KJ_nrm_then (KJ_J ?_)
    refine J_region ?_
    refine JLp (T_move rfl) rfl (nofun) .none ?_
    replace h := bnd h; obtain ⟨x17, hx17, h⟩ := h
    refine JLe1 (T_call ⟨_, Try.func48, rfl, rfl⟩ (c_compare_walk_finish hx17) ⟨.mk rfl, trivial⟩) rfl .none fun _ => ?_
    refine JL_nil ?_
    refine KJ_end_body ?_
    obtain rfl := inj h
    exact KJ_retnc () [] rfl Try.results47 Rv.nil rfl (by simp) rfl
end Go.Proofs.Ytogflgcngfghpaa
end

/- function 76 -/
section
set_option maxHeartbeats 4000000
set_option linter.unusedVariables false
set_option linter.unusedSimpArgs false
namespace Go.Proofs.Ytogflgcngfghpaa
open Go.J
def f_compare_add (a0 : List api_Extent) (a1 : Int) : Option (List api_Extent) :=
  (if (decide (0 < (a0.length : Int))) = true then (idx a0 (IntKind.i64.wrap ((a0.length : Int) - 1))).bind fun x1 => (idx a0 (IntKind.i64.wrap ((a0.length : Int) - 1))).bind fun x2 => some (decide ((IntKind.i64.wrap (x1.Start + x2.Count)) = a1)) else some false).bind fun c3 => if c3 = true then (idx a0 (IntKind.i64.wrap ((a0.length : Int) - 1))).bind fun x5 => (idx a0 (IntKind.i64.wrap ((a0.length : Int) - 1))).bind fun x6 => some (setI a0 (IntKind.i64.wrap ((a0.length : Int) - 1)) (⟨x6.Start, IntKind.i64.wrap (x5.Count + 1)⟩ : api_Extent)) else (app 16 a0 [(⟨a1, 1⟩ : api_Extent)]).bind fun x7 => some x7

theorem c_compare_add {a0 : List api_Extent} {a1 : Int} {s0 : Value} {r : List api_Extent} (h : f_compare_add a0 a1 = some r) : Ct Try.prog 76 [Rep.slv.at s0, (Rep.int .i64).at a1] [Ent.row s0 62 2 r_api_Extent a0] (fun s : Value => Rep.slv.at s) (fun s => [Ent.row s 62 2 r_api_Extent r]) := by
  refine Ct.mk Try.func76 rfl Try.ntmps76 (by simp) fun I R => ?_
  unfold f_compare_add at h
  refine J_seq ?_
  refine J_region ?_
  refine JLp (T_assign rfl) rfl (nofun) .none ?_
  refine JL_nil ?_
  refine KJ_nrm_then (KJ_J ?_)
  refine J_seq ?_
  refine J_seq ?_
  refine J_region ?_
  refine JLp (T_move rfl) rfl (nofun) .none ?_
  refine JLp (T_len_row sl39 (.mk rfl)) rfl B0 .none ?_
  refine JLp (T_assign rfl) rfl (nofun) .none ?_
  refine JL_nil ?_
  refine KJ_nrm_then (KJ_J ?_)
  refine J_seq ?_
  replace h := bnd h; obtain ⟨c3, hc3, h⟩ := h
  refine J_cutN [(0, Rep.slv.at s0), (1, (Rep.int .i64).at a1), (5, (Rep.int .i64).at (a0.length : Int)), (26, Rep.bool.at c3)] (Ent.row s0 62 2 r_api_Extent a0 :: R) ?_ ?_
  · rcases Bool.eq_false_or_eq_true (decide (0 < (a0.length : Int))) with hqc3 | hqc3
    · replace hc3 := ift hqc3 hc3
      replace hc3 := bnd hc3; obtain ⟨x1, hx1, hc3⟩ := hc3
      replace hc3 := bnd hc3; obtain ⟨x2, hx2, hc3⟩ := hc3
      obtain rfl := inj hc3
      refine J_drawR (Ks := []) rfl (by kernel_rfl) fun K hK => ?_
      refine DR.p (.base (t := 5) rfl .nil) (T_move rfl) .none rfl rfl (nofun) ?_
      refine DR.p (.dep 0 0 rfl rfl rfl .nil) (T_gtr rfl rfl) .none rfl rfl (nofun) ?_
      refine DR.p (.dep 1 0 rfl rfl rfl .nil) (T_move rfl) .none rfl rfl (nofun) ?_
      refine DR.p (.base (t := 0) rfl (.dep 2 0 rfl rfl rfl .nil)) (T_move rfl) (.y rfl rfl hqc3) rfl rfl (nofun) ?_
      refine DR.p (.base (t := 5) rfl (.dep 2 1 rfl rfl rfl .nil)) (T_move rfl) (.y rfl rfl hqc3) rfl rfl (nofun) ?_
      refine DR.p (.dep 4 0 rfl rfl rfl (.dep 2 2 rfl rfl rfl .nil)) (T_sub rfl rfl) (.y rfl rfl hqc3) rfl rfl (nofun) ?_
      refine DR.p (.dep 3 2 rfl rfl rfl (.dep 5 0 rfl rfl rfl (.dep 2 3 rfl rfl rfl .nil))) (T_ixr sl39 (.mk rfl) rfl hx1) (.y rfl rfl hqc3) rfl rfl B0 ?_
      refine DR.p (.dep 6 0 rfl rfl rfl (.dep 2 4 rfl rfl rfl .nil)) (T_faddr fo62_0 rfl) (.y rfl rfl hqc3) rfl rfl (nofun) ?_
      refine DR.p (.dep 7 0 rfl rfl rfl (.dep 2 5 rfl rfl rfl .nil)) (T_loadr (i := IntKind.i64.wrap ((a0.length : Int) - 1)) (n := 2) (s := s0) (p := 0) ty3 rfl hx1 hf_api_Extent_Start) (.y rfl rfl hqc3) rfl rfl B0 ?_
      refine DR.p (.base (t := 0) rfl (.dep 2 6 rfl rfl rfl .nil)) (T_move rfl) (.y rfl rfl hqc3) rfl rfl (nofun) ?_
      refine DR.p (.base (t := 5) rfl (.dep 2 7 rfl rfl rfl .nil)) (T_move rfl) (.y rfl rfl hqc3) rfl rfl (nofun) ?_
      refine DR.p (.dep 10 0 rfl rfl rfl (.dep 2 8 rfl rfl rfl .nil)) (T_sub rfl rfl) (.y rfl rfl hqc3) rfl rfl (nofun) ?_
      refine DR.p (.dep 9 2 rfl rfl rfl (.dep 11 0 rfl rfl rfl (.dep 2 9 rfl rfl rfl .nil))) (T_ixr sl39 (.mk rfl) rfl hx2) (.y rfl rfl hqc3) rfl rfl B0 ?_
      refine DR.p (.dep 12 0 rfl rfl rfl (.dep 2 10 rfl rfl rfl .nil)) (T_faddr fo62_1 rfl) (.y rfl rfl hqc3) rfl rfl (nofun) ?_
      refine DR.p (.dep 13 0 rfl rfl rfl (.dep 2 11 rfl rfl rfl .nil)) (T_loadr (i := IntKind.i64.wrap ((a0.length : Int) - 1)) (n := 2) (s := s0) (p := 1) ty3 rfl hx2 hf_api_Extent_Count) (.y rfl rfl hqc3) rfl rfl B0 ?_
      refine DR.p (.dep 8 6 rfl rfl rfl (.dep 14 0 rfl rfl rfl (.dep 2 12 rfl rfl rfl .nil))) (T_add rfl rfl) (.y rfl rfl hqc3) rfl rfl (nofun) ?_
      refine DR.p (.base (t := 1) rfl (.dep 2 13 rfl rfl rfl .nil)) (T_move rfl) (.y rfl rfl hqc3) rfl rfl (nofun) ?_
      refine DR.tail (by kernel_rfl) (.refl _) rfl ?_
      simp only [List.reverse_cons, List.reverse_nil, List.nil_append, List.cons_append, DT]
      refine JLp (T_eql rfl rfl) rfl (nofun) (.y rfl rfl hqc3) ?_
      refine JLp (T_pickT rfl hqc3 rfl) rfl (nofun) .none ?_
      refine JL_nil (KJ_hid hK ?_)
      exact KJ.sub KJ_end (.cons rfl (.cons rfl (.cons rfl (.cons rfl (.nil _)))))
    · replace hc3 := iff_ hqc3 hc3
      obtain rfl := inj hc3
      refine J_drawR (Ks := []) rfl (by kernel_rfl) fun K hK => ?_
      refine DR.p (.base (t := 5) rfl .nil) (T_move rfl) .none rfl rfl (nofun) ?_
      refine DR.p (.dep 0 0 rfl rfl rfl .nil) (T_gtr rfl rfl) .none rfl rfl (nofun) ?_
      refine DR.p (.dep 1 0 rfl rfl rfl .nil) (T_move rfl) .none rfl rfl (nofun) ?_
      refine DR.x (.dep 2 0 rfl rfl rfl .nil) rfl rfl hqc3 rfl rfl ?_
      refine DR.x (.dep 2 1 rfl rfl rfl .nil) rfl rfl hqc3 rfl rfl ?_
      refine DR.x (.dep 2 2 rfl rfl rfl .nil) rfl rfl hqc3 rfl rfl ?_
      refine DR.x (.dep 2 3 rfl rfl rfl .nil) rfl rfl hqc3 rfl rfl ?_
      refine DR.x (.dep 2 4 rfl rfl rfl .nil) rfl rfl hqc3 rfl rfl ?_
      refine DR.x (.dep 2 5 rfl rfl rfl .nil) rfl rfl hqc3 rfl rfl ?_
      refine DR.x (.dep 2 6 rfl rfl rfl .nil) rfl rfl hqc3 rfl rfl ?_
      refine DR.x (.dep 2 7 rfl rfl rfl .nil) rfl rfl hqc3 rfl rfl ?_
      refine DR.x (.dep 2 8 rfl rfl rfl .nil) rfl rfl hqc3 rfl rfl ?_
      refine DR.x (.dep 2 9 rfl rfl rfl .nil) rfl rfl hqc3 rfl rfl ?_
      refine DR.x (.dep 2 10 rfl rfl rfl .nil) rfl rfl hqc3 rfl rfl ?_
      refine DR.x (.dep 2 11 rfl rfl rfl .nil) rfl rfl hqc3 rfl rfl ?_
      refine DR.x (.dep 2 12 rfl rfl rfl .nil) rfl rfl hqc3 rfl rfl ?_
      refine DR.x (.dep 2 13 rfl rfl rfl .nil) rfl rfl hqc3 rfl rfl ?_
      refine DR.tail (by kernel_rfl) (.refl _) rfl ?_
      simp only [List.reverse_cons, List.reverse_nil, List.nil_append, List.cons_append, DT]
      refine JLs rfl rfl hqc3 rfl ?_
      refine JLp (T_pickF rfl hqc3 rfl) rfl (nofun) .none ?_
      refine JL_nil (KJ_hid hK ?_)
      exact KJ.sub KJ_end (.cons rfl (.cons rfl (.cons rfl (.cons rfl (.nil _)))))
  · refine KJ_nrm_then (KJ_J ?_)
    refine J_test rfl (fun hq4 => ?_) (fun hq4 => ?_)
    · replace h := ift hq4 h
      refine J_seq ?_
      refine J_region ?_
      refine JLp (T_move rfl) rfl (nofun) .none ?_
      refine JLp (T_move rfl) rfl (nofun) .none ?_
      refine JLp (T_sub rfl rfl) rfl (nofun) .none ?_
      replace h := bnd h; obtain ⟨x5, hx5, h⟩ := h
      refine JLp (T_ixr sl39 (.mk rfl) rfl hx5) rfl B0 .none ?_
      refine JLp (T_faddr fo62_1 rfl) rfl (nofun) .none ?_
      refine JLp (T_loadr (i := IntKind.i64.wrap ((a0.length : Int) - 1)) (n := 2) (s := s0) (p := 1) ty3 rfl hx5 hf_api_Extent_Count) rfl B0 .none ?_
      refine JLp (T_add rfl rfl) rfl (nofun) .none ?_
      replace h := bnd h; obtain ⟨x6, hx6, h⟩ := h
      refine JLp (T_ixr sl39 (.mk rfl) rfl hx6) rfl B0 .none ?_
      refine JLp (T_faddr fo62_1 rfl) rfl (nofun) .none ?_
      refine JLn1 (T_storerV (i := IntKind.i64.wrap ((a0.length : Int) - 1)) (n := 2) (s := s0) (p := 1) (⟨x6.Start, IntKind.i64.wrap (x5.Count + 1)⟩ : api_Extent) ty3 rfl (.mk rfl) hx6 sf_api_Extent_Count lay_api_Extent rfl) .none ?_
      refine JL_nil ?_
      refine KJ_nrm_then (KJ_J ?_)
      refine J_seq ?_
      refine J_region ?_
      refine JLp (T_move rfl) rfl (nofun) .none ?_
      refine JLp (T_assign rfl) rfl (nofun) .none ?_
      refine JL_nil ?_
      refine KJ_nrm_then (KJ_J ?_)
      refine J_ret ?_
      refine KJ_ret_then ?_
      obtain rfl := inj h
      exact KJ_ret1c s0 [] rfl Try.results76 (.tmp (.mk rfl) Rv.nil) rfl rfl
    · replace h := iff_ hq4 h
      refine J_skip ?_
      refine KJ_nrm_then (KJ_J ?_)
      refine J_seq ?_
      refine J_region ?_
      refine JLp (T_move rfl) rfl (nofun) .none ?_
      refine JLp (T_move rfl) rfl (nofun) .none ?_
      refine JLp (T_build (s' := (⟨a1, 1⟩ : api_Extent)) bd62 z62 lay_api_Extent (.cons (π := (Rep.int .i64)) (.mk rfl) rfl (Lay.int _) sf_api_Extent_Start (.cons (π := (Rep.int .i64)) (.mk rfl) rfl (Lay.int _) sf_api_Extent_Count .nil))) rfl (nofun) .none ?_
      refine JLe0 (T_bslice (ρ := r_api_Extent) sl39 lay_api_Extent (.cons (.mk rfl) .nil) rfl (by decide)) rfl .none ?_
      replace h := bnd h; obtain ⟨x7, hx7, h⟩ := h
      refine JLe1 (T_append sl39 ⟨_, lay_api_Extent⟩ (.mk rfl) (.mk rfl) hx7) rfl .none fun g8 => ?_
      refine JLp (T_assign rfl) rfl (nofun) .none ?_
      refine JL_nil ?_
      refine KJ_nrm_then (KJ_J ?_)
      refine J_ret ?_
      obtain rfl := inj h
      exact KJ_ret1c g8 [] rfl Try.results76 (.tmp (.mk rfl) Rv.nil) rfl rfl
end Go.Proofs.Ytogflgcngfghpaa
end

/- function 49 -/
section
set_option maxHeartbeats 4000000
set_option linter.unusedVariables false
set_option linter.unusedSimpArgs false
namespace Go.Proofs.Ytogflgcngfghpaa
open Go.J
def f_compare_walk_descend (a0 : compare_walk) (a1 : List Int) : Option (compare_walk) :=
  (rangeF (σ := compare_walk × List api_Extent) (ρ := compare_walk) (fun i8 x12 s1 => (rangeF (σ := compare_walk × List api_Extent) (ρ := Rd (compare_walk × List api_Extent) (compare_walk)) (fun i21 x25 s14 => (f_compare_walk_nodes (⟨(⟨s14.1.Walk.Tree, [], s14.1.Walk.Level, s14.1.Walk.Found, s14.1.Walk.Sent, s14.1.Walk.Done⟩ : api_Walk)⟩ : compare_walk)).bind fun x27 => ((if (decide (x25 < (x27.length : Int))) = true then (f_compare_add s14.2 x25).bind fun x33 => some (Fl.go ((⟨(⟨s14.1.Walk.Tree, [], s14.1.Walk.Level, s14.1.Walk.Found, s14.1.Walk.Sent, s14.1.Walk.Done⟩ : api_Walk)⟩ : compare_walk), x33)) else some (Fl.go ((⟨(⟨s14.1.Walk.Tree, [], s14.1.Walk.Level, s14.1.Walk.Found, s14.1.Walk.Sent, s14.1.Walk.Done⟩ : api_Walk)⟩ : compare_walk), s14.2)) : Option (Fl (compare_walk × List api_Extent) (Rd (compare_walk × List api_Extent) (Rd (compare_walk × List api_Extent) (compare_walk)))))).bind fun o29 => o29.then fun s31 => some (Rd.next ((⟨(⟨s31.1.Walk.Tree, [], s31.1.Walk.Level, s31.1.Walk.Found, s31.1.Walk.Sent, s31.1.Walk.Done⟩ : api_Walk)⟩ : compare_walk), s31.2))) [IntKind.i64.wrap (2 * x12), IntKind.i64.wrap ((IntKind.i64.wrap (2 * x12)) + 1)] 0 ((⟨(⟨s1.1.Walk.Tree, [], s1.1.Walk.Level, s1.1.Walk.Found, s1.1.Walk.Sent, s1.1.Walk.Done⟩ : api_Walk)⟩ : compare_walk), s1.2)).bind fun o16 => o16.then fun s14 => some (Rd.next ((⟨(⟨s14.1.Walk.Tree, [], s14.1.Walk.Level, s14.1.Walk.Found, s14.1.Walk.Sent, s14.1.Walk.Done⟩ : api_Walk)⟩ : compare_walk), s14.2))) a1 0 ((⟨(⟨a0.Walk.Tree, [], IntKind.i64.wrap (a0.Walk.Level - 1), a0.Walk.Found, a0.Walk.Sent, a0.Walk.Done⟩ : api_Walk)⟩ : compare_walk), [])).bind fun o3 => o3.then fun s1 => some (⟨(⟨s1.1.Walk.Tree, s1.2, s1.1.Walk.Level, s1.1.Walk.Found, s1.1.Walk.Sent, s1.1.Walk.Done⟩ : api_Walk)⟩ : compare_walk)

theorem c_compare_walk_descend {a0 : compare_walk} {a1 : List Int} {b0 : Nat} {r : compare_walk} (h : f_compare_walk_descend a0 a1 = some r) : Ct Try.prog 49 [Rep.ptr.at (b0, 0), (Rep.sl (Rep.int .i64) 1).at a1] [Ent.box b0 r_compare_walk a0] (fun _ : Unit => Pr.tup []) (fun _ => [Ent.box b0 r_compare_walk r]) := by
  refine Ct.mk Try.func49 rfl Try.ntmps49 (by simp) fun I R => ?_
  unfold f_compare_walk_descend at h
  refine J_seq ?_
  refine J_region ?_
  refine JLp (T_move rfl) rfl (nofun) .none ?_
  refine JLp (T_nilchk rfl) rfl (nofun) .none ?_
  refine JLp (T_faddr fo98_0 rfl) rfl (nofun) .none ?_
  refine JLp (T_faddr fo41_2 rfl) rfl (nofun) .none ?_
  refine JLp (T_loadb ty3 rfl (HasF.comp hf_compare_walk_Walk hf_api_Walk_Level)) rfl B0 .none ?_
  refine JLp (T_sub rfl rfl) rfl (nofun) .none ?_
  refine JLp (T_nilchk rfl) rfl (nofun) .none ?_
  refine JLp (T_faddr fo98_0 rfl) rfl (nofun) .none ?_
  refine JLp (T_faddr fo41_2 rfl) rfl (nofun) .none ?_
  refine JLn1 (T_storeV (⟨(⟨a0.Walk.Tree, a0.Walk.Pending, IntKind.i64.wrap (a0.Walk.Level - 1), a0.Walk.Found, a0.Walk.Sent, a0.Walk.Done⟩ : api_Walk)⟩ : compare_walk) ty3 rfl (.mk rfl) (SetF.comp lay_api_Walk sf_compare_walk_Walk hf_compare_walk_Walk sf_api_Walk_Level) rfl) .none ?_
  refine JL_nil ?_
  refine KJ_nrm_then (KJ_J ?_)
  refine J_seq ?_
  refine J_region ?_
  refine JLp (T_move rfl) rfl (nofun) .none ?_
  refine JLp (T_nilchk rfl) rfl (nofun) .none ?_
  refine JLp (T_faddr fo98_0 rfl) rfl (nofun) .none ?_
  refine JLp (T_faddr fo41_1 rfl) rfl (nofun) .none ?_
  refine JLn1 (T_storeG ((⟨(⟨a0.Walk.Tree, [], IntKind.i64.wrap (a0.Walk.Level - 1), a0.Walk.Found, a0.Walk.Sent, a0.Walk.Done⟩ : api_Walk)⟩ : compare_walk), (.slice none 0 0)) tv39 rfl (.mk rfl) sg_compare_walk__compare_walk_h0_1__0_1 (by rfl)) .none ?_
  refine JL_nil ?_
  refine KJ_nrm_then (KJ_J ?_)
  refine J_seq ?_
  refine J_region ?_
  refine JLp (T_move rfl) rfl (nofun) .none ?_
  refine JLp (T_len (ρ := (Rep.int .i64)) sl25 (.mk rfl)) rfl (nofun) .none ?_
  refine JLp (T_move rfl) rfl (nofun) .none ?_
  refine JL_nil ?_
  refine KJ_nrm_then (KJ_J ?_)
  refine J_rownil 62 2 r_api_Extent ?_
  replace h := bnd h; obtain ⟨o3, ho4, h⟩ := h
  refine J_cuto o3 (fun (s1 : compare_walk × List api_Extent) (g2 : Value) => []) (fun s1 g2 => Ent.row g2 62 2 r_api_Extent s1.2 :: Ent.box b0 r_compare_walk_h0_1 ((⟨(⟨s1.1.Walk.Tree, [], s1.1.Walk.Level, s1.1.Walk.Found, s1.1.Walk.Sent, s1.1.Walk.Done⟩ : api_Walk)⟩ : compare_walk), g2) :: R) ?_ ?_
  · refine J_block ?_
    refine J_lim (ρ := (Rep.int .i64)) (n := 1) (l := a1) (x := .tmp 21) (.mk rfl) fun hl => ?_
    refine J_range ho4 hl (fun i8 (s1 : compare_walk × List api_Extent) (g2 : Value) => [(0, Rep.ptr.at (b0, 0)), (21, (Rep.sl (Rep.int .i64) 1).at a1), (22, (Rep.int .i64).at (a1.length : Int)), (23, (Rep.int .i64).at i8)]) (fun i8 s1 g2 => Ent.row g2 62 2 r_api_Extent s1.2 :: Ent.box b0 r_compare_walk_h0_1 ((⟨(⟨s1.1.Walk.Tree, [], s1.1.Walk.Level, s1.1.Walk.Found, s1.1.Walk.Sent, s1.1.Walk.Done⟩ : api_Walk)⟩ : compare_walk), g2) :: R) (.slice none 0 0) (.cons rfl (.cons rfl (.cons rfl (.cons rfl (.nil _))))) rfl ?_ ?_
    · intro s1 g2 ho4n
      refine J_seq (J_region (JLp (T_lss rfl rfl) rfl (nofun) .none (JL_nil (KJ_nrm_then (KJ_J ?_)))))
      refine J_seq (J_test rfl (fun hp => absurd (of_decide_eq_true hp) (by omega)) (fun _ => J_exit (KJ_exit_then (KJ_exit_then (KJ_exit_here (KJ_nrm_kq ?_))))))
      exact KJ_ot s1 g2 ho4n (.nil _) rfl
    · intro i8 x12 s1 g2 st7 hi9 hj10 hx13 hw11 hb5 hf6
      refine J_seq (J_region (JLp (T_lss rfl rfl) rfl (nofun) .none (JL_nil (KJ_nrm_then (KJ_J ?_)))))
      refine J_seq (J_test rfl (fun _ => J_skip (KJ_nrm_then (KJ_J ?_))) (fun hp => absurd hj10 (of_decide_eq_false hp)))
      refine J_seq ?_
      refine J_block ?_
      refine J_seq ?_
      refine J_region ?_
      refine JLp (T_ix sl25 (.mk rfl) rfl hx13) rfl (nofun) .none ?_
      refine JLp (T_load ty3 rfl) rfl (nofun) .none ?_
      refine JLp (T_assign rfl) rfl (nofun) .none ?_
      refine JL_nil ?_
      refine KJ_nrm_then (KJ_J ?_)
      refine J_seq ?_
      refine J_region ?_
      refine JLp (T_move rfl) rfl (nofun) .none ?_
      refine JLp (T_mul rfl rfl) rfl (nofun) .none ?_
      refine JLp (T_move rfl) rfl (nofun) .none ?_
      refine JLp (T_mul rfl rfl) rfl (nofun) .none ?_
      refine JLp (T_add rfl rfl) rfl (nofun) .none ?_
      refine JLe0 (T_bslice (ρ := (Rep.int .i64)) sl25 (Lay.int _) (.cons (.mk rfl) (.cons (.mk rfl) .nil)) rfl (by decide)) rfl .none ?_
      refine JLp (T_len (ρ := (Rep.int .i64)) sl25 (.mk rfl)) rfl (nofun) .none ?_
      refine JLp (T_move rfl) rfl (nofun) .none ?_
      refine JL_nil ?_
      refine KJ_nrm_then (KJ_J ?_)
      replace hb5 := bnd hb5; obtain ⟨o16, ho17, hb5⟩ := hb5
      refine J_cuto o16 (fun (s14 : compare_walk × List api_Extent) (g15 : Value) => [(0, Rep.ptr.at (b0, 0)), (21, (Rep.sl (Rep.int .i64) 1).at a1), (22, (Rep.int .i64).at (a1.length : Int)), (23, (Rep.int .i64).at i8)]) (fun s14 g15 => Ent.row g15 62 2 r_api_Extent s14.2 :: Ent.box b0 r_compare_walk_h0_1 ((⟨(⟨s14.1.Walk.Tree, [], s14.1.Walk.Level, s14.1.Walk.Found, s14.1.Walk.Sent, s14.1.Walk.Done⟩ : api_Walk)⟩ : compare_walk), g15) :: R) ?_ ?_
      · refine J_block ?_
        refine J_lim (ρ := (Rep.int .i64)) (n := 1) (l := [IntKind.i64.wrap (2 * x12), IntKind.i64.wrap ((IntKind.i64.wrap (2 * x12)) + 1)]) (x := .tmp 32) (.mk rfl) fun hl => ?_
        refine J_range ho17 hl (fun i21 (s14 : compare_walk × List api_Extent) (g15 : Value) => [(0, Rep.ptr.at (b0, 0)), (21, (Rep.sl (Rep.int .i64) 1).at a1), (22, (Rep.int .i64).at (a1.length : Int)), (23, (Rep.int .i64).at i8), (32, (Rep.sl (Rep.int .i64) 1).at [IntKind.i64.wrap (2 * x12), IntKind.i64.wrap ((IntKind.i64.wrap (2 * x12)) + 1)]), (33, (Rep.int .i64).at ([IntKind.i64.wrap (2 * x12), IntKind.i64.wrap ((IntKind.i64.wrap (2 * x12)) + 1)].length : Int)), (34, (Rep.int .i64).at i21)]) (fun i21 s14 g15 => Ent.row g15 62 2 r_api_Extent s14.2 :: Ent.box b0 r_compare_walk_h0_1 ((⟨(⟨s14.1.Walk.Tree, [], s14.1.Walk.Level, s14.1.Walk.Found, s14.1.Walk.Sent, s14.1.Walk.Done⟩ : api_Walk)⟩ : compare_walk), g15) :: R) g2 (.cons rfl (.cons rfl (.cons rfl (.cons rfl (.cons rfl (.cons rfl (.cons rfl (.nil _)))))))) rfl ?_ ?_
        · intro s14 g15 ho17n
          refine J_seq (J_region (JLp (T_lss rfl rfl) rfl (nofun) .none (JL_nil (KJ_nrm_then (KJ_J ?_)))))
          refine J_seq (J_test rfl (fun hp => absurd (of_decide_eq_true hp) (by omega)) (fun _ => J_exit (KJ_exit_then (KJ_exit_then (KJ_exit_here (KJ_nrm_kq ?_))))))
          exact KJ_ot s14 g15 ho17n (.cons rfl (.cons rfl (.cons rfl (.cons rfl (.nil _))))) rfl
        · intro i21 x25 s14 g15 st20 hi22 hj23 hx26 hw24 hb18 hf19
          refine J_seq (J_region (JLp (T_lss rfl rfl) rfl (nofun) .none (JL_nil (KJ_nrm_then (KJ_J ?_)))))
          refine J_seq (J_test rfl (fun _ => J_skip (KJ_nrm_then (KJ_J ?_))) (fun hp => absurd hj23 (of_decide_eq_false hp)))
          refine J_seq ?_
          refine J_block ?_
          refine J_seq ?_
          refine J_region ?_
          refine JLp (T_ix sl25 (.mk rfl) rfl hx26) rfl (nofun) .none ?_
          refine JLp (T_load ty3 rfl) rfl (nofun) .none ?_
          refine JLp (T_assign rfl) rfl (nofun) .none ?_
          refine JL_nil ?_
          refine KJ_nrm_then (KJ_J ?_)
          refine J_seq ?_
          refine J_region ?_
          refine JLp (T_move rfl) rfl (nofun) .none ?_
          refine JLp (T_move rfl) rfl (nofun) .none ?_
          replace hb18 := bnd hb18; obtain ⟨x27, hx27, hb18⟩ := hb18
          refine JL.perm F1 ?_
          refine JLe1 (T_call ⟨_, Try.func75, rfl, rfl⟩ (c_compare_walk_nodes_h0_1 hx27) ⟨.mk rfl, trivial⟩) rfl .none fun _ => ?_
          refine JLp (T_len (ρ := (Rep.int .u64)) sl67 (.mk rfl)) rfl (nofun) .none ?_
          refine JLp (T_lss rfl rfl) rfl (nofun) .none ?_
          refine JL_nil ?_
          refine KJ_nrm_then (KJ_J ?_)
          replace hb18 := bnd hb18; obtain ⟨o29, ho30, hb18⟩ := hb18
          refine J_cuto o29 (fun (s31 : compare_walk × List api_Extent) (g32 : Value) => [(0, Rep.ptr.at (b0, 0)), (21, (Rep.sl (Rep.int .i64) 1).at a1), (22, (Rep.int .i64).at (a1.length : Int)), (23, (Rep.int .i64).at i8), (32, (Rep.sl (Rep.int .i64) 1).at [IntKind.i64.wrap (2 * x12), IntKind.i64.wrap ((IntKind.i64.wrap (2 * x12)) + 1)]), (33, (Rep.int .i64).at ([IntKind.i64.wrap (2 * x12), IntKind.i64.wrap ((IntKind.i64.wrap (2 * x12)) + 1)].length : Int)), (34, (Rep.int .i64).at i21)]) (fun s31 g32 => Ent.box b0 r_compare_walk_h0_1 ((⟨(⟨s31.1.Walk.Tree, [], s31.1.Walk.Level, s31.1.Walk.Found, s31.1.Walk.Sent, s31.1.Walk.Done⟩ : api_Walk)⟩ : compare_walk), g32) :: Ent.row g32 62 2 r_api_Extent s31.2 :: R) ?_ ?_
          · refine J_test rfl (fun hq28 => ?_) (fun hq28 => ?_)
            · replace ho30 := ift hq28 ho30
              refine J_region ?_
              refine JLp (T_move rfl) rfl (nofun) .none ?_
              refine JLp (T_move rfl) rfl (nofun) .none ?_
              refine JLp (T_nilchk rfl) rfl (nofun) .none ?_
              refine JLp (T_faddr fo98_0 rfl) rfl (nofun) .none ?_
              refine JLp (T_faddr fo41_1 rfl) rfl (nofun) .none ?_
              refine JLp (T_loadb tv39 rfl (HasF.comp hf_compare_walk_h0_1_Walk hf_api_Walk_h1_Pending)) rfl B0 .none ?_
              refine JLp (T_move rfl) rfl (nofun) .none ?_
              replace ho30 := bnd ho30; obtain ⟨x33, hx33, ho30⟩ := ho30
              refine JL.perm F1 ?_
              refine JLe1 (T_call ⟨_, Try.func76, rfl, rfl⟩ (c_compare_add hx33) ⟨.mk rfl, ⟨(.mk rfl), trivial⟩⟩) rfl .none fun g34 => ?_
              refine JLp (T_nilchk rfl) rfl (nofun) .none ?_
              refine JLp (T_faddr fo98_0 rfl) rfl (nofun) .none ?_
              refine JLp (T_faddr fo41_1 rfl) rfl (nofun) .none ?_
              refine JL.perm F1 ?_
              refine JLn1 (T_storeG ((⟨(⟨s14.1.Walk.Tree, [], s14.1.Walk.Level, s14.1.Walk.Found, s14.1.Walk.Sent, s14.1.Walk.Done⟩ : api_Walk)⟩ : compare_walk), g34) tv39 rfl (.mk rfl) sg_compare_walk_h0_1__compare_walk_h0_1__0_1 (by rfl)) .none ?_
              refine JL_nil ?_
              refine KJ_nrm_kq ?_
              exact KJ_ot ((⟨(⟨s14.1.Walk.Tree, [], s14.1.Walk.Level, s14.1.Walk.Found, s14.1.Walk.Sent, s14.1.Walk.Done⟩ : api_Walk)⟩ : compare_walk), x33) g34 (inj ho30) (.cons rfl (.cons rfl (.cons rfl (.cons rfl (.cons rfl (.cons rfl (.cons rfl (.nil _)))))))) rfl
            · replace ho30 := iff_ hq28 ho30
              refine J_skip ?_
              refine KJ_nrm_kq ?_
              exact KJ_ot ((⟨(⟨s14.1.Walk.Tree, [], s14.1.Walk.Level, s14.1.Walk.Found, s14.1.Walk.Sent, s14.1.Walk.Done⟩ : api_Walk)⟩ : compare_walk), s14.2) g15 (inj ho30) (.cons rfl (.cons rfl (.cons rfl (.cons rfl (.cons rfl (.cons rfl (.cons rfl (.nil _)))))))) rfl
          · intro s31 g32 hs
            subst hs
            replace hb18 := thn hb18
            refine KJ_nrm_blk ?_
            refine KJ_nrm_then (KJ_J ?_)
            refine J_region ?_
            refine JLp (T_addw rfl rfl hw24) rfl (nofun) .none ?_
            refine JLp (T_move rfl) rfl (nofun) .none ?_
            refine JL_nil ?_
            refine KJ_nrm_then ?_
            refine KJ.perm F1 ?_
            exact KJ_nx ((⟨(⟨s31.1.Walk.Tree, [], s31.1.Walk.Level, s31.1.Walk.Found, s31.1.Walk.Sent, s31.1.Walk.Done⟩ : api_Walk)⟩ : compare_walk), s31.2) g32 (inj hb18) (.cons rfl (.cons rfl (.cons rfl (.cons rfl (.cons rfl (.cons rfl (.cons rfl (.nil _)))))))) rfl
      · intro s14 g15 hs
        subst hs
        replace hb5 := thn hb5
        refine KJ_nrm_blk ?_
        refine KJ_nrm_then (KJ_J ?_)
        refine J_region ?_
        refine JLp (T_addw rfl rfl hw11) rfl (nofun) .none ?_
        refine JLp (T_move rfl) rfl (nofun) .none ?_
        refine JL_nil ?_
        refine KJ_nrm_then ?_
        exact KJ_nx ((⟨(⟨s14.1.Walk.Tree, [], s14.1.Walk.Level, s14.1.Walk.Found, s14.1.Walk.Sent, s14.1.Walk.Done⟩ : api_Walk)⟩ : compare_walk), s14.2) g15 (inj hb5) (.cons rfl (.cons rfl (.cons rfl (.cons rfl (.nil _))))) rfl
  · intro s1 g2 hs
    subst hs
    replace h := thn h
    refine KJ_end_body ?_
    refine KJ.perm F1 ?_
    refine KJ.perm F1 ?_
    refine KJ_close (⟨(⟨s1.1.Walk.Tree, s1.2, s1.1.Walk.Level, s1.1.Walk.Found, s1.1.Walk.Sent, s1.1.Walk.Done⟩ : api_Walk)⟩ : compare_walk) (fun I h => (Clp.iso (f := p_compare_walk_h0_1) (f' := p_compare_walk) (π := c_compare_walk_h0_1) (π' := c_compare_walk) (Clp.head (Clp.iso (f := p_api_Walk_h1) (f' := p_api_Walk) (π := c_api_Walk_h1) (π' := c_api_Walk) (Clp.tail (Clp.head (Clp.sl h))))))) ?_
    obtain rfl := inj h
    exact KJ_retnc () [] rfl Try.results49 Rv.nil rfl (by simp) rfl
end Go.Proofs.Ytogflgcngfghpaa
end

/- function 17 -/
section
set_option maxHeartbeats 4000000
set_option linter.unusedVariables false
set_option linter.unusedSimpArgs false
namespace Go.Proofs.Ytogflgcngfghpaa
open Go.J
def f_compare_Learn (a0 : api_Walk) (a1 : api_Message) : Option (api_Walk × List api_Message × Int) :=
  (f_compare_Check a0).bind fun x3 => if (!decide (x3 = 0)) = true then some ((⟨(⟨0, 0, []⟩ : api_Tree), [], 0, [], 0, false⟩ : api_Walk), [], x3) else (f_compare_copied a0.Tree).bind fun x5 => (f_compare_walk_request (⟨(⟨x5, a0.Pending, a0.Level, a0.Found, a0.Sent, a0.Done⟩ : api_Walk)⟩ : compare_walk)).bind fun x7 => if a0.Done = true then some ((⟨(⟨0, 0, []⟩ : api_Tree), [], 0, [], 0, false⟩ : api_Walk), [], 12) else if (!decide (a1.Kind = 14)) = true then some ((⟨(⟨0, 0, []⟩ : api_Tree), [], 0, [], 0, false⟩ : api_Walk), [], 1) else (if (!decide (a1.Number = x7.Number)) = true then some true else (f_slices_Equal_int_int a1.Values x7.Values).bind fun x13 => some (!x13)).bind fun c11 => if c11 = true then some ((⟨(⟨0, 0, []⟩ : api_Tree), [], 0, [], 0, false⟩ : api_Walk), [], 22) else (f_extent_Count a0.Pending).bind fun x15 => if (!decide ((a1.Body.length : Int) = (IntKind.i64.wrap (8 * x15)))) = true then some ((⟨(⟨0, 0, []⟩ : api_Tree), [], 0, [], 0, false⟩ : api_Walk), [], 3) else (f_compare_walk_differing (⟨(⟨x5, a0.Pending, a0.Level, a0.Found, a0.Sent, a0.Done⟩ : api_Walk)⟩ : compare_walk) a1.Body).bind fun x17 => ((if (decide (x17.2.Walk.Level = 0)) = true then (f_compare_walk_find x17.2 x17.1).bind fun x23 => some (Fl.go ((⟨(⟨0, 0, []⟩ : api_Tree), [], 0, [], 0, false⟩ : api_Walk), x23)) else if (decide ((x17.1.length : Int) = 0)) = true then (f_compare_walk_finish x17.2).bind fun x25 => some (Fl.go ((⟨(⟨0, 0, []⟩ : api_Tree), [], 0, [], 0, false⟩ : api_Walk), x25)) else (f_compare_walk_descend x17.2 x17.1).bind fun x26 => (f_compare_walk_request x26).bind fun x27 => some (Fl.ret (x26.Walk, [x27], 0)) : Option (Fl (api_Walk × compare_walk) (api_Walk × List api_Message × Int)))).bind fun o19 => o19.then fun s21 => some (s21.2.Walk, [], 0)

theorem c_compare_Learn {a0 : api_Walk} {a1 : api_Message} {r : api_Walk × List api_Message × Int} (h : f_compare_Learn a0 a1 = some r) : Ct Try.prog 17 [r_api_Walk.at a0, r_api_Message.at a1] [] (fun _ : Unit => Pr.tup [r_api_Walk.at r.1, (Rep.sl r_api_Message 8).at r.2.1, (Rep.int .i64).at r.2.2]) (fun _ => []) := by
  refine Ct.mk Try.func17 rfl Try.ntmps17 (by simp) fun I R => ?_
  refine J.drop0 ?_
  unfold f_compare_Learn at h
  refine J_seq ?_
  refine J_region ?_
  refine JLa (T_boxm (.mk rfl) lay_api_Walk) rfl .none fun b1 => ?_
  refine JLe0 (T_box (ρ := r_api_Message) (.mk rfl)) rfl .none ?_
  refine JLa (T_alloc z41 lay_api_Walk) rfl .none fun b2 => ?_
  refine JLp (T_assign rfl) rfl (nofun) .none ?_
  refine JLp (T_assign rfl) rfl (nofun) .none ?_
  refine JL_nil ?_
  refine KJ_nrm_then (KJ_J ?_)
  refine J_seq ?_
  refine J_seq ?_
  refine J_region ?_
  refine JLp (T_loadw ty41 rfl) rfl B1 .none ?_
  replace h := bnd h; obtain ⟨x3, hx3, h⟩ := h
  refine JLe0 (T_call ⟨_, Try.func42, rfl, rfl⟩ (c_compare_Check hx3) ⟨(.mk rfl), trivial⟩) rfl .none ?_
  refine JLp (T_assign rfl) rfl (nofun) .none ?_
  refine JL_nil ?_
  refine KJ_nrm_then (KJ_J ?_)
  refine J_seq ?_
  refine J_region ?_
  refine JLp (T_move rfl) rfl (nofun) .none ?_
  refine JLp (T_neq rfl rfl) rfl (nofun) .none ?_
  refine JL_nil ?_
  refine KJ_nrm_then (KJ_J ?_)
  refine J_test rfl (fun hq4 => ?_) (fun hq4 => ?_)
  · replace h := ift hq4 h
    refine J_seq ?_
    refine J_region ?_
    refine JLp (T_build (s' := (⟨(⟨0, 0, []⟩ : api_Tree), [], 0, [], 0, false⟩ : api_Walk)) bd41 z41 lay_api_Walk .nil) rfl (nofun) .none ?_
    refine JLp (T_move rfl) rfl (nofun) .none ?_
    refine JLn1 (T_store ty41 rfl (.mk rfl) (SetF.self lay_api_Walk)) .none ?_
    refine JLp (T_assign rfl) rfl (nofun) .none ?_
    refine JLp (T_assign rfl) rfl (nofun) .none ?_
    refine JL_nil ?_
    refine KJ_nrm_then (KJ_J ?_)
    refine J_ret ?_
    refine KJ_ret_then ?_
    obtain rfl := inj h
    exact KJ_retnc () [Ent.box b2 r_api_Walk (⟨(⟨0, 0, []⟩ : api_Tree), [], 0, [], 0, false⟩ : api_Walk), Ent.box b1 r_api_Walk a0] rfl Try.results17 (.cell ty41 rfl (by simp) (.tmp (.nilc rfl) (.tmp (.mk rfl) Rv.nil))) rfl (by simp) rfl
  · replace h := iff_ hq4 h
    refine J_skip ?_
    refine KJ_nrm_then (KJ_J ?_)
    refine J_seq ?_
    refine J_region ?_
    refine JLp (T_faddr fo41_0 rfl) rfl (nofun) .none ?_
    refine JLp (T_loadb ty24 rfl hf_api_Walk_Tree) rfl B1 .none ?_
    replace h := bnd h; obtain ⟨x5, hx5, h⟩ := h
    refine JLe0 (T_call ⟨_, Try.func43, rfl, rfl⟩ (c_compare_copied hx5) ⟨(.mk rfl), trivial⟩) rfl .none ?_
    refine JLp (T_faddr fo41_0 rfl) rfl (nofun) .none ?_
    refine JL.perm F1 ?_
    refine JLn1 (T_storeV (⟨x5, a0.Pending, a0.Level, a0.Found, a0.Sent, a0.Done⟩ : api_Walk) ty24 rfl (.mk rfl) sf_api_Walk_Tree rfl) .none ?_
    refine JL_nil ?_
    refine KJ_nrm_then (KJ_J ?_)
    refine J_seq ?_
    refine J_region ?_
    refine JLp (T_loadw ty41 rfl) rfl B0 .none ?_
    refine JLp (T_build (s' := (⟨(⟨x5, a0.Pending, a0.Level, a0.Found, a0.Sent, a0.Done⟩ : api_Walk)⟩ : compare_walk)) bd98 z98 lay_compare_walk (.cons (π := r_api_Walk) (.mk rfl) rfl lay_api_Walk sf_compare_walk_Walk .nil)) rfl (nofun) .none ?_
    refine JLa (T_boxm (.mk rfl) lay_compare_walk) rfl .none fun b6 => ?_
    refine JLp (T_assign rfl) rfl (nofun) .none ?_
    refine JL_nil ?_
    refine KJ_nrm_then (KJ_J ?_)
    refine J_seq ?_
    refine J_region ?_
    refine JLp (T_move rfl) rfl (nofun) .none ?_
    replace h := bnd h; obtain ⟨x7, hx7, h⟩ := h
    refine JLe1 (T_call ⟨_, Try.func44, rfl, rfl⟩ (c_compare_walk_request hx7) ⟨.mk rfl, trivial⟩) rfl .none fun _ => ?_
    refine JLa (T_alloc z28 lay_api_Message) rfl .none fun b8 => ?_
    refine JLn1 (T_store ty28 rfl (.mk rfl) (SetF.self lay_api_Message)) .none ?_
    refine JL_nil ?_
    refine KJ_nrm_then (KJ_J ?_)
    refine J_seq ?_
    refine J_block ?_
    refine J_seq ?_
    refine J_region ?_
    refine JLp (T_move rfl) rfl (nofun) .none ?_
    refine JLp (T_nilchk rfl) rfl (nofun) .none ?_
    refine JLp (T_faddr fo98_0 rfl) rfl (nofun) .none ?_
    refine JLp (T_faddr fo41_5 rfl) rfl (nofun) .none ?_
    refine JLp (T_loadb ty4 rfl (HasF.comp hf_compare_walk_Walk hf_api_Walk_Done)) rfl B1 .none ?_
    refine JLp (T_assign rfl) rfl (nofun) .none ?_
    refine JL_nil ?_
    refine KJ_nrm_then (KJ_J ?_)
    refine J_test rfl (fun hq9 => ?_) (fun hq9 => ?_)
    · replace h := ift hq9 h
      refine J_seq ?_
      refine J_region ?_
      refine JLp (T_build (s' := (⟨(⟨0, 0, []⟩ : api_Tree), [], 0, [], 0, false⟩ : api_Walk)) bd41 z41 lay_api_Walk .nil) rfl (nofun) .none ?_
      refine JL.perm F3 ?_
      refine JLn1 (T_store ty41 rfl (.mk rfl) (SetF.self lay_api_Walk)) .none ?_
      refine JLp (T_assign rfl) rfl (nofun) .none ?_
      refine JLp (T_assign rfl) rfl (nofun) .none ?_
      refine JL_nil ?_
      refine KJ_nrm_then (KJ_J ?_)
      refine J_ret ?_
      refine KJ_ret_blk ?_
      refine KJ_ret_then ?_
      obtain rfl := inj h
      exact KJ_retnc () [Ent.box b2 r_api_Walk (⟨(⟨0, 0, []⟩ : api_Tree), [], 0, [], 0, false⟩ : api_Walk), Ent.box b8 r_api_Message x7, Ent.box b6 r_compare_walk (⟨(⟨x5, a0.Pending, a0.Level, a0.Found, a0.Sent, a0.Done⟩ : api_Walk)⟩ : compare_walk), Ent.box b1 r_api_Walk (⟨x5, a0.Pending, a0.Level, a0.Found, a0.Sent, a0.Done⟩ : api_Walk)] rfl Try.results17 (.cell ty41 rfl (by simp) (.tmp (.nilc rfl) (.tmp (.mk rfl) Rv.nil))) rfl (by simp) rfl
    · replace h := iff_ hq9 h
      refine J_seq ?_
      refine J_region ?_
      refine JLp (T_faddri fo28_0 rfl hf_api_Message_Kind) rfl (nofun) .none ?_
      refine JLp (T_load ty3 rfl) rfl (nofun) .none ?_
      refine JLp (T_neq rfl rfl) rfl (nofun) .none ?_
      refine JLp (T_assign rfl) rfl (nofun) .none ?_
      refine JL_nil ?_
      refine KJ_nrm_then (KJ_J ?_)
      refine J_test rfl (fun hq10 => ?_) (fun hq10 => ?_)
      · replace h := ift hq10 h
        refine J_seq ?_
        refine J_region ?_
        refine JLp (T_build (s' := (⟨(⟨0, 0, []⟩ : api_Tree), [], 0, [], 0, false⟩ : api_Walk)) bd41 z41 lay_api_Walk .nil) rfl (nofun) .none ?_
        refine JL.perm F3 ?_
        refine JLn1 (T_store ty41 rfl (.mk rfl) (SetF.self lay_api_Walk)) .none ?_
        refine JLp (T_assign rfl) rfl (nofun) .none ?_
        refine JLp (T_assign rfl) rfl (nofun) .none ?_
        refine JL_nil ?_
        refine KJ_nrm_then (KJ_J ?_)
        refine J_ret ?_
        refine KJ_ret_blk ?_
        refine KJ_ret_then ?_
        obtain rfl := inj h
        exact KJ_retnc () [Ent.box b2 r_api_Walk (⟨(⟨0, 0, []⟩ : api_Tree), [], 0, [], 0, false⟩ : api_Walk), Ent.box b8 r_api_Message x7, Ent.box b6 r_compare_walk (⟨(⟨x5, a0.Pending, a0.Level, a0.Found, a0.Sent, a0.Done⟩ : api_Walk)⟩ : compare_walk), Ent.box b1 r_api_Walk (⟨x5, a0.Pending, a0.Level, a0.Found, a0.Sent, a0.Done⟩ : api_Walk)] rfl Try.results17 (.cell ty41 rfl (by simp) (.tmp (.nilc rfl) (.tmp (.mk rfl) Rv.nil))) rfl (by simp) rfl
      · replace h := iff_ hq10 h
        refine J_seq ?_
        refine J_region ?_
        refine JLp (T_faddri fo28_3 rfl hf_api_Message_Number) rfl (nofun) .none ?_
        refine JLp (T_load ty3 rfl) rfl (nofun) .none ?_
        refine JLp (T_faddr fo28_3 rfl) rfl (nofun) .none ?_
        refine JLp (T_loadb ty3 rfl hf_api_Message_Number) rfl B0 .none ?_
        refine JLp (T_neq rfl rfl) rfl (nofun) .none ?_
        refine JLp (T_move rfl) rfl (nofun) .none ?_
        replace h := bnd h; obtain ⟨c11, hc11, h⟩ := h
        refine JL_at 7 [(3, (Rep.iptr r_api_Message).at a1), (4, Rep.ptr.at (b2, 0)), (8, Rep.ptr.at (b6, 0)), (51, Rep.bool.at c11)] (Ent.box b8 r_api_Message x7 :: Ent.box b6 r_compare_walk (⟨(⟨x5, a0.Pending, a0.Level, a0.Found, a0.Sent, a0.Done⟩ : api_Walk)⟩ : compare_walk) :: Ent.box b1 r_api_Walk (⟨x5, a0.Pending, a0.Level, a0.Found, a0.Sent, a0.Done⟩ : api_Walk) :: Ent.box b2 r_api_Walk (⟨(⟨0, 0, []⟩ : api_Tree), [], 0, [], 0, false⟩ : api_Walk) :: R) ?_ ?_
        · rcases Bool.eq_false_or_eq_true (!decide (a1.Number = x7.Number)) with hq12 | hq12
          · replace hc11 := ift hq12 hc11
            obtain rfl := inj hc11
            refine JLs rfl rfl hq12 rfl ?_
            refine JLs rfl rfl hq12 rfl ?_
            refine JLs rfl rfl hq12 rfl ?_
            refine JLs rfl rfl hq12 rfl ?_
            refine JLs rfl rfl hq12 rfl ?_
            refine JLs rfl rfl hq12 rfl ?_
            refine JLp (T_pickT rfl hq12 rfl) rfl (nofun) .none ?_
            refine JL_nil ?_
            exact KJ.sub KJ_end (.cons rfl (.cons rfl (.cons rfl (.cons rfl (.nil _)))))
          · replace hc11 := iff_ hq12 hc11
            refine JLp (T_faddri fo28_6 rfl hf_api_Message_Values) rfl (nofun) (.y rfl rfl hq12) ?_
            refine JLp (T_load ty25 rfl) rfl (nofun) (.y rfl rfl hq12) ?_
            refine JLp (T_faddr fo28_6 rfl) rfl (nofun) (.y rfl rfl hq12) ?_
            refine JLp (T_loadb ty25 rfl hf_api_Message_Values) rfl B0 (.y rfl rfl hq12) ?_
            replace hc11 := bnd hc11; obtain ⟨x13, hx13, hc11⟩ := hc11
            refine JLe0 (T_call ⟨_, Try.func31, rfl, rfl⟩ (c_slices_Equal_int_int hx13) ⟨(.mk rfl), ⟨(.mk rfl), trivial⟩⟩) rfl (.y rfl rfl hq12) ?_
            refine JLp (T_not rfl) rfl (nofun) (.y rfl rfl hq12) ?_
            obtain rfl := inj hc11
            refine JLp (T_pickF rfl hq12 rfl) rfl (nofun) .none ?_
            refine JL_nil ?_
            exact KJ.sub KJ_end (.cons rfl (.cons rfl (.cons rfl (.cons rfl (.nil _)))))
        refine JLp (T_assign rfl) rfl (nofun) .none ?_
        refine JL_nil ?_
        refine KJ_nrm_then (KJ_J ?_)
        refine J_test rfl (fun hq14 => ?_) (fun hq14 => ?_)
        · replace h := ift hq14 h
          refine J_seq ?_
          refine J_region ?_
          refine JLp (T_build (s' := (⟨(⟨0, 0, []⟩ : api_Tree), [], 0, [], 0, false⟩ : api_Walk)) bd41 z41 lay_api_Walk .nil) rfl (nofun) .none ?_
          refine JL.perm F3 ?_
          refine JLn1 (T_store ty41 rfl (.mk rfl) (SetF.self lay_api_Walk)) .none ?_
          refine JLp (T_assign rfl) rfl (nofun) .none ?_
          refine JLp (T_assign rfl) rfl (nofun) .none ?_
          refine JL_nil ?_
          refine KJ_nrm_then (KJ_J ?_)
          refine J_ret ?_
          refine KJ_ret_blk ?_
          refine KJ_ret_then ?_
          obtain rfl := inj h
          exact KJ_retnc () [Ent.box b2 r_api_Walk (⟨(⟨0, 0, []⟩ : api_Tree), [], 0, [], 0, false⟩ : api_Walk), Ent.box b8 r_api_Message x7, Ent.box b6 r_compare_walk (⟨(⟨x5, a0.Pending, a0.Level, a0.Found, a0.Sent, a0.Done⟩ : api_Walk)⟩ : compare_walk), Ent.box b1 r_api_Walk (⟨x5, a0.Pending, a0.Level, a0.Found, a0.Sent, a0.Done⟩ : api_Walk)] rfl Try.results17 (.cell ty41 rfl (by simp) (.tmp (.nilc rfl) (.tmp (.mk rfl) Rv.nil))) rfl (by simp) rfl
        · replace h := iff_ hq14 h
          refine J_seq ?_
          replace h := bnd h; obtain ⟨x15, hx15, h⟩ := h
          refine J_drawR (Ks := []) rfl (by kernel_rfl) fun K hK => ?_
          refine DR.p (.base (t := 3) rfl .nil) (T_faddri fo28_7 rfl hf_api_Message_Body) .none rfl rfl (nofun) ?_
          refine DR.p (.dep 0 0 rfl rfl rfl .nil) (T_load ty26 rfl) .none rfl rfl (nofun) ?_
          refine DR.p (.dep 1 0 rfl rfl rfl .nil) (T_len (ρ := (Rep.int .u8)) sl26 (.mk rfl)) .none rfl rfl (nofun) ?_
          refine DR.p (.base (t := 8) rfl .nil) (T_move rfl) .none rfl rfl (nofun) ?_
          refine DR.p (.dep 3 0 rfl rfl rfl .nil) (T_nilchk rfl) .none rfl rfl (nofun) ?_
          refine DR.p (.dep 4 0 rfl rfl rfl .nil) (T_faddr fo98_0 rfl) .none rfl rfl (nofun) ?_
          refine DR.p (.dep 5 0 rfl rfl rfl .nil) (T_faddr fo41_1 rfl) .none rfl rfl (nofun) ?_
          refine DR.p (.dep 6 0 rfl rfl rfl .nil) (T_loadb ty39 rfl (HasF.comp hf_compare_walk_Walk hf_api_Walk_Pending)) .none rfl rfl B1 ?_
          refine DR.e (.dep 7 0 rfl rfl rfl .nil) (T_call ⟨_, Try.func45, rfl, rfl⟩ (c_extent_Count hx15) ⟨(.mk rfl), trivial⟩) .none rfl rfl ?_
          refine DR.p (.dep 8 0 rfl rfl rfl .nil) (T_mul rfl rfl) .none rfl rfl (nofun) ?_
          refine DR.tail (by kernel_rfl) (.refl _) rfl ?_
          simp only [List.reverse_cons, List.reverse_nil, List.nil_append, List.cons_append, DT]
          refine JLp (T_neq rfl rfl) rfl (nofun) .none ?_
          refine JLp (T_assign rfl) rfl (nofun) .none ?_
          refine JL_nil (KJ_hid hK ?_)
          refine KJ_nrm_then (KJ_J ?_)
          refine J_test rfl (fun hq16 => ?_) (fun hq16 => ?_)
          · replace h := ift hq16 h
            refine J_seq ?_
            refine J_region ?_
            refine JLp (T_build (s' := (⟨(⟨0, 0, []⟩ : api_Tree), [], 0, [], 0, false⟩ : api_Walk)) bd41 z41 lay_api_Walk .nil) rfl (nofun) .none ?_
            refine JL.perm F3 ?_
            refine JLn1 (T_store ty41 rfl (.mk rfl) (SetF.self lay_api_Walk)) .none ?_
            refine JLp (T_assign rfl) rfl (nofun) .none ?_
            refine JLp (T_assign rfl) rfl (nofun) .none ?_
            refine JL_nil ?_
            refine KJ_nrm_then (KJ_J ?_)
            refine J_ret ?_
            refine KJ_ret_blk ?_
            refine KJ_ret_then ?_
            obtain rfl := inj h
            exact KJ_retnc () [Ent.box b2 r_api_Walk (⟨(⟨0, 0, []⟩ : api_Tree), [], 0, [], 0, false⟩ : api_Walk), Ent.box b8 r_api_Message x7, Ent.box b6 r_compare_walk (⟨(⟨x5, a0.Pending, a0.Level, a0.Found, a0.Sent, a0.Done⟩ : api_Walk)⟩ : compare_walk), Ent.box b1 r_api_Walk (⟨x5, a0.Pending, a0.Level, a0.Found, a0.Sent, a0.Done⟩ : api_Walk)] rfl Try.results17 (.cell ty41 rfl (by simp) (.tmp (.nilc rfl) (.tmp (.mk rfl) Rv.nil))) rfl (by simp) rfl
          · replace h := iff_ hq16 h
            refine J_skip ?_
            refine KJ_nrm_blk ?_
            refine KJ_nrm_then (KJ_J ?_)
            refine J_seq ?_
            refine J_region ?_
            refine JLp (T_move rfl) rfl (nofun) .none ?_
            refine JLp (T_faddri fo28_7 rfl hf_api_Message_Body) rfl (nofun) .none ?_
            refine JLp (T_load ty26 rfl) rfl (nofun) .none ?_
            replace h := bnd h; obtain ⟨x17, hx17, h⟩ := h
            refine JL.perm F1 ?_
            refine JLe1 (T_call ⟨_, Try.func46, rfl, rfl⟩ (c_compare_walk_differing hx17) ⟨.mk rfl, ⟨(.mk rfl), trivial⟩⟩) rfl .none fun _ => ?_
            refine JLp (T_assign rfl) rfl (nofun) .none ?_
            refine JL_nil ?_
            refine KJ_nrm_then (KJ_J ?_)
            refine J_seq ?_
            refine J_block ?_
            refine J_seq ?_
            refine J_region ?_
            refine JLp (T_move rfl) rfl (nofun) .none ?_
            refine JLp (T_nilchk rfl) rfl (nofun) .none ?_
            refine JLp (T_faddr fo98_0 rfl) rfl (nofun) .none ?_
            refine JLp (T_faddr fo41_2 rfl) rfl (nofun) .none ?_
            refine JLp (T_loadb ty3 rfl (HasF.comp hf_compare_walk_Walk hf_api_Walk_Level)) rfl B0 .none ?_
            refine JLp (T_eql rfl rfl) rfl (nofun) .none ?_
            refine JLp (T_assign rfl) rfl (nofun) .none ?_
            refine JL_nil ?_
            refine KJ_nrm_then (KJ_J ?_)
            replace h := bnd h; obtain ⟨o19, ho20, h⟩ := h
            refine J_cuto o19 (fun (s21 : api_Walk × compare_walk) (g22 : Unit) => [(4, Rep.ptr.at (b2, 0)), (8, Rep.ptr.at (b6, 0))]) (fun s21 g22 => Ent.box b6 r_compare_walk s21.2 :: Ent.box b8 r_api_Message x7 :: Ent.box b1 r_api_Walk (⟨x5, a0.Pending, a0.Level, a0.Found, a0.Sent, a0.Done⟩ : api_Walk) :: Ent.box b2 r_api_Walk s21.1 :: R) ?_ ?_
            · refine J_test rfl (fun hq18 => ?_) (fun hq18 => ?_)
              · replace ho20 := ift hq18 ho20
                refine J_region ?_
                refine JLp (T_move rfl) rfl (nofun) .none ?_
                refine JLp (T_move rfl) rfl (nofun) .none ?_
                replace ho20 := bnd ho20; obtain ⟨x23, hx23, ho20⟩ := ho20
                refine JLe1 (T_call ⟨_, Try.func47, rfl, rfl⟩ (c_compare_walk_find hx23) ⟨.mk rfl, ⟨(.mk rfl), trivial⟩⟩) rfl .none fun _ => ?_
                refine JL_nil ?_
                refine KJ_nrm_kq ?_
                exact KJ_ot ((⟨(⟨0, 0, []⟩ : api_Tree), [], 0, [], 0, false⟩ : api_Walk), x23) () (inj ho20) (.cons rfl (.cons rfl (.nil _))) rfl
              · replace ho20 := iff_ hq18 ho20
                refine J_seq ?_
                refine J_region ?_
                refine JLp (T_move rfl) rfl (nofun) .none ?_
                refine JLp (T_len (ρ := (Rep.int .i64)) sl25 (.mk rfl)) rfl (nofun) .none ?_
                refine JLp (T_eql rfl rfl) rfl (nofun) .none ?_
                refine JLp (T_assign rfl) rfl (nofun) .none ?_
                refine JL_nil ?_
                refine KJ_nrm_then (KJ_J ?_)
                refine J_test rfl (fun hq24 => ?_) (fun hq24 => ?_)
                · replace ho20 := ift hq24 ho20
                  refine J_region ?_
                  refine JLp (T_move rfl) rfl (nofun) .none ?_
                  replace ho20 := bnd ho20; obtain ⟨x25, hx25, ho20⟩ := ho20
                  refine JLe1 (T_call ⟨_, Try.func48, rfl, rfl⟩ (c_compare_walk_finish hx25) ⟨.mk rfl, trivial⟩) rfl .none fun _ => ?_
                  refine JL_nil ?_
                  refine KJ_nrm_kq ?_
                  exact KJ_ot ((⟨(⟨0, 0, []⟩ : api_Tree), [], 0, [], 0, false⟩ : api_Walk), x25) () (inj ho20) (.cons rfl (.cons rfl (.nil _))) rfl
                · replace ho20 := iff_ hq24 ho20
                  refine J_seq ?_
                  refine J_region ?_
                  refine JLp (T_move rfl) rfl (nofun) .none ?_
                  refine JLp (T_move rfl) rfl (nofun) .none ?_
                  replace ho20 := bnd ho20; obtain ⟨x26, hx26, ho20⟩ := ho20
                  refine JLe1 (T_call ⟨_, Try.func49, rfl, rfl⟩ (c_compare_walk_descend hx26) ⟨.mk rfl, ⟨(.mk rfl), trivial⟩⟩) rfl .none fun _ => ?_
                  refine JL_nil ?_
                  refine KJ_nrm_then (KJ_J ?_)
                  refine J_seq ?_
                  refine J.perm F3 ?_
                  replace ho20 := bnd ho20; obtain ⟨x27, hx27, ho20⟩ := ho20
                  refine J_drawR (Ks := [Ent.box b2 r_api_Walk (⟨(⟨0, 0, []⟩ : api_Tree), [], 0, [], 0, false⟩ : api_Walk)]) rfl (by kernel_rfl) fun K hK => ?_
                  refine DR.p (.base (t := 8) rfl .nil) (T_move rfl) .none rfl rfl (nofun) ?_
                  refine DR.p (.dep 0 0 rfl rfl rfl .nil) (T_nilchk rfl) .none rfl rfl (nofun) ?_
                  refine DR.p (.dep 1 0 rfl rfl rfl .nil) (T_faddr fo98_0 rfl) .none rfl rfl (nofun) ?_
                  refine DR.p (.dep 2 0 rfl rfl rfl .nil) (T_loadb ty41 rfl hf_compare_walk_Walk) .none rfl rfl B0 ?_
                  refine DR.p (.base (t := 8) rfl .nil) (T_move rfl) .none rfl rfl (nofun) ?_
                  refine DR.b (.dep 4 0 rfl rfl rfl .nil) (T_call ⟨_, Try.func44, rfl, rfl⟩ (c_compare_walk_request hx27) ⟨.mk rfl, trivial⟩) .none rfl rfl B0 ?_
                  refine DR.e (.dep 5 0 rfl rfl rfl .nil) (T_bslice (ρ := r_api_Message) sl43 lay_api_Message (.cons (.mk rfl) .nil) rfl (by decide)) .none rfl rfl ?_
                  refine DR.w (κ := [Ent.box b2 r_api_Walk (⟨(⟨0, 0, []⟩ : api_Tree), [], 0, [], 0, false⟩ : api_Walk)]) (ε := [Ent.box b2 r_api_Walk x26.Walk]) (.base (t := 4) rfl (.dep 3 3 rfl rfl rfl .nil)) (T_store ty41 rfl (.mk rfl) (SetF.self lay_api_Walk)) .none ?_
                  refine DR.tail (by kernel_rfl) (.refl _) rfl ?_
                  simp only [List.reverse_cons, List.reverse_nil, List.nil_append, List.cons_append, DT]
                  refine JLp (T_assign rfl) rfl (nofun) .none ?_
                  refine JLp (T_assign rfl) rfl (nofun) .none ?_
                  refine JL_nil (KJ_hid hK ?_)
                  refine KJ_nrm_then (KJ_J ?_)
                  refine J_ret ?_
                  refine KJ_ret_kq ?_
                  refine KJ_ret_blk ?_
                  refine KJ_ret_then ?_
                  obtain rfl := inj ho20
                  replace h : some _ = some _ := h
                  obtain rfl := inj h
                  exact KJ_retnc () [Ent.box b2 r_api_Walk x26.Walk, Ent.box b6 r_compare_walk x26, Ent.box b8 r_api_Message x7, Ent.box b1 r_api_Walk (⟨x5, a0.Pending, a0.Level, a0.Found, a0.Sent, a0.Done⟩ : api_Walk)] rfl Try.results17 (.cell ty41 rfl (by simp) (.tmp (.mk rfl) (.tmp (.mk rfl) Rv.nil))) rfl (by simp) rfl
            · intro s21 g22 hs
              subst hs
              replace h := thn h
              refine KJ_nrm_blk ?_
              refine KJ_nrm_then (KJ_J ?_)
              refine J_seq ?_
              refine J_region ?_
              refine JLp (T_move rfl) rfl (nofun) .none ?_
              refine JLp (T_nilchk rfl) rfl (nofun) .none ?_
              refine JLp (T_faddr fo98_0 rfl) rfl (nofun) .none ?_
              refine JLp (T_loadb ty41 rfl hf_compare_walk_Walk) rfl B0 .none ?_
              refine JL.perm F3 ?_
              refine JLn1 (T_store ty41 rfl (.mk rfl) (SetF.self lay_api_Walk)) .none ?_
              refine JLp (T_assign rfl) rfl (nofun) .none ?_
              refine JLp (T_assign rfl) rfl (nofun) .none ?_
              refine JL_nil ?_
              refine KJ_nrm_then (KJ_J ?_)
              refine J_ret ?_
              obtain rfl := inj h
              exact KJ_retnc () [Ent.box b2 r_api_Walk s21.2.Walk, Ent.box b6 r_compare_walk s21.2, Ent.box b8 r_api_Message x7, Ent.box b1 r_api_Walk (⟨x5, a0.Pending, a0.Level, a0.Found, a0.Sent, a0.Done⟩ : api_Walk)] rfl Try.results17 (.cell ty41 rfl (by simp) (.tmp (.nilc rfl) (.tmp (.mk rfl) Rv.nil))) rfl (by simp) rfl
end Go.Proofs.Ytogflgcngfghpaa
end

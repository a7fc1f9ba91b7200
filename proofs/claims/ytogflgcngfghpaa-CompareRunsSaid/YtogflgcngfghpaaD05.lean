/- A part of the proof: function 66 No condition. -/
import Derived.Test.YtogflgcngfghpaaD04

/- function 66 -/
section
set_option maxHeartbeats 4000000
set_option linter.unusedVariables false
set_option linter.unusedSimpArgs false
namespace Go.Proofs.Ytogflgcngfghpaa
open Go.J
def f_hashtree_above (a0 : Int) (a1 : Int) (a2 : List Int) : Option (api_Tree) :=
  (whileF (σ := List Int × api_Tree × List (List Int)) (ρ := api_Tree) (fun s3 => (app 24 s3.2.2 [s3.1]).bind fun x10 => if (decide ((s3.1.length : Int) = 1)) = true then some (Rd.done (s3.1, (⟨s3.2.1.Size, s3.2.1.Leaf, []⟩ : api_Tree), x10)) else (f_hashtree_up_uint64 s3.1 f_checksum_Pair).bind fun x13 => some (Rd.next (x13, (⟨s3.2.1.Size, s3.2.1.Leaf, []⟩ : api_Tree), x10))) bigK (a2, (⟨a0, a1, []⟩ : api_Tree), [])).bind fun o5 => o5.then fun s3 => some (⟨s3.2.1.Size, s3.2.1.Leaf, s3.2.2⟩ : api_Tree)

theorem c_hashtree_above {a0 : Int} {a1 : Int} {a2 : List Int} {r : api_Tree} (h : f_hashtree_above a0 a1 a2 = some r) : Ct Try.prog 66 [(Rep.int .i64).at a0, (Rep.int .i64).at a1, (Rep.sl (Rep.int .u64) 1).at a2] [] (fun _ : Unit => r_api_Tree.at r) (fun _ => []) := by
  refine Ct.mk Try.func66 rfl Try.ntmps66 (by simp) fun I R => ?_
  refine J.drop0 ?_
  unfold f_hashtree_above at h
  refine J_seq ?_
  refine J_region ?_
  refine JLa (T_alloc z24 lay_api_Tree) rfl .none fun b1 => ?_
  refine JL_nil ?_
  refine KJ_nrm_then (KJ_J ?_)
  refine J_scope rfl ?_
  refine J_seq ?_
  refine J_region ?_
  refine JLp (T_move rfl) rfl (nofun) .none ?_
  refine JLp (T_move rfl) rfl (nofun) .none ?_
  refine JLp (T_build (ρ := r_api_Tree_h2) (s' := ((⟨a0, a1, []⟩ : api_Tree), (.slice none 0 0))) bd24 z_api_Tree_h2 lay_api_Tree_h2 (.cons (π := (Rep.int .i64)) (.mk rfl) rfl (Lay.int _) sg_api_Tree_h2__api_Tree_h2__0 (.cons (π := (Rep.int .i64)) (.mk rfl) rfl (Lay.int _) sg_api_Tree_h2__api_Tree_h2__1 .nil))) rfl (nofun) .none ?_
  refine JLa (T_alloc z_api_Tree_h2 lay_api_Tree_h2) rfl .none fun b2 => ?_
  refine JLn1 (T_storeG ((⟨a0, a1, []⟩ : api_Tree), (.slice none 0 0)) ty_api_Tree_h2 rfl (.mk rfl) (SetG.self lay_api_Tree_h2 lay_api_Tree_h2) rfl) .none ?_
  refine JL_nil ?_
  refine KJ_nrm_then (KJ_J ?_)
  refine J_seq ?_
  refine J_label ?_
  refine KJ_nrm_then (KJ_J ?_)
  refine J_seq ?_
  refine J_rownil 67 1 (Rep.sl (Rep.int .u64) 1) ?_
  replace h := bnd h; obtain ⟨o5, ho6, h⟩ := h
  refine J_cuto o5 (fun (s3 : List Int × api_Tree × List (List Int)) (g4 : Value) => [(6, Rep.ptr.at (b1, 0)), (7, Rep.ptr.at (b2, 0))]) (fun s3 g4 => Ent.row g4 67 1 (Rep.sl (Rep.int .u64) 1) s3.2.2 :: Ent.box b2 r_api_Tree_h2 ((⟨s3.2.1.Size, s3.2.1.Leaf, []⟩ : api_Tree), g4) :: Ent.box b1 r_api_Tree (⟨0, 0, []⟩ : api_Tree) :: R) ?_ ?_
  · refine J_block ?_
    refine J_while ho6 (fun (s3 : List Int × api_Tree × List (List Int)) (g4 : Value) => [(6, Rep.ptr.at (b1, 0)), (7, Rep.ptr.at (b2, 0)), (2, (Rep.sl (Rep.int .u64) 1).at s3.1)]) (fun s3 g4 => Ent.row g4 67 1 (Rep.sl (Rep.int .u64) 1) s3.2.2 :: Ent.box b2 r_api_Tree_h2 ((⟨s3.2.1.Size, s3.2.1.Leaf, []⟩ : api_Tree), g4) :: Ent.box b1 r_api_Tree (⟨0, 0, []⟩ : api_Tree) :: R) (.slice none 0 0) (.cons rfl (.cons rfl (.cons rfl (.nil _)))) rfl ?_
    intro s3 g4 st9 hb7 hf8
    refine J_block ?_
    refine J_seq ?_
    refine J_region ?_
    refine JLp (T_faddr fo24_2 rfl) rfl (nofun) .none ?_
    refine JLp (T_loadb tv22 rfl hf_api_Tree_h2_Levels) rfl B1 .none ?_
    refine JLp (T_move rfl) rfl (nofun) .none ?_
    refine JLe0 (T_bslice (ρ := (Rep.sl (Rep.int .u64) 1)) sl22 (Lay.sl _ _) (.cons (.mk rfl) .nil) rfl (by decide)) rfl .none ?_
    replace hb7 := bnd hb7; obtain ⟨x10, hx10, hb7⟩ := hb7
    refine JLe1 (T_append sl22 ⟨_, (Lay.sl _ _)⟩ (.mk rfl) (.mk rfl) hx10) rfl .none fun g11 => ?_
    refine JLp (T_faddr fo24_2 rfl) rfl (nofun) .none ?_
    refine JL.perm F1 ?_
    refine JLn1 (T_storeG ((⟨s3.2.1.Size, s3.2.1.Leaf, []⟩ : api_Tree), g11) tv22 rfl (.mk rfl) sg_api_Tree_h2__api_Tree_h2__2 (by rfl)) .none ?_
    refine JL_nil ?_
    refine KJ_nrm_then (KJ_J ?_)
    refine J_seq ?_
    refine J_seq ?_
    refine J_region ?_
    refine JLp (T_move rfl) rfl (nofun) .none ?_
    refine JLp (T_len (ρ := (Rep.int .u64)) sl67 (.mk rfl)) rfl (nofun) .none ?_
    refine JLp (T_eql rfl rfl) rfl (nofun) .none ?_
    refine JL_nil ?_
    refine KJ_nrm_then (KJ_J ?_)
    refine J_test rfl (fun hq12 => ?_) (fun hq12 => ?_)
    · replace hb7 := ift hq12 hb7
      refine J_exit ?_
      refine KJ_exit_then ?_
      refine KJ_exit_up rfl ?_
      refine KJ_exit_then ?_
      refine KJ_exit_here ?_
      refine KJ_nrm_kq ?_
      refine KJ.perm F2 ?_
      refine KJ.perm F1 ?_
      refine KJ.perm F2 ?_
      obtain rfl := inj hb7
      exact KJ_ot (s3.1, (⟨s3.2.1.Size, s3.2.1.Leaf, []⟩ : api_Tree), x10) g11 hf8 (.cons rfl (.cons rfl (.nil _))) rfl
    · replace hb7 := iff_ hq12 hb7
      refine J_skip ?_
      refine KJ_nrm_then (KJ_J ?_)
      refine J_region ?_
      refine JLp (T_move rfl) rfl (nofun) .none ?_
      replace hb7 := bnd hb7; obtain ⟨x13, hx13, hb7⟩ := hb7
      refine JLe0 (T_call ⟨_, Try.func85, rfl, rfl⟩ (c_hashtree_up_uint64 hx13) ⟨(.mk rfl), ⟨(.fn2 rfl ⟨_, Try.func86, rfl, rfl⟩ (fun _ _ _ h => c_checksum_Pair h)), trivial⟩⟩) rfl .none ?_
      refine JLp (T_assign rfl) rfl (nofun) .none ?_
      refine JL_nil ?_
      refine KJ_nrm_blk ?_
      refine KJ_nrm_then ?_
      refine KJ.perm F2 ?_
      refine KJ.perm F1 ?_
      refine KJ.perm F2 ?_
      exact KJ_nx (x13, (⟨s3.2.1.Size, s3.2.1.Leaf, []⟩ : api_Tree), x10) g11 (inj hb7) (.cons rfl (.cons rfl (.cons rfl (.nil _)))) rfl
  · intro s3 g4 hs
    subst hs
    replace h := thn h
    refine KJ_nrm_then (KJ_J ?_)
    refine J_seq ?_
    refine J_region ?_
    refine JL.perm F1 ?_
    refine JL.perm F1 ?_
    refine JL_close (⟨s3.2.1.Size, s3.2.1.Leaf, s3.2.2⟩ : api_Tree) (fun I h => (Clp.iso (f := p_api_Tree_h2) (f' := p_api_Tree) (π := c_api_Tree_h2) (π' := c_api_Tree) (Clp.tail (Clp.tail (Clp.head (Clp.sl h)))))) ?_
    refine JLp (T_loadw ty24 rfl) rfl B0 .none ?_
    refine JL.perm F1 ?_
    refine JLn1 (T_store ty24 rfl (.mk rfl) (SetF.self lay_api_Tree)) .none ?_
    refine JL_nil ?_
    refine KJ_nrm_then (KJ_J ?_)
    refine J_ret ?_
    refine KJ_ret_sc ?_
    obtain rfl := inj h
    exact KJ_ret1c () [Ent.box b1 r_api_Tree (⟨s3.2.1.Size, s3.2.1.Leaf, s3.2.2⟩ : api_Tree), Ent.box b2 r_api_Tree (⟨s3.2.1.Size, s3.2.1.Leaf, s3.2.2⟩ : api_Tree)] rfl Try.results66 (.cell ty24 rfl (by simp) Rv.nil) rfl rfl
end Go.Proofs.Ytogflgcngfghpaa
end

/- function 64 -/
section
set_option maxHeartbeats 4000000
set_option linter.unusedVariables false
set_option linter.unusedSimpArgs false
namespace Go.Proofs.Ytogflgcngfghpaa
open Go.J
def f_hashtree_limits (a0 : Int) (a1 : Int) : Option (Int) :=
  (if (decide (a0 < 1)) = true then some true else some (decide (4096 < a0))).bind fun c1 => if c1 = true then some 2 else (if (decide (a1 < 1)) = true then some true else some (decide (4096 < a1))).bind fun c4 => if c4 = true then some 1 else some 0

theorem c_hashtree_limits {a0 : Int} {a1 : Int} {r : Int} (h : f_hashtree_limits a0 a1 = some r) : Ct Try.prog 64 [(Rep.int .i64).at a0, (Rep.int .i64).at a1] [] (fun _ : Unit => (Rep.int .i64).at r) (fun _ => []) := by
  refine Ct.mk Try.func64 rfl Try.ntmps64 (by simp) fun I R => ?_
  refine J.drop0 ?_
  unfold f_hashtree_limits at h
  refine J_seq ?_
  refine J_region ?_
  refine JLp (T_assign rfl) rfl (nofun) .none ?_
  refine JL_nil ?_
  refine KJ_nrm_then (KJ_J ?_)
  refine J_seq ?_
  refine J_block ?_
  refine J_seq ?_
  refine J_region ?_
  refine JLp (T_move rfl) rfl (nofun) .none ?_
  refine JLp (T_lss rfl rfl) rfl (nofun) .none ?_
  refine JLp (T_move rfl) rfl (nofun) .none ?_
  replace h := bnd h; obtain ⟨c1, hc1, h⟩ := h
  refine JL_at 3 [(1, (Rep.int .i64).at a1), (11, Rep.bool.at c1)] (R) ?_ ?_
  · rcases Bool.eq_false_or_eq_true (decide (a0 < 1)) with hq2 | hq2
    · replace hc1 := ift hq2 hc1
      obtain rfl := inj hc1
      refine JLs rfl rfl hq2 rfl ?_
      refine JLs rfl rfl hq2 rfl ?_
      refine JLp (T_pickT rfl hq2 rfl) rfl (nofun) .none ?_
      refine JL_nil ?_
      exact KJ.sub KJ_end (.cons rfl (.cons rfl (.nil _)))
    · replace hc1 := iff_ hq2 hc1
      refine JLp (T_move rfl) rfl (nofun) (.y rfl rfl hq2) ?_
      refine JLp (T_gtr rfl rfl) rfl (nofun) (.y rfl rfl hq2) ?_
      obtain rfl := inj hc1
      refine JLp (T_pickF rfl hq2 rfl) rfl (nofun) .none ?_
      refine JL_nil ?_
      exact KJ.sub KJ_end (.cons rfl (.cons rfl (.nil _)))
  refine JLp (T_assign rfl) rfl (nofun) .none ?_
  refine JL_nil ?_
  refine KJ_nrm_then (KJ_J ?_)
  refine J_test rfl (fun hq3 => ?_) (fun hq3 => ?_)
  · replace h := ift hq3 h
    refine J_seq ?_
    refine J_region ?_
    refine JLp (T_assign rfl) rfl (nofun) .none ?_
    refine JL_nil ?_
    refine KJ_nrm_then (KJ_J ?_)
    refine J_ret ?_
    refine KJ_ret_blk ?_
    refine KJ_ret_then ?_
    obtain rfl := inj h
    exact KJ_ret1' Try.results64 (.tmp (.mk rfl) Rv.nil) rfl rfl
  · replace h := iff_ hq3 h
    refine J_seq ?_
    refine J_region ?_
    refine JLp (T_move rfl) rfl (nofun) .none ?_
    refine JLp (T_lss rfl rfl) rfl (nofun) .none ?_
    refine JLp (T_move rfl) rfl (nofun) .none ?_
    replace h := bnd h; obtain ⟨c4, hc4, h⟩ := h
    refine JL_at 3 [(18, Rep.bool.at c4)] (R) ?_ ?_
    · rcases Bool.eq_false_or_eq_true (decide (a1 < 1)) with hq5 | hq5
      · replace hc4 := ift hq5 hc4
        obtain rfl := inj hc4
        refine JLs rfl rfl hq5 rfl ?_
        refine JLs rfl rfl hq5 rfl ?_
        refine JLp (T_pickT rfl hq5 rfl) rfl (nofun) .none ?_
        refine JL_nil ?_
        exact KJ.sub KJ_end (.cons rfl (.nil _))
      · replace hc4 := iff_ hq5 hc4
        refine JLp (T_move rfl) rfl (nofun) (.y rfl rfl hq5) ?_
        refine JLp (T_gtr rfl rfl) rfl (nofun) (.y rfl rfl hq5) ?_
        obtain rfl := inj hc4
        refine JLp (T_pickF rfl hq5 rfl) rfl (nofun) .none ?_
        refine JL_nil ?_
        exact KJ.sub KJ_end (.cons rfl (.nil _))
    refine JLp (T_assign rfl) rfl (nofun) .none ?_
    refine JL_nil ?_
    refine KJ_nrm_then (KJ_J ?_)
    refine J_test rfl (fun hq6 => ?_) (fun hq6 => ?_)
    · replace h := ift hq6 h
      refine J_seq ?_
      refine J_region ?_
      refine JLp (T_assign rfl) rfl (nofun) .none ?_
      refine JL_nil ?_
      refine KJ_nrm_then (KJ_J ?_)
      refine J_ret ?_
      refine KJ_ret_blk ?_
      refine KJ_ret_then ?_
      obtain rfl := inj h
      exact KJ_ret1' Try.results64 (.tmp (.mk rfl) Rv.nil) rfl rfl
    · replace h := iff_ hq6 h
      refine J_skip ?_
      refine KJ_nrm_blk ?_
      refine KJ_nrm_then (KJ_J ?_)
      refine J_seq ?_
      refine J_region ?_
      refine JLp (T_assign rfl) rfl (nofun) .none ?_
      refine JL_nil ?_
      refine KJ_nrm_then (KJ_J ?_)
      refine J_ret ?_
      obtain rfl := inj h
      exact KJ_ret1' Try.results64 (.tmp (.mk rfl) Rv.nil) rfl rfl
end Go.Proofs.Ytogflgcngfghpaa
end

/- function 65 -/
section
set_option maxHeartbeats 4000000
set_option linter.unusedVariables false
set_option linter.unusedSimpArgs false
namespace Go.Proofs.Ytogflgcngfghpaa
open Go.J
def f_hashtree_leaves (a0 : Int) (a1 : Int) : Option (Int) :=
  (quoI .i64 (IntKind.i64.wrap ((IntKind.i64.wrap (a0 + a1)) - 1)) a1).bind fun x1 => some x1

theorem c_hashtree_leaves {a0 : Int} {a1 : Int} {r : Int} (h : f_hashtree_leaves a0 a1 = some r) : Ct Try.prog 65 [(Rep.int .i64).at a0, (Rep.int .i64).at a1] [] (fun _ : Unit => (Rep.int .i64).at r) (fun _ => []) := by
  refine Ct.mk Try.func65 rfl Try.ntmps65 (by simp) fun I R => ?_
  refine J.drop0 ?_
  unfold f_hashtree_leaves at h
  refine J_seq ?_
  refine J_region ?_
  refine JLp (T_assign rfl) rfl (nofun) .none ?_
  refine JL_nil ?_
  refine KJ_nrm_then (KJ_J ?_)
  refine J_seq ?_
  refine J_region ?_
  refine JLp (T_move rfl) rfl (nofun) .none ?_
  refine JLp (T_move rfl) rfl (nofun) .none ?_
  refine JLp (T_add rfl rfl) rfl (nofun) .none ?_
  refine JLp (T_sub rfl rfl) rfl (nofun) .none ?_
  refine JLp (T_move rfl) rfl (nofun) .none ?_
  replace h := bnd h; obtain ⟨x1, hx1, h⟩ := h
  refine JLp (T_quoI rfl rfl hx1) rfl (nofun) .none ?_
  refine JLp (T_assign rfl) rfl (nofun) .none ?_
  refine JL_nil ?_
  refine KJ_nrm_then (KJ_J ?_)
  refine J_ret ?_
  obtain rfl := inj h
  exact KJ_ret1' Try.results65 (.tmp (.mk rfl) Rv.nil) rfl rfl
end Go.Proofs.Ytogflgcngfghpaa
end

/- function 67 -/
section
set_option maxHeartbeats 4000000
set_option linter.unusedVariables false
set_option linter.unusedSimpArgs false
namespace Go.Proofs.Ytogflgcngfghpaa
open Go.J
def f_slices_EqualFunc_uint64_uint64_uint64_uint64 (a0 : List (List Int)) (a1 : List (List Int)) (a2 : List Int → List Int → Option (Bool)) : Option (Bool) :=
  if (!decide ((a0.length : Int) = (a1.length : Int))) = true then some false else (rangeF (σ := Unit) (ρ := Bool) (fun i9 x13 s2 => (idx a1 i9).bind fun x15 => (a2 x13 x15).bind fun x16 => if (!x16) = true then some (Rd.ret false) else some (Rd.next ())) a0 0 ()).bind fun o4 => o4.then fun s2 => some true

theorem c_slices_EqualFunc_uint64_uint64_uint64_uint64 {a0 : List (List Int)} {a1 : List (List Int)} {a2 : List Int → List Int → Option (Bool)} {r : Bool} (h : f_slices_EqualFunc_uint64_uint64_uint64_uint64 a0 a1 a2 = some r) : Ct Try.prog 67 [(Rep.sl (Rep.sl (Rep.int .u64) 1) 1).at a0, (Rep.sl (Rep.sl (Rep.int .u64) 1) 1).at a1, (Rep.fn2 Try.prog (Rep.sl (Rep.int .u64) 1) (Rep.sl (Rep.int .u64) 1) Rep.bool).at a2] [] (fun _ : Unit => Rep.bool.at r) (fun _ => []) := by
  refine Ct.mk Try.func67 rfl Try.ntmps67 (by simp) fun I R => ?_
  refine J.drop0 ?_
  unfold f_slices_EqualFunc_uint64_uint64_uint64_uint64 at h
  refine J_seq ?_
  refine J_region ?_
  refine JLp (T_assign rfl) rfl (nofun) .none ?_
  refine JL_nil ?_
  refine KJ_nrm_then (KJ_J ?_)
  refine J_seq ?_
  refine J_seq ?_
  refine J_region ?_
  refine JLp (T_move rfl) rfl (nofun) .none ?_
  refine JLp (T_len (ρ := (Rep.sl (Rep.int .u64) 1)) sl22 (.mk rfl)) rfl (nofun) .none ?_
  refine JLp (T_move rfl) rfl (nofun) .none ?_
  refine JLp (T_len (ρ := (Rep.sl (Rep.int .u64) 1)) sl22 (.mk rfl)) rfl (nofun) .none ?_
  refine JLp (T_neq rfl rfl) rfl (nofun) .none ?_
  refine JL_nil ?_
  refine KJ_nrm_then (KJ_J ?_)
  refine J_test rfl (fun hq1 => ?_) (fun hq1 => ?_)
  · replace h := ift hq1 h
    refine J_seq ?_
    refine J_region ?_
    refine JLp (T_assign rfl) rfl (nofun) .none ?_
    refine JL_nil ?_
    refine KJ_nrm_then (KJ_J ?_)
    refine J_ret ?_
    refine KJ_ret_then ?_
    obtain rfl := inj h
    exact KJ_ret1' Try.results67 (.tmp (.mk rfl) Rv.nil) rfl rfl
  · replace h := iff_ hq1 h
    refine J_skip ?_
    refine KJ_nrm_then (KJ_J ?_)
    refine J_seq ?_
    refine J_seq ?_
    refine J_region ?_
    refine JLp (T_move rfl) rfl (nofun) .none ?_
    refine JLp (T_len (ρ := (Rep.sl (Rep.int .u64) 1)) sl22 (.mk rfl)) rfl (nofun) .none ?_
    refine JLp (T_move rfl) rfl (nofun) .none ?_
    refine JL_nil ?_
    refine KJ_nrm_then (KJ_J ?_)
    replace h := bnd h; obtain ⟨o4, ho5, h⟩ := h
    refine J_cuto o4 (fun (s2 : Unit) (g3 : Unit) => []) (fun s2 g3 => R) ?_ ?_
    · refine J_block ?_
      refine J_lim (ρ := (Rep.sl (Rep.int .u64) 1)) (n := 1) (l := a0) (x := .tmp 15) (.mk rfl) fun hl => ?_
      refine J_range ho5 hl (fun i9 (s2 : Unit) (g3 : Unit) => [(1, (Rep.sl (Rep.sl (Rep.int .u64) 1) 1).at a1), (2, (Rep.fn2 Try.prog (Rep.sl (Rep.int .u64) 1) (Rep.sl (Rep.int .u64) 1) Rep.bool).at a2), (15, (Rep.sl (Rep.sl (Rep.int .u64) 1) 1).at a0), (16, (Rep.int .i64).at (a0.length : Int)), (17, (Rep.int .i64).at i9)]) (fun i9 s2 g3 => R) () (.cons rfl (.cons rfl (.cons rfl (.cons rfl (.cons rfl (.nil _)))))) rfl ?_ ?_
      · intro s2 g3 ho5n
        refine J_seq (J_region (JLp (T_lss rfl rfl) rfl (nofun) .none (JL_nil (KJ_nrm_then (KJ_J ?_)))))
        refine J_seq (J_test rfl (fun hp => absurd (of_decide_eq_true hp) (by omega)) (fun _ => J_exit (KJ_exit_then (KJ_exit_then (KJ_exit_here (KJ_nrm_kq ?_))))))
        exact KJ_ot s2 g3 ho5n (.nil _) rfl
      · intro i9 x13 s2 g3 st8 hi10 hj11 hx14 hw12 hb6 hf7
        refine J_seq (J_region (JLp (T_lss rfl rfl) rfl (nofun) .none (JL_nil (KJ_nrm_then (KJ_J ?_)))))
        refine J_seq (J_test rfl (fun _ => J_skip (KJ_nrm_then (KJ_J ?_))) (fun hp => absurd hj11 (of_decide_eq_false hp)))
        refine J_seq ?_
        refine J_block ?_
        refine J_seq ?_
        refine J_region ?_
        refine JLp (T_move rfl) rfl (nofun) .none ?_
        refine JLp (T_ix sl22 (.mk rfl) rfl hx14) rfl (nofun) .none ?_
        refine JLp (T_load ty67 rfl) rfl (nofun) .none ?_
        refine JLp (T_assign rfl) rfl (nofun) .none ?_
        refine JLp (T_assign rfl) rfl (nofun) .none ?_
        refine JL_nil ?_
        refine KJ_nrm_then (KJ_J ?_)
        refine J_seq ?_
        refine J_region ?_
        refine JLp (T_move rfl) rfl (nofun) .none ?_
        refine JLp (T_move rfl) rfl (nofun) .none ?_
        replace hb6 := bnd hb6; obtain ⟨x15, hx15, hb6⟩ := hb6
        refine JLp (T_ix sl22 (.mk rfl) rfl hx15) rfl (nofun) .none ?_
        refine JLp (T_load ty67 rfl) rfl (nofun) .none ?_
        refine JLp (T_assign rfl) rfl (nofun) .none ?_
        refine JL_nil ?_
        refine KJ_nrm_then (KJ_J ?_)
        refine J_seq ?_
        refine J_region ?_
        refine JLp (T_move rfl) rfl (nofun) .none ?_
        refine JLp (T_move rfl) rfl (nofun) .none ?_
        refine JLp (T_move rfl) rfl (nofun) .none ?_
        replace hb6 := bnd hb6; obtain ⟨x16, hx16, hb6⟩ := hb6
        refine JLe0 (T_fn2 rfl hx16 ⟨(.mk rfl), ⟨(.mk rfl), trivial⟩⟩) rfl .none ?_
        refine JLp (T_not rfl) rfl (nofun) .none ?_
        refine JL_nil ?_
        refine KJ_nrm_then (KJ_J ?_)
        refine J_test rfl (fun hq17 => ?_) (fun hq17 => ?_)
        · replace hb6 := ift hq17 hb6
          refine J_seq ?_
          refine J_region ?_
          refine JLp (T_assign rfl) rfl (nofun) .none ?_
          refine JL_nil ?_
          refine KJ_nrm_then (KJ_J ?_)
          refine J_ret ?_
          refine KJ_ret_blk ?_
          refine KJ_ret_then ?_
          refine KJ_ret_then ?_
          refine KJ_ret_blk ?_
          refine KJ_ret_kq ?_
          refine KJ_ret_then ?_
          obtain rfl := inj hb6
          have hf7' := hf7
          obtain rfl : o4 = _ := hf7'
          replace h : some _ = some _ := h
          obtain rfl := inj h
          exact KJ_ret1' Try.results67 (.tmp (.mk rfl) Rv.nil) rfl rfl
        · replace hb6 := iff_ hq17 hb6
          refine J_skip ?_
          refine KJ_nrm_blk ?_
          refine KJ_nrm_then (KJ_J ?_)
          refine J_region ?_
          refine JLp (T_addw rfl rfl hw12) rfl (nofun) .none ?_
          refine JLp (T_move rfl) rfl (nofun) .none ?_
          refine JL_nil ?_
          refine KJ_nrm_then ?_
          exact KJ_nx () () (inj hb6) (.cons rfl (.cons rfl (.cons rfl (.cons rfl (.cons rfl (.nil _)))))) rfl
    · intro s2 g3 hs
      subst hs
      replace h := thn h
      refine KJ_nrm_then (KJ_J ?_)
      refine J_seq ?_
      refine J_region ?_
      refine JLp (T_assign rfl) rfl (nofun) .none ?_
      refine JL_nil ?_
      refine KJ_nrm_then (KJ_J ?_)
      refine J_ret ?_
      obtain rfl := inj h
      exact KJ_ret1' Try.results67 (.tmp (.mk rfl) Rv.nil) rfl rfl
end Go.Proofs.Ytogflgcngfghpaa
end

/- function 68 -/
section
set_option maxHeartbeats 4000000
set_option linter.unusedVariables false
set_option linter.unusedSimpArgs false
namespace Go.Proofs.Ytogflgcngfghpaa
open Go.J
def f_slices_Equal_uint64_uint64 (a0 : List Int) (a1 : List Int) : Option (Bool) :=
  if (!decide ((a0.length : Int) = (a1.length : Int))) = true then some false else (capN (a0.length : Int) (countF (σ := Unit) (ρ := Bool) (fun i9 s2 => (idx a0 i9).bind fun x13 => (idx a1 i9).bind fun x14 => if (!decide (x13 = x14)) = true then some (Rd.ret false) else some (Rd.next ())) (((a0.length : Int) : Int) - 0).toNat 0 ())).bind fun o4 => o4.then fun s2 => some true

theorem c_slices_Equal_uint64_uint64 {a0 : List Int} {a1 : List Int} {r : Bool} (h : f_slices_Equal_uint64_uint64 a0 a1 = some r) : Ct Try.prog 68 [(Rep.sl (Rep.int .u64) 1).at a0, (Rep.sl (Rep.int .u64) 1).at a1] [] (fun _ : Unit => Rep.bool.at r) (fun _ => []) := by
  refine Ct.mk Try.func68 rfl Try.ntmps68 (by simp) fun I R => ?_
  refine J.drop0 ?_
  unfold f_slices_Equal_uint64_uint64 at h
  refine J_seq ?_
  refine J_region ?_
  refine JLp (T_assign rfl) rfl (nofun) .none ?_
  refine JL_nil ?_
  refine KJ_nrm_then (KJ_J ?_)
  refine J_seq ?_
  refine J_seq ?_
  refine J_region ?_
  refine JLp (T_move rfl) rfl (nofun) .none ?_
  refine JLp (T_len (ρ := (Rep.int .u64)) sl67 (.mk rfl)) rfl (nofun) .none ?_
  refine JLp (T_move rfl) rfl (nofun) .none ?_
  refine JLp (T_len (ρ := (Rep.int .u64)) sl67 (.mk rfl)) rfl (nofun) .none ?_
  refine JLp (T_neq rfl rfl) rfl (nofun) .none ?_
  refine JL_nil ?_
  refine KJ_nrm_then (KJ_J ?_)
  refine J_test rfl (fun hq1 => ?_) (fun hq1 => ?_)
  · replace h := ift hq1 h
    refine J_seq ?_
    refine J_region ?_
    refine JLp (T_assign rfl) rfl (nofun) .none ?_
    refine JL_nil ?_
    refine KJ_nrm_then (KJ_J ?_)
    refine J_ret ?_
    refine KJ_ret_then ?_
    obtain rfl := inj h
    exact KJ_ret1' Try.results68 (.tmp (.mk rfl) Rv.nil) rfl rfl
  · replace h := iff_ hq1 h
    refine J_skip ?_
    refine KJ_nrm_then (KJ_J ?_)
    refine J_seq ?_
    refine J_seq ?_
    refine J_region ?_
    refine JLp (T_move rfl) rfl (nofun) .none ?_
    refine JLp (T_len (ρ := (Rep.int .u64)) sl67 (.mk rfl)) rfl (nofun) .none ?_
    refine JLp (T_move rfl) rfl (nofun) .none ?_
    refine JL_nil ?_
    refine KJ_nrm_then (KJ_J ?_)
    replace h := bnd h; obtain ⟨o4, ho5, h⟩ := h
    have ho5c := capN_some ho5
    refine J_cuto o4 (fun (s2 : Unit) (g3 : Unit) => []) (fun s2 g3 => R) ?_ ?_
    · refine J_block ?_
      refine J_count (n := (a0.length : Int)) ho5c.2 (by decide) ho5c.1 (fun i9 (s2 : Unit) (g3 : Unit) => [(0, (Rep.sl (Rep.int .u64) 1).at a0), (1, (Rep.sl (Rep.int .u64) 1).at a1), (12, (Rep.int .i64).at (a0.length : Int)), (13, (Rep.int .i64).at i9)]) (fun i9 s2 g3 => R) () (.cons rfl (.cons rfl (.cons rfl (.cons rfl (.nil _))))) rfl ?_ ?_
      · intro i9 s2 g3 hi ho5n
        refine J_seq (J_region (JLp (T_lss rfl rfl) rfl (nofun) .none (JL_nil (KJ_nrm_then (KJ_J ?_)))))
        refine J_seq (J_test rfl (fun hp => absurd (of_decide_eq_true hp) (by omega)) (fun _ => J_exit (KJ_exit_then (KJ_exit_then (KJ_exit_here (KJ_nrm_kq ?_))))))
        exact KJ_ot s2 g3 ho5n (.nil _) rfl
      · intro i9 s2 g3 st8 hi10 hj11 hw12 hb6 hf7
        refine J_seq (J_region (JLp (T_lss rfl rfl) rfl (nofun) .none (JL_nil (KJ_nrm_then (KJ_J ?_)))))
        refine J_seq (J_test rfl (fun _ => J_skip (KJ_nrm_then (KJ_J ?_))) (fun hp => absurd hj11 (of_decide_eq_false hp)))
        refine J_seq ?_
        refine J_block ?_
        refine J_seq ?_
        refine J_region ?_
        refine JLp (T_move rfl) rfl (nofun) .none ?_
        refine JLp (T_assign rfl) rfl (nofun) .none ?_
        refine JL_nil ?_
        refine KJ_nrm_then (KJ_J ?_)
        refine J_seq ?_
        replace hb6 := bnd hb6; obtain ⟨x13, hx13, hb6⟩ := hb6
        replace hb6 := bnd hb6; obtain ⟨x14, hx14, hb6⟩ := hb6
        refine J_drawR (Ks := []) rfl (by kernel_rfl) fun K hK => ?_
        refine DR.p (.base (t := 0) rfl .nil) (T_move rfl) .none rfl rfl (nofun) ?_
        refine DR.p (.base (t := 5) rfl .nil) (T_move rfl) .none rfl rfl (nofun) ?_
        refine DR.p (.dep 0 1 rfl rfl rfl (.dep 1 0 rfl rfl rfl .nil)) (T_ix sl67 (.mk rfl) rfl hx13) .none rfl rfl (nofun) ?_
        refine DR.p (.dep 2 0 rfl rfl rfl .nil) (T_load ty73 rfl) .none rfl rfl (nofun) ?_
        refine DR.p (.base (t := 1) rfl .nil) (T_move rfl) .none rfl rfl (nofun) ?_
        refine DR.p (.base (t := 5) rfl .nil) (T_move rfl) .none rfl rfl (nofun) ?_
        refine DR.p (.dep 4 1 rfl rfl rfl (.dep 5 0 rfl rfl rfl .nil)) (T_ix sl67 (.mk rfl) rfl hx14) .none rfl rfl (nofun) ?_
        refine DR.p (.dep 6 0 rfl rfl rfl .nil) (T_load ty73 rfl) .none rfl rfl (nofun) ?_
        refine DR.tail (by kernel_rfl) (.refl _) rfl ?_
        simp only [List.reverse_cons, List.reverse_nil, List.nil_append, List.cons_append, DT]
        refine JLp (T_neq rfl rfl) rfl (nofun) .none ?_
        refine JL_nil (KJ_hid hK ?_)
        refine KJ_nrm_then (KJ_J ?_)
        refine J_test rfl (fun hq15 => ?_) (fun hq15 => ?_)
        · replace hb6 := ift hq15 hb6
          refine J_seq ?_
          refine J_region ?_
          refine JLp (T_assign rfl) rfl (nofun) .none ?_
          refine JL_nil ?_
          refine KJ_nrm_then (KJ_J ?_)
          refine J_ret ?_
          refine KJ_ret_blk ?_
          refine KJ_ret_then ?_
          refine KJ_ret_then ?_
          refine KJ_ret_blk ?_
          refine KJ_ret_kq ?_
          refine KJ_ret_then ?_
          obtain rfl := inj hb6
          have hf7' := hf7
          obtain rfl : o4 = _ := hf7'
          replace h : some _ = some _ := h
          obtain rfl := inj h
          exact KJ_ret1' Try.results68 (.tmp (.mk rfl) Rv.nil) rfl rfl
        · replace hb6 := iff_ hq15 hb6
          refine J_skip ?_
          refine KJ_nrm_blk ?_
          refine KJ_nrm_then (KJ_J ?_)
          refine J_region ?_
          refine JLp (T_addw rfl rfl hw12) rfl (nofun) .none ?_
          refine JLp (T_move rfl) rfl (nofun) .none ?_
          refine JL_nil ?_
          refine KJ_nrm_then ?_
          exact KJ_nx () () (inj hb6) (.cons rfl (.cons rfl (.cons rfl (.cons rfl (.nil _))))) rfl
    · intro s2 g3 hs
      subst hs
      replace h := thn h
      refine KJ_nrm_then (KJ_J ?_)
      refine J_seq ?_
      refine J_region ?_
      refine JLp (T_assign rfl) rfl (nofun) .none ?_
      refine JL_nil ?_
      refine KJ_nrm_then (KJ_J ?_)
      refine J_ret ?_
      obtain rfl := inj h
      exact KJ_ret1' Try.results68 (.tmp (.mk rfl) Rv.nil) rfl rfl
end Go.Proofs.Ytogflgcngfghpaa
end

/- function 32 -/
section
set_option maxHeartbeats 4000000
set_option linter.unusedVariables false
set_option linter.unusedSimpArgs false
namespace Go.Proofs.Ytogflgcngfghpaa
open Go.J
def f_hashtree_Check (a0 : api_Tree) : Option (Int) :=
  (f_hashtree_limits a0.Size a0.Leaf).bind fun x1 => if (!decide (x1 = 0)) = true then some x1 else (f_hashtree_leaves a0.Size a0.Leaf).bind fun x3 => (rangeF (σ := Int) (ρ := Int) (fun i11 x15 s4 => (if (!decide ((x15.length : Int) = s4)) = true then some true else (if (decide (s4 = 1)) = true then some (decide ((i11 + 1) < (a0.Levels.length : Int))) else some false).bind fun c19 => some c19).bind fun c17 => if c17 = true then some (Rd.ret 3) else ((if (decide (s4 = 1)) = true then some (Fl.go 0) else some (Fl.go s4) : Option (Fl (Int) (Rd (Int) (Int))))).bind fun o23 => o23.then fun s25 => some (Rd.next (IntKind.i64.wrap (Int.tdiv (IntKind.i64.wrap (s25 + 1)) 2)))) a0.Levels 0 x3).bind fun o6 => o6.then fun s4 => if (!decide (s4 = 0)) = true then some 3 else (idx a0.Levels 0).bind fun x28 => (f_hashtree_above a0.Size a0.Leaf x28).bind fun x29 => (f_slices_EqualFunc_uint64_uint64_uint64_uint64 x29.Levels a0.Levels f_slices_Equal_uint64_uint64).bind fun x31 => if (!x31) = true then some 22 else some 0

theorem c_hashtree_Check {a0 : api_Tree} {r : Int} (h : f_hashtree_Check a0 = some r) : Ct Try.prog 32 [r_api_Tree.at a0] [] (fun _ : Unit => (Rep.int .i64).at r) (fun _ => []) := by
  refine Ct.mk Try.func32 rfl Try.ntmps32 (by simp) fun I R => ?_
  refine J.drop0 ?_
  unfold f_hashtree_Check at h
  refine J_seq ?_
  refine J_region ?_
  refine JLe0 (T_box (ρ := r_api_Tree) (.mk rfl)) rfl .none ?_
  refine JLp (T_assign rfl) rfl (nofun) .none ?_
  refine JL_nil ?_
  refine KJ_nrm_then (KJ_J ?_)
  refine J_seq ?_
  refine J_seq ?_
  refine J_region ?_
  refine JLp (T_faddri fo24_0 rfl hf_api_Tree_Size) rfl (nofun) .none ?_
  refine JLp (T_load ty3 rfl) rfl (nofun) .none ?_
  refine JLp (T_faddri fo24_1 rfl hf_api_Tree_Leaf) rfl (nofun) .none ?_
  refine JLp (T_load ty3 rfl) rfl (nofun) .none ?_
  replace h := bnd h; obtain ⟨x1, hx1, h⟩ := h
  refine JLe0 (T_call ⟨_, Try.func64, rfl, rfl⟩ (c_hashtree_limits hx1) ⟨(.mk rfl), ⟨(.mk rfl), trivial⟩⟩) rfl .none ?_
  refine JLp (T_assign rfl) rfl (nofun) .none ?_
  refine JL_nil ?_
  refine KJ_nrm_then (KJ_J ?_)
  refine J_seq ?_
  refine J_region ?_
  refine JLp (T_move rfl) rfl (nofun) .none ?_
  refine JLp (T_neq rfl rfl) rfl (nofun) .none ?_
  refine JL_nil ?_
  refine KJ_nrm_then (KJ_J ?_)
  refine J_test rfl (fun hq2 => ?_) (fun hq2 => ?_)
  · replace h := ift hq2 h
    refine J_seq ?_
    refine J_region ?_
    refine JLp (T_move rfl) rfl (nofun) .none ?_
    refine JLp (T_assign rfl) rfl (nofun) .none ?_
    refine JL_nil ?_
    refine KJ_nrm_then (KJ_J ?_)
    refine J_ret ?_
    refine KJ_ret_then ?_
    obtain rfl := inj h
    exact KJ_ret1' Try.results32 (.tmp (.mk rfl) Rv.nil) rfl rfl
  · replace h := iff_ hq2 h
    refine J_skip ?_
    refine KJ_nrm_then (KJ_J ?_)
    refine J_seq ?_
    refine J_region ?_
    refine JLp (T_faddri fo24_0 rfl hf_api_Tree_Size) rfl (nofun) .none ?_
    refine JLp (T_load ty3 rfl) rfl (nofun) .none ?_
    refine JLp (T_faddri fo24_1 rfl hf_api_Tree_Leaf) rfl (nofun) .none ?_
    refine JLp (T_load ty3 rfl) rfl (nofun) .none ?_
    replace h := bnd h; obtain ⟨x3, hx3, h⟩ := h
    refine JLe0 (T_call ⟨_, Try.func65, rfl, rfl⟩ (c_hashtree_leaves hx3) ⟨(.mk rfl), ⟨(.mk rfl), trivial⟩⟩) rfl .none ?_
    refine JLp (T_assign rfl) rfl (nofun) .none ?_
    refine JL_nil ?_
    refine KJ_nrm_then (KJ_J ?_)
    refine J_seq ?_
    refine J_seq ?_
    refine J_region ?_
    refine JLp (T_faddri fo24_2 rfl hf_api_Tree_Levels) rfl (nofun) .none ?_
    refine JLp (T_load ty22 rfl) rfl (nofun) .none ?_
    refine JLp (T_len (ρ := (Rep.sl (Rep.int .u64) 1)) sl22 (.mk rfl)) rfl (nofun) .none ?_
    refine JLp (T_move rfl) rfl (nofun) .none ?_
    refine JL_nil ?_
    refine KJ_nrm_then (KJ_J ?_)
    replace h := bnd h; obtain ⟨o6, ho7, h⟩ := h
    refine J_cuto o6 (fun (s4 : Int) (g5 : Unit) => [(1, (Rep.iptr r_api_Tree).at a0), (4, (Rep.int .i64).at s4)]) (fun s4 g5 => R) ?_ ?_
    · refine J_block ?_
      refine J_lim (ρ := (Rep.sl (Rep.int .u64) 1)) (n := 1) (l := a0.Levels) (x := .tmp 22) (.mk rfl) fun hl => ?_
      refine J_range ho7 hl (fun i11 (s4 : Int) (g5 : Unit) => [(1, (Rep.iptr r_api_Tree).at a0), (22, (Rep.sl (Rep.sl (Rep.int .u64) 1) 1).at a0.Levels), (23, (Rep.int .i64).at (a0.Levels.length : Int)), (4, (Rep.int .i64).at s4), (24, (Rep.int .i64).at i11)]) (fun i11 s4 g5 => R) () (.cons rfl (.cons rfl (.cons rfl (.cons rfl (.cons rfl (.nil _)))))) rfl ?_ ?_
      · intro s4 g5 ho7n
        refine J_seq (J_region (JLp (T_lss rfl rfl) rfl (nofun) .none (JL_nil (KJ_nrm_then (KJ_J ?_)))))
        refine J_seq (J_test rfl (fun hp => absurd (of_decide_eq_true hp) (by omega)) (fun _ => J_exit (KJ_exit_then (KJ_exit_then (KJ_exit_here (KJ_nrm_kq ?_))))))
        exact KJ_ot s4 g5 ho7n (.cons rfl (.cons rfl (.nil _))) rfl
      · intro i11 x15 s4 g5 st10 hi12 hj13 hx16 hw14 hb8 hf9
        refine J_seq (J_region (JLp (T_lss rfl rfl) rfl (nofun) .none (JL_nil (KJ_nrm_then (KJ_J ?_)))))
        refine J_seq (J_test rfl (fun _ => J_skip (KJ_nrm_then (KJ_J ?_))) (fun hp => absurd hj13 (of_decide_eq_false hp)))
        refine J_seq ?_
        refine J_block ?_
        refine J_seq ?_
        refine J_region ?_
        refine JLp (T_move rfl) rfl (nofun) .none ?_
        refine JLp (T_ix sl22 (.mk rfl) rfl hx16) rfl (nofun) .none ?_
        refine JLp (T_load ty67 rfl) rfl (nofun) .none ?_
        refine JLp (T_assign rfl) rfl (nofun) .none ?_
        refine JLp (T_assign rfl) rfl (nofun) .none ?_
        refine JL_nil ?_
        refine KJ_nrm_then (KJ_J ?_)
        refine J_seq ?_
        refine J_seq ?_
        refine J_region ?_
        refine JLp (T_move rfl) rfl (nofun) .none ?_
        refine JLp (T_len (ρ := (Rep.int .u64)) sl67 (.mk rfl)) rfl (nofun) .none ?_
        refine JLp (T_move rfl) rfl (nofun) .none ?_
        refine JLp (T_neq rfl rfl) rfl (nofun) .none ?_
        refine JLp (T_move rfl) rfl (nofun) .none ?_
        replace hb8 := bnd hb8; obtain ⟨c17, hc17, hb8⟩ := hb8
        refine JL_at 11 [(1, (Rep.iptr r_api_Tree).at a0), (22, (Rep.sl (Rep.sl (Rep.int .u64) 1) 1).at a0.Levels), (23, (Rep.int .i64).at (a0.Levels.length : Int)), (4, (Rep.int .i64).at s4), (24, (Rep.int .i64).at i11), (44, Rep.bool.at c17)] (R) ?_ ?_
        · rcases Bool.eq_false_or_eq_true (!decide ((x15.length : Int) = s4)) with hq18 | hq18
          · replace hc17 := ift hq18 hc17
            obtain rfl := inj hc17
            refine JLs rfl rfl hq18 rfl ?_
            refine JLs rfl rfl hq18 rfl ?_
            refine JLs rfl rfl hq18 rfl ?_
            refine JLu rfl rfl rfl ?_
            refine JLu rfl rfl rfl ?_
            refine JLu rfl rfl rfl ?_
            refine JLu rfl rfl rfl ?_
            refine JLu rfl rfl rfl ?_
            refine JLu rfl rfl rfl ?_
            refine JLs rfl rfl hq18 rfl ?_
            refine JLp (T_pickT rfl hq18 rfl) rfl (nofun) .none ?_
            refine JL_nil ?_
            exact KJ.sub KJ_end (.cons rfl (.cons rfl (.cons rfl (.cons rfl (.cons rfl (.cons rfl (.nil _)))))))
          · replace hc17 := iff_ hq18 hc17
            refine JLp (T_move rfl) rfl (nofun) (.y rfl rfl hq18) ?_
            refine JLp (T_eql rfl rfl) rfl (nofun) (.y rfl rfl hq18) ?_
            refine JLp (T_move rfl) rfl (nofun) (.y rfl rfl hq18) ?_
            replace hc17 := bnd hc17; obtain ⟨c19, hc19, hc17⟩ := hc17
            refine JL_at 7 [(1, (Rep.iptr r_api_Tree).at a0), (22, (Rep.sl (Rep.sl (Rep.int .u64) 1) 1).at a0.Levels), (23, (Rep.int .i64).at (a0.Levels.length : Int)), (4, (Rep.int .i64).at s4), (24, (Rep.int .i64).at i11), (33, Rep.bool.at (!decide ((x15.length : Int) = s4))), (43, Rep.bool.at c19)] (R) ?_ ?_
            · rcases Bool.eq_false_or_eq_true (decide (s4 = 1)) with hq20 | hq20
              · replace hc19 := ift hq20 hc19
                refine JLp (T_move rfl) rfl (nofun) (.y rfl rfl hq20) ?_
                refine JLp (T_addw rfl rfl hw14) rfl (nofun) (.y rfl rfl hq20) ?_
                refine JLp (T_faddri fo24_2 rfl hf_api_Tree_Levels) rfl (nofun) (.y rfl rfl hq20) ?_
                refine JLp (T_load ty22 rfl) rfl (nofun) (.y rfl rfl hq20) ?_
                refine JLp (T_len (ρ := (Rep.sl (Rep.int .u64) 1)) sl22 (.mk rfl)) rfl (nofun) (.y rfl rfl hq20) ?_
                refine JLp (T_lss rfl rfl) rfl (nofun) (.y rfl rfl hq20) ?_
                obtain rfl := inj hc19
                refine JLp (T_pickT rfl hq20 rfl) rfl (nofun) (.y rfl rfl hq18) ?_
                refine JL_nil ?_
                exact KJ.sub KJ_end (.cons rfl (.cons rfl (.cons rfl (.cons rfl (.cons rfl (.cons rfl (.cons rfl (.nil _))))))))
              · replace hc19 := iff_ hq20 hc19
                obtain rfl := inj hc19
                refine JLs rfl rfl hq20 rfl ?_
                refine JLs rfl rfl hq20 rfl ?_
                refine JLs rfl rfl hq20 rfl ?_
                refine JLs rfl rfl hq20 rfl ?_
                refine JLs rfl rfl hq20 rfl ?_
                refine JLs rfl rfl hq20 rfl ?_
                refine JLp (T_pickF rfl hq20 rfl) rfl (nofun) (.y rfl rfl hq18) ?_
                refine JL_nil ?_
                exact KJ.sub KJ_end (.cons rfl (.cons rfl (.cons rfl (.cons rfl (.cons rfl (.cons rfl (.cons rfl (.nil _))))))))
            obtain rfl := inj hc17
            refine JLp (T_pickF rfl hq18 rfl) rfl (nofun) .none ?_
            refine JL_nil ?_
            exact KJ.sub KJ_end (.cons rfl (.cons rfl (.cons rfl (.cons rfl (.cons rfl (.cons rfl (.nil _)))))))
        refine JL_nil ?_
        refine KJ_nrm_then (KJ_J ?_)
        refine J_test rfl (fun hq21 => ?_) (fun hq21 => ?_)
        · replace hb8 := ift hq21 hb8
          refine J_seq ?_
          refine J_region ?_
          refine JLp (T_assign rfl) rfl (nofun) .none ?_
          refine JL_nil ?_
          refine KJ_nrm_then (KJ_J ?_)
          refine J_ret ?_
          refine KJ_ret_then ?_
          refine KJ_ret_blk ?_
          refine KJ_ret_then ?_
          refine KJ_ret_then ?_
          refine KJ_ret_blk ?_
          refine KJ_ret_kq ?_
          refine KJ_ret_then ?_
          obtain rfl := inj hb8
          have hf9' := hf9
          obtain rfl : o6 = _ := hf9'
          replace h : some _ = some _ := h
          obtain rfl := inj h
          exact KJ_ret1' Try.results32 (.tmp (.mk rfl) Rv.nil) rfl rfl
        · replace hb8 := iff_ hq21 hb8
          refine J_skip ?_
          refine KJ_nrm_then (KJ_J ?_)
          refine J_seq ?_
          refine J_seq ?_
          refine J_region ?_
          refine JLp (T_move rfl) rfl (nofun) .none ?_
          refine JLp (T_eql rfl rfl) rfl (nofun) .none ?_
          refine JL_nil ?_
          refine KJ_nrm_then (KJ_J ?_)
          replace hb8 := bnd hb8; obtain ⟨o23, ho24, hb8⟩ := hb8
          refine J_cuto o23 (fun (s25 : Int) (g26 : Unit) => [(1, (Rep.iptr r_api_Tree).at a0), (22, (Rep.sl (Rep.sl (Rep.int .u64) 1) 1).at a0.Levels), (23, (Rep.int .i64).at (a0.Levels.length : Int)), (24, (Rep.int .i64).at i11), (4, (Rep.int .i64).at s25)]) (fun s25 g26 => R) ?_ ?_
          · refine J_test rfl (fun hq22 => ?_) (fun hq22 => ?_)
            · replace ho24 := ift hq22 ho24
              refine J_region ?_
              refine JLp (T_assign rfl) rfl (nofun) .none ?_
              refine JL_nil ?_
              refine KJ_nrm_kq ?_
              exact KJ_ot 0 () (inj ho24) (.cons rfl (.cons rfl (.cons rfl (.cons rfl (.cons rfl (.nil _)))))) rfl
            · replace ho24 := iff_ hq22 ho24
              refine J_skip ?_
              refine KJ_nrm_kq ?_
              exact KJ_ot s4 () (inj ho24) (.cons rfl (.cons rfl (.cons rfl (.cons rfl (.cons rfl (.nil _)))))) rfl
          · intro s25 g26 hs
            subst hs
            replace hb8 := thn hb8
            refine KJ_nrm_then (KJ_J ?_)
            refine J_region ?_
            refine JLp (T_move rfl) rfl (nofun) .none ?_
            refine JLp (T_add rfl rfl) rfl (nofun) .none ?_
            refine JLp (T_quo rfl rfl (by decide)) rfl (nofun) .none ?_
            refine JLp (T_assign rfl) rfl (nofun) .none ?_
            refine JL_nil ?_
            refine KJ_nrm_blk ?_
            refine KJ_nrm_then (KJ_J ?_)
            refine J_region ?_
            refine JLp (T_addw rfl rfl hw14) rfl (nofun) .none ?_
            refine JLp (T_move rfl) rfl (nofun) .none ?_
            refine JL_nil ?_
            refine KJ_nrm_then ?_
            exact KJ_nx (IntKind.i64.wrap (Int.tdiv (IntKind.i64.wrap (s25 + 1)) 2)) () (inj hb8) (.cons rfl (.cons rfl (.cons rfl (.cons rfl (.cons rfl (.nil _)))))) rfl
    · intro s4 g5 hs
      subst hs
      replace h := thn h
      refine KJ_nrm_then (KJ_J ?_)
      refine J_seq ?_
      refine J_seq ?_
      refine J_region ?_
      refine JLp (T_move rfl) rfl (nofun) .none ?_
      refine JLp (T_neq rfl rfl) rfl (nofun) .none ?_
      refine JL_nil ?_
      refine KJ_nrm_then (KJ_J ?_)
      refine J_test rfl (fun hq27 => ?_) (fun hq27 => ?_)
      · replace h := ift hq27 h
        refine J_seq ?_
        refine J_region ?_
        refine JLp (T_assign rfl) rfl (nofun) .none ?_
        refine JL_nil ?_
        refine KJ_nrm_then (KJ_J ?_)
        refine J_ret ?_
        refine KJ_ret_then ?_
        obtain rfl := inj h
        exact KJ_ret1' Try.results32 (.tmp (.mk rfl) Rv.nil) rfl rfl
      · replace h := iff_ hq27 h
        refine J_skip ?_
        refine KJ_nrm_then (KJ_J ?_)
        refine J_seq ?_
        replace h := bnd h; obtain ⟨x28, hx28, h⟩ := h
        replace h := bnd h; obtain ⟨x29, hx29, h⟩ := h
        refine J_drawR (Ks := []) rfl (by kernel_rfl) fun K hK => ?_
        refine DR.p (.base (t := 1) rfl .nil) (T_faddri fo24_0 rfl hf_api_Tree_Size) .none rfl rfl (nofun) ?_
        refine DR.p (.dep 0 0 rfl rfl rfl .nil) (T_load ty3 rfl) .none rfl rfl (nofun) ?_
        refine DR.p (.base (t := 1) rfl .nil) (T_faddri fo24_1 rfl hf_api_Tree_Leaf) .none rfl rfl (nofun) ?_
        refine DR.p (.dep 2 0 rfl rfl rfl .nil) (T_load ty3 rfl) .none rfl rfl (nofun) ?_
        refine DR.p (.base (t := 1) rfl .nil) (T_faddri fo24_2 rfl hf_api_Tree_Levels) .none rfl rfl (nofun) ?_
        refine DR.p (.dep 4 0 rfl rfl rfl .nil) (T_load ty22 rfl) .none rfl rfl (nofun) ?_
        refine DR.p (.dep 5 0 rfl rfl rfl .nil) (T_ix sl22 (.mk rfl) rfl hx28) .none rfl rfl (nofun) ?_
        refine DR.p (.dep 6 0 rfl rfl rfl .nil) (T_load ty67 rfl) .none rfl rfl (nofun) ?_
        refine DR.e (.dep 1 6 rfl rfl rfl (.dep 3 4 rfl rfl rfl (.dep 7 0 rfl rfl rfl .nil))) (T_call ⟨_, Try.func66, rfl, rfl⟩ (c_hashtree_above hx29) ⟨(.mk rfl), ⟨(.mk rfl), ⟨(.mk rfl), trivial⟩⟩⟩) .none rfl rfl ?_
        refine DR.a (T_alloc z24 lay_api_Tree) rfl rfl ?_
        refine DR.tail (by kernel_rfl) (.refl _) rfl ?_
        simp only [List.reverse_cons, List.reverse_nil, List.nil_append, List.cons_append, DT]
        intro wb30
        obtain ⟨b30, hwb30⟩ : ∃ b, blkOf wb30 = b := ⟨_, rfl⟩
        rw [hwb30]
        refine JLn1 (T_store ty24 rfl (.mk rfl) (SetF.self lay_api_Tree)) .none ?_
        refine JL_nil (KJ_hid hK ?_)
        refine KJ_nrm_then (KJ_J ?_)
        refine J_seq ?_
        refine J_seq ?_
        refine J_region ?_
        refine JLp (T_faddr fo24_2 rfl) rfl (nofun) .none ?_
        refine JLp (T_loadb ty22 rfl hf_api_Tree_Levels) rfl B0 .none ?_
        refine JLp (T_faddri fo24_2 rfl hf_api_Tree_Levels) rfl (nofun) .none ?_
        refine JLp (T_load ty22 rfl) rfl (nofun) .none ?_
        replace h := bnd h; obtain ⟨x31, hx31, h⟩ := h
        refine JLe0 (T_call ⟨_, Try.func67, rfl, rfl⟩ (c_slices_EqualFunc_uint64_uint64_uint64_uint64 hx31) ⟨(.mk rfl), ⟨(.mk rfl), ⟨(.fn2 rfl ⟨_, Try.func68, rfl, rfl⟩ (fun _ _ _ h => c_slices_Equal_uint64_uint64 h)), trivial⟩⟩⟩) rfl .none ?_
        refine JLp (T_not rfl) rfl (nofun) .none ?_
        refine JL_nil ?_
        refine KJ_nrm_then (KJ_J ?_)
        refine J_test rfl (fun hq32 => ?_) (fun hq32 => ?_)
        · replace h := ift hq32 h
          refine J_seq ?_
          refine J_region ?_
          refine JLp (T_assign rfl) rfl (nofun) .none ?_
          refine JL_nil ?_
          refine KJ_nrm_then (KJ_J ?_)
          refine J_ret ?_
          refine KJ_ret_then ?_
          obtain rfl := inj h
          refine KJ.drop1 ?_
          exact KJ_ret1' Try.results32 (.tmp (.mk rfl) Rv.nil) rfl rfl
        · replace h := iff_ hq32 h
          refine J_skip ?_
          refine KJ_nrm_then (KJ_J ?_)
          refine J_seq ?_
          refine J_region ?_
          refine JLp (T_assign rfl) rfl (nofun) .none ?_
          refine JL_nil ?_
          refine KJ_nrm_then (KJ_J ?_)
          refine J_ret ?_
          obtain rfl := inj h
          refine KJ.drop1 ?_
          exact KJ_ret1' Try.results32 (.tmp (.mk rfl) Rv.nil) rfl rfl
end Go.Proofs.Ytogflgcngfghpaa
end

/- function 58 -/
section
set_option maxHeartbeats 4000000
set_option linter.unusedVariables false
set_option linter.unusedSimpArgs false
namespace Go.Proofs.Ytogflgcngfghpaa
open Go.J
def f_ref11_Leaves (a0 : Int) (a1 : Int) : Option (Int) :=
  (quoI .i64 (IntKind.i64.wrap ((IntKind.i64.wrap (a0 + a1)) - 1)) a1).bind fun x1 => some x1

theorem c_ref11_Leaves {a0 : Int} {a1 : Int} {r : Int} (h : f_ref11_Leaves a0 a1 = some r) : Ct Try.prog 58 [(Rep.int .i64).at a0, (Rep.int .i64).at a1] [] (fun _ : Unit => (Rep.int .i64).at r) (fun _ => []) := by
  refine Ct.mk Try.func58 rfl Try.ntmps58 (by simp) fun I R => ?_
  refine J.drop0 ?_
  unfold f_ref11_Leaves at h
  refine J_seq ?_
  refine J_region ?_
  refine JLp (T_assign rfl) rfl (nofun) .none ?_
  refine JL_nil ?_
  refine KJ_nrm_then (KJ_J ?_)
  refine J_seq ?_
  refine J_region ?_
  refine JLp (T_move rfl) rfl (nofun) .none ?_
  refine JLp (T_move rfl) rfl (nofun) .none ?_
  refine JLp (T_add rfl rfl) rfl (nofun) .none ?_
  refine JLp (T_sub rfl rfl) rfl (nofun) .none ?_
  refine JLp (T_move rfl) rfl (nofun) .none ?_
  replace h := bnd h; obtain ⟨x1, hx1, h⟩ := h
  refine JLp (T_quoI rfl rfl hx1) rfl (nofun) .none ?_
  refine JLp (T_assign rfl) rfl (nofun) .none ?_
  refine JL_nil ?_
  refine KJ_nrm_then (KJ_J ?_)
  refine J_ret ?_
  obtain rfl := inj h
  exact KJ_ret1' Try.results58 (.tmp (.mk rfl) Rv.nil) rfl rfl
end Go.Proofs.Ytogflgcngfghpaa
end

/- function 71 -/
section
set_option maxHeartbeats 4000000
set_option linter.unusedVariables false
set_option linter.unusedSimpArgs false
namespace Go.Proofs.Ytogflgcngfghpaa
open Go.J
def f_ref11_SameLevels (a0 : List (List Int)) (a1 : List (List Int)) : Option (Bool) :=
  if (!decide ((a0.length : Int) = (a1.length : Int))) = true then some false else (whileF (σ := Int) (ρ := Bool) (fun s2 => if (decide (s2 < (a0.length : Int))) = true then (idx a0 s2).bind fun x10 => (idx a1 s2).bind fun x11 => if (!decide ((x10.length : Int) = (x11.length : Int))) = true then some (Rd.ret false) else (whileF (σ := Int) (ρ := Rd (Int) (Bool)) (fun s13 => (idx a0 s2).bind fun x20 => if (decide (s13 < (x20.length : Int))) = true then (idx a0 s2).bind fun x22 => (idx x22 s13).bind fun x23 => (idx a1 s2).bind fun x24 => (idx x24 s13).bind fun x25 => if (!decide (x23 = x25)) = true then some (Rd.ret (Rd.ret false)) else some (Rd.next (IntKind.i64.wrap (s13 + 1))) else some (Rd.done s13)) bigK 0).bind fun o15 => o15.then fun s13 => some (Rd.next (IntKind.i64.wrap (s2 + 1))) else some (Rd.done s2)) bigK 0).bind fun o4 => o4.then fun s2 => some true

theorem c_ref11_SameLevels {a0 : List (List Int)} {a1 : List (List Int)} {r : Bool} (h : f_ref11_SameLevels a0 a1 = some r) : Ct Try.prog 71 [(Rep.sl (Rep.sl (Rep.int .u64) 1) 1).at a0, (Rep.sl (Rep.sl (Rep.int .u64) 1) 1).at a1] [] (fun _ : Unit => Rep.bool.at r) (fun _ => []) := by
  refine Ct.mk Try.func71 rfl Try.ntmps71 (by simp) fun I R => ?_
  refine J.drop0 ?_
  unfold f_ref11_SameLevels at h
  refine J_seq ?_
  refine J_region ?_
  refine JLp (T_assign rfl) rfl (nofun) .none ?_
  refine JL_nil ?_
  refine KJ_nrm_then (KJ_J ?_)
  refine J_seq ?_
  refine J_seq ?_
  refine J_region ?_
  refine JLp (T_move rfl) rfl (nofun) .none ?_
  refine JLp (T_len (ρ := (Rep.sl (Rep.int .u64) 1)) sl22 (.mk rfl)) rfl (nofun) .none ?_
  refine JLp (T_move rfl) rfl (nofun) .none ?_
  refine JLp (T_len (ρ := (Rep.sl (Rep.int .u64) 1)) sl22 (.mk rfl)) rfl (nofun) .none ?_
  refine JLp (T_neq rfl rfl) rfl (nofun) .none ?_
  refine JL_nil ?_
  refine KJ_nrm_then (KJ_J ?_)
  refine J_test rfl (fun hq1 => ?_) (fun hq1 => ?_)
  · replace h := ift hq1 h
    refine J_seq ?_
    refine J_region ?_
    refine JLp (T_assign rfl) rfl (nofun) .none ?_
    refine JL_nil ?_
    refine KJ_nrm_then (KJ_J ?_)
    refine J_ret ?_
    refine KJ_ret_then ?_
    obtain rfl := inj h
    exact KJ_ret1' Try.results71 (.tmp (.mk rfl) Rv.nil) rfl rfl
  · replace h := iff_ hq1 h
    refine J_skip ?_
    refine KJ_nrm_then (KJ_J ?_)
    refine J_seq ?_
    refine J_seq ?_
    refine J_region ?_
    refine JLp (T_assign rfl) rfl (nofun) .none ?_
    refine JL_nil ?_
    refine KJ_nrm_then (KJ_J ?_)
    replace h := bnd h; obtain ⟨o4, ho5, h⟩ := h
    refine J_cuto o4 (fun (s2 : Int) (g3 : Unit) => []) (fun s2 g3 => R) ?_ ?_
    · refine J_block ?_
      refine J_while ho5 (fun (s2 : Int) (g3 : Unit) => [(0, (Rep.sl (Rep.sl (Rep.int .u64) 1) 1).at a0), (1, (Rep.sl (Rep.sl (Rep.int .u64) 1) 1).at a1), (5, (Rep.int .i64).at s2)]) (fun s2 g3 => R) () (.cons rfl (.cons rfl (.cons rfl (.nil _)))) rfl ?_
      intro s2 g3 st8 hb6 hf7
      refine J_seq ?_
      refine J_seq ?_
      refine J_region ?_
      refine JLp (T_move rfl) rfl (nofun) .none ?_
      refine JLp (T_move rfl) rfl (nofun) .none ?_
      refine JLp (T_len (ρ := (Rep.sl (Rep.int .u64) 1)) sl22 (.mk rfl)) rfl (nofun) .none ?_
      refine JLp (T_lss rfl rfl) rfl (nofun) .none ?_
      refine JL_nil ?_
      refine KJ_nrm_then (KJ_J ?_)
      refine J_test rfl (fun hq9 => ?_) (fun hq9 => ?_)
      · replace hb6 := ift hq9 hb6
        refine J_skip ?_
        refine KJ_nrm_then (KJ_J ?_)
        refine J_seq ?_
        refine J_block ?_
        refine J_seq ?_
        refine J_seq ?_
        replace hb6 := bnd hb6; obtain ⟨x10, hx10, hb6⟩ := hb6
        replace hb6 := bnd hb6; obtain ⟨x11, hx11, hb6⟩ := hb6
        refine J_drawR (Ks := []) rfl (by kernel_rfl) fun K hK => ?_
        refine DR.p (.base (t := 0) rfl .nil) (T_move rfl) .none rfl rfl (nofun) ?_
        refine DR.p (.base (t := 5) rfl .nil) (T_move rfl) .none rfl rfl (nofun) ?_
        refine DR.p (.dep 0 1 rfl rfl rfl (.dep 1 0 rfl rfl rfl .nil)) (T_ix sl22 (.mk rfl) rfl hx10) .none rfl rfl (nofun) ?_
        refine DR.p (.dep 2 0 rfl rfl rfl .nil) (T_load ty67 rfl) .none rfl rfl (nofun) ?_
        refine DR.p (.dep 3 0 rfl rfl rfl .nil) (T_len (ρ := (Rep.int .u64)) sl67 (.mk rfl)) .none rfl rfl (nofun) ?_
        refine DR.p (.base (t := 1) rfl .nil) (T_move rfl) .none rfl rfl (nofun) ?_
        refine DR.p (.base (t := 5) rfl .nil) (T_move rfl) .none rfl rfl (nofun) ?_
        refine DR.p (.dep 5 1 rfl rfl rfl (.dep 6 0 rfl rfl rfl .nil)) (T_ix sl22 (.mk rfl) rfl hx11) .none rfl rfl (nofun) ?_
        refine DR.p (.dep 7 0 rfl rfl rfl .nil) (T_load ty67 rfl) .none rfl rfl (nofun) ?_
        refine DR.p (.dep 8 0 rfl rfl rfl .nil) (T_len (ρ := (Rep.int .u64)) sl67 (.mk rfl)) .none rfl rfl (nofun) ?_
        refine DR.tail (by kernel_rfl) (.refl _) rfl ?_
        simp only [List.reverse_cons, List.reverse_nil, List.nil_append, List.cons_append, DT]
        refine JLp (T_neq rfl rfl) rfl (nofun) .none ?_
        refine JL_nil (KJ_hid hK ?_)
        refine KJ_nrm_then (KJ_J ?_)
        refine J_test rfl (fun hq12 => ?_) (fun hq12 => ?_)
        · replace hb6 := ift hq12 hb6
          refine J_seq ?_
          refine J_region ?_
          refine JLp (T_assign rfl) rfl (nofun) .none ?_
          refine JL_nil ?_
          refine KJ_nrm_then (KJ_J ?_)
          refine J_ret ?_
          refine KJ_ret_then ?_
          refine KJ_ret_blk ?_
          refine KJ_ret_then ?_
          refine KJ_ret_then ?_
          refine KJ_ret_blk ?_
          refine KJ_ret_kq ?_
          refine KJ_ret_then ?_
          obtain rfl := inj hb6
          have hf7' := hf7
          obtain rfl : o4 = _ := hf7'
          replace h : some _ = some _ := h
          obtain rfl := inj h
          exact KJ_ret1' Try.results71 (.tmp (.mk rfl) Rv.nil) rfl rfl
        · replace hb6 := iff_ hq12 hb6
          refine J_skip ?_
          refine KJ_nrm_then (KJ_J ?_)
          refine J_seq ?_
          refine J_region ?_
          refine JLp (T_assign rfl) rfl (nofun) .none ?_
          refine JL_nil ?_
          refine KJ_nrm_then (KJ_J ?_)
          replace hb6 := bnd hb6; obtain ⟨o15, ho16, hb6⟩ := hb6
          refine J_cuto o15 (fun (s13 : Int) (g14 : Unit) => [(0, (Rep.sl (Rep.sl (Rep.int .u64) 1) 1).at a0), (1, (Rep.sl (Rep.sl (Rep.int .u64) 1) 1).at a1), (5, (Rep.int .i64).at s2)]) (fun s13 g14 => R) ?_ ?_
          · refine J_block ?_
            refine J_while ho16 (fun (s13 : Int) (g14 : Unit) => [(0, (Rep.sl (Rep.sl (Rep.int .u64) 1) 1).at a0), (1, (Rep.sl (Rep.sl (Rep.int .u64) 1) 1).at a1), (5, (Rep.int .i64).at s2), (6, (Rep.int .i64).at s13)]) (fun s13 g14 => R) () (.cons rfl (.cons rfl (.cons rfl (.cons rfl (.nil _))))) rfl ?_
            intro s13 g14 st19 hb17 hf18
            refine J_seq ?_
            refine J_seq ?_
            refine J_region ?_
            refine JLp (T_move rfl) rfl (nofun) .none ?_
            refine JLp (T_move rfl) rfl (nofun) .none ?_
            refine JLp (T_move rfl) rfl (nofun) .none ?_
            replace hb17 := bnd hb17; obtain ⟨x20, hx20, hb17⟩ := hb17
            refine JLp (T_ix sl22 (.mk rfl) rfl hx20) rfl (nofun) .none ?_
            refine JLp (T_load ty67 rfl) rfl (nofun) .none ?_
            refine JLp (T_len (ρ := (Rep.int .u64)) sl67 (.mk rfl)) rfl (nofun) .none ?_
            refine JLp (T_lss rfl rfl) rfl (nofun) .none ?_
            refine JL_nil ?_
            refine KJ_nrm_then (KJ_J ?_)
            refine J_test rfl (fun hq21 => ?_) (fun hq21 => ?_)
            · replace hb17 := ift hq21 hb17
              refine J_skip ?_
              refine KJ_nrm_then (KJ_J ?_)
              refine J_seq ?_
              refine J_block ?_
              refine J_seq ?_
              replace hb17 := bnd hb17; obtain ⟨x22, hx22, hb17⟩ := hb17
              replace hb17 := bnd hb17; obtain ⟨x23, hx23, hb17⟩ := hb17
              replace hb17 := bnd hb17; obtain ⟨x24, hx24, hb17⟩ := hb17
              replace hb17 := bnd hb17; obtain ⟨x25, hx25, hb17⟩ := hb17
              refine J_drawR (Ks := []) rfl (by kernel_rfl) fun K hK => ?_
              refine DR.p (.base (t := 0) rfl .nil) (T_move rfl) .none rfl rfl (nofun) ?_
              refine DR.p (.base (t := 5) rfl .nil) (T_move rfl) .none rfl rfl (nofun) ?_
              refine DR.p (.dep 0 1 rfl rfl rfl (.dep 1 0 rfl rfl rfl .nil)) (T_ix sl22 (.mk rfl) rfl hx22) .none rfl rfl (nofun) ?_
              refine DR.p (.dep 2 0 rfl rfl rfl .nil) (T_load ty67 rfl) .none rfl rfl (nofun) ?_
              refine DR.p (.base (t := 6) rfl .nil) (T_move rfl) .none rfl rfl (nofun) ?_
              refine DR.p (.dep 3 1 rfl rfl rfl (.dep 4 0 rfl rfl rfl .nil)) (T_ix sl67 (.mk rfl) rfl hx23) .none rfl rfl (nofun) ?_
              refine DR.p (.dep 5 0 rfl rfl rfl .nil) (T_load ty73 rfl) .none rfl rfl (nofun) ?_
              refine DR.p (.base (t := 1) rfl .nil) (T_move rfl) .none rfl rfl (nofun) ?_
              refine DR.p (.base (t := 5) rfl .nil) (T_move rfl) .none rfl rfl (nofun) ?_
              refine DR.p (.dep 7 1 rfl rfl rfl (.dep 8 0 rfl rfl rfl .nil)) (T_ix sl22 (.mk rfl) rfl hx24) .none rfl rfl (nofun) ?_
              refine DR.p (.dep 9 0 rfl rfl rfl .nil) (T_load ty67 rfl) .none rfl rfl (nofun) ?_
              refine DR.p (.base (t := 6) rfl .nil) (T_move rfl) .none rfl rfl (nofun) ?_
              refine DR.p (.dep 10 1 rfl rfl rfl (.dep 11 0 rfl rfl rfl .nil)) (T_ix sl67 (.mk rfl) rfl hx25) .none rfl rfl (nofun) ?_
              refine DR.p (.dep 12 0 rfl rfl rfl .nil) (T_load ty73 rfl) .none rfl rfl (nofun) ?_
              refine DR.tail (by kernel_rfl) (.refl _) rfl ?_
              simp only [List.reverse_cons, List.reverse_nil, List.nil_append, List.cons_append, DT]
              refine JLp (T_neq rfl rfl) rfl (nofun) .none ?_
              refine JL_nil (KJ_hid hK ?_)
              refine KJ_nrm_then (KJ_J ?_)
              refine J_test rfl (fun hq26 => ?_) (fun hq26 => ?_)
              · replace hb17 := ift hq26 hb17
                refine J_seq ?_
                refine J_region ?_
                refine JLp (T_assign rfl) rfl (nofun) .none ?_
                refine JL_nil ?_
                refine KJ_nrm_then (KJ_J ?_)
                refine J_ret ?_
                refine KJ_ret_blk ?_
                refine KJ_ret_then ?_
                refine KJ_ret_then ?_
                refine KJ_ret_blk ?_
                refine KJ_ret_kq ?_
                refine KJ_ret_blk ?_
                refine KJ_ret_then ?_
                refine KJ_ret_then ?_
                refine KJ_ret_blk ?_
                refine KJ_ret_kq ?_
                refine KJ_ret_then ?_
                obtain rfl := inj hb17
                have hf18' := hf18
                obtain rfl : o15 = _ := hf18'
                replace hb6 : some _ = some _ := hb6
                obtain rfl := inj hb6
                have hf7' := hf7
                obtain rfl : o4 = _ := hf7'
                replace h : some _ = some _ := h
                obtain rfl := inj h
                exact KJ_ret1' Try.results71 (.tmp (.mk rfl) Rv.nil) rfl rfl
              · replace hb17 := iff_ hq26 hb17
                refine J_skip ?_
                refine KJ_nrm_blk ?_
                refine KJ_nrm_then (KJ_J ?_)
                refine J_region ?_
                refine JLp (T_move rfl) rfl (nofun) .none ?_
                refine JLp (T_add rfl rfl) rfl (nofun) .none ?_
                refine JLp (T_assign rfl) rfl (nofun) .none ?_
                refine JL_nil ?_
                refine KJ_nrm_then ?_
                exact KJ_nx (IntKind.i64.wrap (s13 + 1)) () (inj hb17) (.cons rfl (.cons rfl (.cons rfl (.cons rfl (.nil _))))) rfl
            · replace hb17 := iff_ hq21 hb17
              refine J_exit ?_
              refine KJ_exit_then ?_
              refine KJ_exit_then ?_
              refine KJ_exit_here ?_
              refine KJ_nrm_kq ?_
              obtain rfl := inj hb17
              exact KJ_ot s13 () hf18 (.cons rfl (.cons rfl (.cons rfl (.nil _)))) rfl
          · intro s13 g14 hs
            subst hs
            replace hb6 := thn hb6
            refine KJ_nrm_blk ?_
            refine KJ_nrm_then (KJ_J ?_)
            refine J_region ?_
            refine JLp (T_move rfl) rfl (nofun) .none ?_
            refine JLp (T_add rfl rfl) rfl (nofun) .none ?_
            refine JLp (T_assign rfl) rfl (nofun) .none ?_
            refine JL_nil ?_
            refine KJ_nrm_then ?_
            exact KJ_nx (IntKind.i64.wrap (s2 + 1)) () (inj hb6) (.cons rfl (.cons rfl (.cons rfl (.nil _)))) rfl
      · replace hb6 := iff_ hq9 hb6
        refine J_exit ?_
        refine KJ_exit_then ?_
        refine KJ_exit_then ?_
        refine KJ_exit_here ?_
        refine KJ_nrm_kq ?_
        obtain rfl := inj hb6
        exact KJ_ot s2 () hf7 (.nil _) rfl
    · intro s2 g3 hs
      subst hs
      replace h := thn h
      refine KJ_nrm_then (KJ_J ?_)
      refine J_seq ?_
      refine J_region ?_
      refine JLp (T_assign rfl) rfl (nofun) .none ?_
      refine JL_nil ?_
      refine KJ_nrm_then (KJ_J ?_)
      refine J_ret ?_
      obtain rfl := inj h
      exact KJ_ret1' Try.results71 (.tmp (.mk rfl) Rv.nil) rfl rfl
end Go.Proofs.Ytogflgcngfghpaa
end

/- function 38 -/
section
set_option maxHeartbeats 4000000
set_option linter.unusedVariables false
set_option linter.unusedSimpArgs false
namespace Go.Proofs.Ytogflgcngfghpaa
open Go.J
def f_ref11_Check (a0 : api_Tree) : Option (Int) :=
  (if (decide (a0.Size < 1)) = true then some true else some (decide (4096 < a0.Size))).bind fun c1 => if c1 = true then some 2 else (if (decide (a0.Leaf < 1)) = true then some true else some (decide (4096 < a0.Leaf))).bind fun c4 => if c4 = true then some 1 else (f_ref11_Leaves a0.Size a0.Leaf).bind fun x7 => (whileF (σ := Int × Int) (ρ := Int) (fun s8 => if (decide (s8.2 < (a0.Levels.length : Int))) = true then (idx a0.Levels s8.2).bind fun x16 => (if (!decide ((x16.length : Int) = s8.1)) = true then some true else (if (decide (0 < s8.2)) = true then (idx a0.Levels (IntKind.i64.wrap (s8.2 - 1))).bind fun x21 => some (decide ((x21.length : Int) = 1)) else some false).bind fun c19 => some c19).bind fun c17 => if c17 = true then some (Rd.ret 3) else some (Rd.next (IntKind.i64.wrap (Int.tdiv (IntKind.i64.wrap (s8.1 + 1)) 2), IntKind.i64.wrap (s8.2 + 1))) else some (Rd.done (s8.1, s8.2))) bigK (x7, 0)).bind fun o10 => o10.then fun s8 => (if (decide ((a0.Levels.length : Int) = 0)) = true then some true else (idx a0.Levels (IntKind.i64.wrap ((a0.Levels.length : Int) - 1))).bind fun x25 => some (!decide ((x25.length : Int) = 1))).bind fun c23 => if c23 = true then some 3 else (idx a0.Levels 0).bind fun x27 => (f_ref11_tree a0.Size a0.Leaf x27).bind fun x28 => (f_ref11_SameLevels x28.Levels a0.Levels).bind fun x29 => if (!x29) = true then some 22 else some 0

theorem c_ref11_Check {a0 : api_Tree} {r : Int} (h : f_ref11_Check a0 = some r) : Ct Try.prog 38 [r_api_Tree.at a0] [] (fun _ : Unit => (Rep.int .i64).at r) (fun _ => []) := by
  refine Ct.mk Try.func38 rfl Try.ntmps38 (by simp) fun I R => ?_
  refine J.drop0 ?_
  unfold f_ref11_Check at h
  refine J_seq ?_
  refine J_region ?_
  refine JLe0 (T_box (ρ := r_api_Tree) (.mk rfl)) rfl .none ?_
  refine JLp (T_assign rfl) rfl (nofun) .none ?_
  refine JL_nil ?_
  refine KJ_nrm_then (KJ_J ?_)
  refine J_seq ?_
  refine J_seq ?_
  refine J_region ?_
  refine JLp (T_faddri fo24_0 rfl hf_api_Tree_Size) rfl (nofun) .none ?_
  refine JLp (T_load ty3 rfl) rfl (nofun) .none ?_
  refine JLp (T_lss rfl rfl) rfl (nofun) .none ?_
  refine JLp (T_move rfl) rfl (nofun) .none ?_
  replace h := bnd h; obtain ⟨c1, hc1, h⟩ := h
  refine JL_at 4 [(1, (Rep.iptr r_api_Tree).at a0), (12, Rep.bool.at c1)] (R) ?_ ?_
  · rcases Bool.eq_false_or_eq_true (decide (a0.Size < 1)) with hq2 | hq2
    · replace hc1 := ift hq2 hc1
      obtain rfl := inj hc1
      refine JLs rfl rfl hq2 rfl ?_
      refine JLs rfl rfl hq2 rfl ?_
      refine JLs rfl rfl hq2 rfl ?_
      refine JLp (T_pickT rfl hq2 rfl) rfl (nofun) .none ?_
      refine JL_nil ?_
      exact KJ.sub KJ_end (.cons rfl (.cons rfl (.nil _)))
    · replace hc1 := iff_ hq2 hc1
      refine JLp (T_faddri fo24_0 rfl hf_api_Tree_Size) rfl (nofun) (.y rfl rfl hq2) ?_
      refine JLp (T_load ty3 rfl) rfl (nofun) (.y rfl rfl hq2) ?_
      refine JLp (T_gtr rfl rfl) rfl (nofun) (.y rfl rfl hq2) ?_
      obtain rfl := inj hc1
      refine JLp (T_pickF rfl hq2 rfl) rfl (nofun) .none ?_
      refine JL_nil ?_
      exact KJ.sub KJ_end (.cons rfl (.cons rfl (.nil _)))
  refine JL_nil ?_
  refine KJ_nrm_then (KJ_J ?_)
  refine J_test rfl (fun hq3 => ?_) (fun hq3 => ?_)
  · replace h := ift hq3 h
    refine J_seq ?_
    refine J_region ?_
    refine JLp (T_assign rfl) rfl (nofun) .none ?_
    refine JL_nil ?_
    refine KJ_nrm_then (KJ_J ?_)
    refine J_ret ?_
    refine KJ_ret_then ?_
    obtain rfl := inj h
    exact KJ_ret1' Try.results38 (.tmp (.mk rfl) Rv.nil) rfl rfl
  · replace h := iff_ hq3 h
    refine J_skip ?_
    refine KJ_nrm_then (KJ_J ?_)
    refine J_seq ?_
    refine J_seq ?_
    refine J_region ?_
    refine JLp (T_faddri fo24_1 rfl hf_api_Tree_Leaf) rfl (nofun) .none ?_
    refine JLp (T_load ty3 rfl) rfl (nofun) .none ?_
    refine JLp (T_lss rfl rfl) rfl (nofun) .none ?_
    refine JLp (T_move rfl) rfl (nofun) .none ?_
    replace h := bnd h; obtain ⟨c4, hc4, h⟩ := h
    refine JL_at 4 [(1, (Rep.iptr r_api_Tree).at a0), (20, Rep.bool.at c4)] (R) ?_ ?_
    · rcases Bool.eq_false_or_eq_true (decide (a0.Leaf < 1)) with hq5 | hq5
      · replace hc4 := ift hq5 hc4
        obtain rfl := inj hc4
        refine JLs rfl rfl hq5 rfl ?_
        refine JLs rfl rfl hq5 rfl ?_
        refine JLs rfl rfl hq5 rfl ?_
        refine JLp (T_pickT rfl hq5 rfl) rfl (nofun) .none ?_
        refine JL_nil ?_
        exact KJ.sub KJ_end (.cons rfl (.cons rfl (.nil _)))
      · replace hc4 := iff_ hq5 hc4
        refine JLp (T_faddri fo24_1 rfl hf_api_Tree_Leaf) rfl (nofun) (.y rfl rfl hq5) ?_
        refine JLp (T_load ty3 rfl) rfl (nofun) (.y rfl rfl hq5) ?_
        refine JLp (T_gtr rfl rfl) rfl (nofun) (.y rfl rfl hq5) ?_
        obtain rfl := inj hc4
        refine JLp (T_pickF rfl hq5 rfl) rfl (nofun) .none ?_
        refine JL_nil ?_
        exact KJ.sub KJ_end (.cons rfl (.cons rfl (.nil _)))
    refine JL_nil ?_
    refine KJ_nrm_then (KJ_J ?_)
    refine J_test rfl (fun hq6 => ?_) (fun hq6 => ?_)
    · replace h := ift hq6 h
      refine J_seq ?_
      refine J_region ?_
      refine JLp (T_assign rfl) rfl (nofun) .none ?_
      refine JL_nil ?_
      refine KJ_nrm_then (KJ_J ?_)
      refine J_ret ?_
      refine KJ_ret_then ?_
      obtain rfl := inj h
      exact KJ_ret1' Try.results38 (.tmp (.mk rfl) Rv.nil) rfl rfl
    · replace h := iff_ hq6 h
      refine J_skip ?_
      refine KJ_nrm_then (KJ_J ?_)
      refine J_seq ?_
      refine J_region ?_
      refine JLp (T_faddri fo24_0 rfl hf_api_Tree_Size) rfl (nofun) .none ?_
      refine JLp (T_load ty3 rfl) rfl (nofun) .none ?_
      refine JLp (T_faddri fo24_1 rfl hf_api_Tree_Leaf) rfl (nofun) .none ?_
      refine JLp (T_load ty3 rfl) rfl (nofun) .none ?_
      replace h := bnd h; obtain ⟨x7, hx7, h⟩ := h
      refine JLe0 (T_call ⟨_, Try.func58, rfl, rfl⟩ (c_ref11_Leaves hx7) ⟨(.mk rfl), ⟨(.mk rfl), trivial⟩⟩) rfl .none ?_
      refine JLp (T_assign rfl) rfl (nofun) .none ?_
      refine JL_nil ?_
      refine KJ_nrm_then (KJ_J ?_)
      refine J_seq ?_
      refine J_seq ?_
      refine J_region ?_
      refine JLp (T_assign rfl) rfl (nofun) .none ?_
      refine JL_nil ?_
      refine KJ_nrm_then (KJ_J ?_)
      replace h := bnd h; obtain ⟨o10, ho11, h⟩ := h
      refine J_cuto o10 (fun (s8 : Int × Int) (g9 : Unit) => [(1, (Rep.iptr r_api_Tree).at a0)]) (fun s8 g9 => R) ?_ ?_
      · refine J_block ?_
        refine J_while ho11 (fun (s8 : Int × Int) (g9 : Unit) => [(1, (Rep.iptr r_api_Tree).at a0), (3, (Rep.int .i64).at s8.1), (4, (Rep.int .i64).at s8.2)]) (fun s8 g9 => R) () (.cons rfl (.cons rfl (.cons rfl (.nil _)))) rfl ?_
        intro s8 g9 st14 hb12 hf13
        refine J_seq ?_
        refine J_seq ?_
        refine J_region ?_
        refine JLp (T_move rfl) rfl (nofun) .none ?_
        refine JLp (T_faddri fo24_2 rfl hf_api_Tree_Levels) rfl (nofun) .none ?_
        refine JLp (T_load ty22 rfl) rfl (nofun) .none ?_
        refine JLp (T_len (ρ := (Rep.sl (Rep.int .u64) 1)) sl22 (.mk rfl)) rfl (nofun) .none ?_
        refine JLp (T_lss rfl rfl) rfl (nofun) .none ?_
        refine JL_nil ?_
        refine KJ_nrm_then (KJ_J ?_)
        refine J_test rfl (fun hq15 => ?_) (fun hq15 => ?_)
        · replace hb12 := ift hq15 hb12
          refine J_skip ?_
          refine KJ_nrm_then (KJ_J ?_)
          refine J_seq ?_
          refine J_block ?_
          refine J_seq ?_
          refine J_seq ?_
          refine J_region ?_
          refine JLp (T_faddri fo24_2 rfl hf_api_Tree_Levels) rfl (nofun) .none ?_
          refine JLp (T_load ty22 rfl) rfl (nofun) .none ?_
          refine JLp (T_move rfl) rfl (nofun) .none ?_
          replace hb12 := bnd hb12; obtain ⟨x16, hx16, hb12⟩ := hb12
          refine JLp (T_ix sl22 (.mk rfl) rfl hx16) rfl (nofun) .none ?_
          refine JLp (T_load ty67 rfl) rfl (nofun) .none ?_
          refine JLp (T_len (ρ := (Rep.int .u64)) sl67 (.mk rfl)) rfl (nofun) .none ?_
          refine JLp (T_move rfl) rfl (nofun) .none ?_
          refine JLp (T_neq rfl rfl) rfl (nofun) .none ?_
          refine JLp (T_move rfl) rfl (nofun) .none ?_
          replace hb12 := bnd hb12; obtain ⟨c17, hc17, hb12⟩ := hb12
          refine JL_at 13 [(1, (Rep.iptr r_api_Tree).at a0), (3, (Rep.int .i64).at s8.1), (4, (Rep.int .i64).at s8.2), (54, Rep.bool.at c17)] (R) ?_ ?_
          · rcases Bool.eq_false_or_eq_true (!decide ((x16.length : Int) = s8.1)) with hq18 | hq18
            · replace hc17 := ift hq18 hc17
              obtain rfl := inj hc17
              refine JLs rfl rfl hq18 rfl ?_
              refine JLs rfl rfl hq18 rfl ?_
              refine JLs rfl rfl hq18 rfl ?_
              refine JLu rfl rfl rfl ?_
              refine JLu rfl rfl rfl ?_
              refine JLu rfl rfl rfl ?_
              refine JLu rfl rfl rfl ?_
              refine JLu rfl rfl rfl ?_
              refine JLu rfl rfl rfl ?_
              refine JLu rfl rfl rfl ?_
              refine JLu rfl rfl rfl ?_
              refine JLs rfl rfl hq18 rfl ?_
              refine JLp (T_pickT rfl hq18 rfl) rfl (nofun) .none ?_
              refine JL_nil ?_
              exact KJ.sub KJ_end (.cons rfl (.cons rfl (.cons rfl (.cons rfl (.nil _)))))
            · replace hc17 := iff_ hq18 hc17
              refine JLp (T_move rfl) rfl (nofun) (.y rfl rfl hq18) ?_
              refine JLp (T_gtr rfl rfl) rfl (nofun) (.y rfl rfl hq18) ?_
              refine JLp (T_move rfl) rfl (nofun) (.y rfl rfl hq18) ?_
              replace hc17 := bnd hc17; obtain ⟨c19, hc19, hc17⟩ := hc17
              refine JL_at 9 [(1, (Rep.iptr r_api_Tree).at a0), (3, (Rep.int .i64).at s8.1), (4, (Rep.int .i64).at s8.2), (41, Rep.bool.at (!decide ((x16.length : Int) = s8.1))), (53, Rep.bool.at c19)] (R) ?_ ?_
              · rcases Bool.eq_false_or_eq_true (decide (0 < s8.2)) with hq20 | hq20
                · replace hc19 := ift hq20 hc19
                  refine JLp (T_faddri fo24_2 rfl hf_api_Tree_Levels) rfl (nofun) (.y rfl rfl hq20) ?_
                  refine JLp (T_load ty22 rfl) rfl (nofun) (.y rfl rfl hq20) ?_
                  refine JLp (T_move rfl) rfl (nofun) (.y rfl rfl hq20) ?_
                  refine JLp (T_sub rfl rfl) rfl (nofun) (.y rfl rfl hq20) ?_
                  replace hc19 := bnd hc19; obtain ⟨x21, hx21, hc19⟩ := hc19
                  refine JLp (T_ix sl22 (.mk rfl) rfl hx21) rfl (nofun) (.y rfl rfl hq20) ?_
                  refine JLp (T_load ty67 rfl) rfl (nofun) (.y rfl rfl hq20) ?_
                  refine JLp (T_len (ρ := (Rep.int .u64)) sl67 (.mk rfl)) rfl (nofun) (.y rfl rfl hq20) ?_
                  refine JLp (T_eql rfl rfl) rfl (nofun) (.y rfl rfl hq20) ?_
                  obtain rfl := inj hc19
                  refine JLp (T_pickT rfl hq20 rfl) rfl (nofun) (.y rfl rfl hq18) ?_
                  refine JL_nil ?_
                  exact KJ.sub KJ_end (.cons rfl (.cons rfl (.cons rfl (.cons rfl (.cons rfl (.nil _))))))
                · replace hc19 := iff_ hq20 hc19
                  obtain rfl := inj hc19
                  refine JLs rfl rfl hq20 rfl ?_
                  refine JLs rfl rfl hq20 rfl ?_
                  refine JLs rfl rfl hq20 rfl ?_
                  refine JLs rfl rfl hq20 rfl ?_
                  refine JLs rfl rfl hq20 rfl ?_
                  refine JLs rfl rfl hq20 rfl ?_
                  refine JLs rfl rfl hq20 rfl ?_
                  refine JLs rfl rfl hq20 rfl ?_
                  refine JLp (T_pickF rfl hq20 rfl) rfl (nofun) (.y rfl rfl hq18) ?_
                  refine JL_nil ?_
                  exact KJ.sub KJ_end (.cons rfl (.cons rfl (.cons rfl (.cons rfl (.cons rfl (.nil _))))))
              obtain rfl := inj hc17
              refine JLp (T_pickF rfl hq18 rfl) rfl (nofun) .none ?_
              refine JL_nil ?_
              exact KJ.sub KJ_end (.cons rfl (.cons rfl (.cons rfl (.cons rfl (.nil _)))))
          refine JL_nil ?_
          refine KJ_nrm_then (KJ_J ?_)
          refine J_test rfl (fun hq22 => ?_) (fun hq22 => ?_)
          · replace hb12 := ift hq22 hb12
            refine J_seq ?_
            refine J_region ?_
            refine JLp (T_assign rfl) rfl (nofun) .none ?_
            refine JL_nil ?_
            refine KJ_nrm_then (KJ_J ?_)
            refine J_ret ?_
            refine KJ_ret_then ?_
            refine KJ_ret_blk ?_
            refine KJ_ret_then ?_
            refine KJ_ret_then ?_
            refine KJ_ret_blk ?_
            refine KJ_ret_kq ?_
            refine KJ_ret_then ?_
            obtain rfl := inj hb12
            have hf13' := hf13
            obtain rfl : o10 = _ := hf13'
            replace h : some _ = some _ := h
            obtain rfl := inj h
            exact KJ_ret1' Try.results38 (.tmp (.mk rfl) Rv.nil) rfl rfl
          · replace hb12 := iff_ hq22 hb12
            refine J_skip ?_
            refine KJ_nrm_then (KJ_J ?_)
            refine J_region ?_
            refine JLp (T_move rfl) rfl (nofun) .none ?_
            refine JLp (T_add rfl rfl) rfl (nofun) .none ?_
            refine JLp (T_quo rfl rfl (by decide)) rfl (nofun) .none ?_
            refine JLp (T_assign rfl) rfl (nofun) .none ?_
            refine JL_nil ?_
            refine KJ_nrm_blk ?_
            refine KJ_nrm_then (KJ_J ?_)
            refine J_region ?_
            refine JLp (T_move rfl) rfl (nofun) .none ?_
            refine JLp (T_add rfl rfl) rfl (nofun) .none ?_
            refine JLp (T_assign rfl) rfl (nofun) .none ?_
            refine JL_nil ?_
            refine KJ_nrm_then ?_
            exact KJ_nx (IntKind.i64.wrap (Int.tdiv (IntKind.i64.wrap (s8.1 + 1)) 2), IntKind.i64.wrap (s8.2 + 1)) () (inj hb12) (.cons rfl (.cons rfl (.cons rfl (.nil _)))) rfl
        · replace hb12 := iff_ hq15 hb12
          refine J_exit ?_
          refine KJ_exit_then ?_
          refine KJ_exit_then ?_
          refine KJ_exit_here ?_
          refine KJ_nrm_kq ?_
          obtain rfl := inj hb12
          exact KJ_ot (s8.1, s8.2) () hf13 (.cons rfl (.nil _)) rfl
      · intro s8 g9 hs
        subst hs
        replace h := thn h
        refine KJ_nrm_then (KJ_J ?_)
        refine J_seq ?_
        refine J_seq ?_
        refine J_region ?_
        refine JLp (T_faddri fo24_2 rfl hf_api_Tree_Levels) rfl (nofun) .none ?_
        refine JLp (T_load ty22 rfl) rfl (nofun) .none ?_
        refine JLp (T_len (ρ := (Rep.sl (Rep.int .u64) 1)) sl22 (.mk rfl)) rfl (nofun) .none ?_
        refine JLp (T_eql rfl rfl) rfl (nofun) .none ?_
        refine JLp (T_move rfl) rfl (nofun) .none ?_
        replace h := bnd h; obtain ⟨c23, hc23, h⟩ := h
        refine JL_at 11 [(1, (Rep.iptr r_api_Tree).at a0), (73, Rep.bool.at c23)] (R) ?_ ?_
        · rcases Bool.eq_false_or_eq_true (decide ((a0.Levels.length : Int) = 0)) with hq24 | hq24
          · replace hc23 := ift hq24 hc23
            obtain rfl := inj hc23
            refine JLs rfl rfl hq24 rfl ?_
            refine JLs rfl rfl hq24 rfl ?_
            refine JLs rfl rfl hq24 rfl ?_
            refine JLs rfl rfl hq24 rfl ?_
            refine JLs rfl rfl hq24 rfl ?_
            refine JLs rfl rfl hq24 rfl ?_
            refine JLs rfl rfl hq24 rfl ?_
            refine JLs rfl rfl hq24 rfl ?_
            refine JLs rfl rfl hq24 rfl ?_
            refine JLs rfl rfl hq24 rfl ?_
            refine JLp (T_pickT rfl hq24 rfl) rfl (nofun) .none ?_
            refine JL_nil ?_
            exact KJ.sub KJ_end (.cons rfl (.cons rfl (.nil _)))
          · replace hc23 := iff_ hq24 hc23
            refine JLp (T_faddri fo24_2 rfl hf_api_Tree_Levels) rfl (nofun) (.y rfl rfl hq24) ?_
            refine JLp (T_load ty22 rfl) rfl (nofun) (.y rfl rfl hq24) ?_
            refine JLp (T_faddri fo24_2 rfl hf_api_Tree_Levels) rfl (nofun) (.y rfl rfl hq24) ?_
            refine JLp (T_load ty22 rfl) rfl (nofun) (.y rfl rfl hq24) ?_
            refine JLp (T_len (ρ := (Rep.sl (Rep.int .u64) 1)) sl22 (.mk rfl)) rfl (nofun) (.y rfl rfl hq24) ?_
            refine JLp (T_sub rfl rfl) rfl (nofun) (.y rfl rfl hq24) ?_
            replace hc23 := bnd hc23; obtain ⟨x25, hx25, hc23⟩ := hc23
            refine JLp (T_ix sl22 (.mk rfl) rfl hx25) rfl (nofun) (.y rfl rfl hq24) ?_
            refine JLp (T_load ty67 rfl) rfl (nofun) (.y rfl rfl hq24) ?_
            refine JLp (T_len (ρ := (Rep.int .u64)) sl67 (.mk rfl)) rfl (nofun) (.y rfl rfl hq24) ?_
            refine JLp (T_neq rfl rfl) rfl (nofun) (.y rfl rfl hq24) ?_
            obtain rfl := inj hc23
            refine JLp (T_pickF rfl hq24 rfl) rfl (nofun) .none ?_
            refine JL_nil ?_
            exact KJ.sub KJ_end (.cons rfl (.cons rfl (.nil _)))
        refine JL_nil ?_
        refine KJ_nrm_then (KJ_J ?_)
        refine J_test rfl (fun hq26 => ?_) (fun hq26 => ?_)
        · replace h := ift hq26 h
          refine J_seq ?_
          refine J_region ?_
          refine JLp (T_assign rfl) rfl (nofun) .none ?_
          refine JL_nil ?_
          refine KJ_nrm_then (KJ_J ?_)
          refine J_ret ?_
          refine KJ_ret_then ?_
          obtain rfl := inj h
          exact KJ_ret1' Try.results38 (.tmp (.mk rfl) Rv.nil) rfl rfl
        · replace h := iff_ hq26 h
          refine J_skip ?_
          refine KJ_nrm_then (KJ_J ?_)
          refine J_seq ?_
          refine J_seq ?_
          replace h := bnd h; obtain ⟨x27, hx27, h⟩ := h
          replace h := bnd h; obtain ⟨x28, hx28, h⟩ := h
          refine J_drawR (Ks := []) rfl (by kernel_rfl) fun K hK => ?_
          refine DR.p (.base (t := 1) rfl .nil) (T_faddri fo24_0 rfl hf_api_Tree_Size) .none rfl rfl (nofun) ?_
          refine DR.p (.dep 0 0 rfl rfl rfl .nil) (T_load ty3 rfl) .none rfl rfl (nofun) ?_
          refine DR.p (.base (t := 1) rfl .nil) (T_faddri fo24_1 rfl hf_api_Tree_Leaf) .none rfl rfl (nofun) ?_
          refine DR.p (.dep 2 0 rfl rfl rfl .nil) (T_load ty3 rfl) .none rfl rfl (nofun) ?_
          refine DR.p (.base (t := 1) rfl .nil) (T_faddri fo24_2 rfl hf_api_Tree_Levels) .none rfl rfl (nofun) ?_
          refine DR.p (.dep 4 0 rfl rfl rfl .nil) (T_load ty22 rfl) .none rfl rfl (nofun) ?_
          refine DR.p (.dep 5 0 rfl rfl rfl .nil) (T_ix sl22 (.mk rfl) rfl hx27) .none rfl rfl (nofun) ?_
          refine DR.p (.dep 6 0 rfl rfl rfl .nil) (T_load ty67 rfl) .none rfl rfl (nofun) ?_
          refine DR.e (.dep 1 6 rfl rfl rfl (.dep 3 4 rfl rfl rfl (.dep 7 0 rfl rfl rfl .nil))) (T_call ⟨_, Try.func63, rfl, rfl⟩ (c_ref11_tree hx28) ⟨(.mk rfl), ⟨(.mk rfl), ⟨(.mk rfl), trivial⟩⟩⟩) .none rfl rfl ?_
          refine DR.p (.dep 8 0 rfl rfl rfl .nil) (T_field ty22 lay_api_Tree fl24_2 rfl hf_api_Tree_Levels) .none rfl rfl (nofun) ?_
          refine DR.p (.base (t := 1) rfl .nil) (T_faddri fo24_2 rfl hf_api_Tree_Levels) .none rfl rfl (nofun) ?_
          refine DR.p (.dep 10 0 rfl rfl rfl .nil) (T_load ty22 rfl) .none rfl rfl (nofun) ?_
          refine DR.tail (by kernel_rfl) (.refl _) rfl ?_
          simp only [List.reverse_cons, List.reverse_nil, List.nil_append, List.cons_append, DT]
          replace h := bnd h; obtain ⟨x29, hx29, h⟩ := h
          refine JLe0 (T_call ⟨_, Try.func71, rfl, rfl⟩ (c_ref11_SameLevels hx29) ⟨(.mk rfl), ⟨(.mk rfl), trivial⟩⟩) rfl .none ?_
          refine JLp (T_not rfl) rfl (nofun) .none ?_
          refine JL_nil (KJ_hid hK ?_)
          refine KJ_nrm_then (KJ_J ?_)
          refine J_test rfl (fun hq30 => ?_) (fun hq30 => ?_)
          · replace h := ift hq30 h
            refine J_seq ?_
            refine J_region ?_
            refine JLp (T_assign rfl) rfl (nofun) .none ?_
            refine JL_nil ?_
            refine KJ_nrm_then (KJ_J ?_)
            refine J_ret ?_
            refine KJ_ret_then ?_
            obtain rfl := inj h
            exact KJ_ret1' Try.results38 (.tmp (.mk rfl) Rv.nil) rfl rfl
          · replace h := iff_ hq30 h
            refine J_skip ?_
            refine KJ_nrm_then (KJ_J ?_)
            refine J_seq ?_
            refine J_region ?_
            refine JLp (T_assign rfl) rfl (nofun) .none ?_
            refine JL_nil ?_
            refine KJ_nrm_then (KJ_J ?_)
            refine J_ret ?_
            obtain rfl := inj h
            exact KJ_ret1' Try.results38 (.tmp (.mk rfl) Rv.nil) rfl rfl
end Go.Proofs.Ytogflgcngfghpaa
end

/- Digests and hash trees: the program and the reference compute the same. -/
section
set_option maxHeartbeats 1000000
set_option linter.unusedVariables false
set_option linter.unusedSimpArgs false
namespace Go.Proofs.Ytogflgcngfghpaa
open Go.J

/-! ### Digests -/
def stepS (h x : Int) : Int := IntKind.u64.wrap ((xorI .u64 h (IntKind.u64.wrap x)) * 1099511628211)
def digestS (l : List Int) : Int := l.foldl stepS 14695981039346656037
def finS (h : Int) : Int := xorI .u64 h (h.fdiv (2 ^ 32))
theorem shr32 (h : Int) : shrI .u64 h 32 = some (h.fdiv (2 ^ 32)) := by
  simp [shrI, IntKind.bits]

theorem Digest_1_eq {l : List Int} : f_checksum_Digest_1 l = some l := by
  unfold f_checksum_Digest_1
  have := rangeW_inv (β := Int) (ρ := Unit) (b := fun (i13 : Int) (x17 : Int) (s1 : Unit) => emitP x17 (some ([], Rd.next ()))) (fun _ => ()) (fun _ x => [x]) (l := l) (fun pre x suf _ => rfl) id rfl (fun pre x suf _ => rfl)
  rw [this]
  simp [thenP]
theorem digest_eq {l : List Int} : f_checksum_digest l = some (finS (digestS l)) := by
  unfold f_checksum_digest
  have := eachN_inv (b := fun (x4 : Int) (s2 : Int) => some (Rd.next (IntKind.u64.wrap ((xorI .u64 s2 (IntKind.u64.wrap x4)) * 1099511628211)))) digestS (l := l) (fun pre x suf _ => by simp [digestS, stepS])
  have h0 : digestS [] = 14695981039346656037 := rfl
  rw [h0] at this
  rw [this]
  simp [shr32, finS]
theorem Digest_eq {l : List Int} : f_checksum_Digest l = some (finS (digestS l)) := by
  simp [f_checksum_Digest, Digest_1_eq, digest_eq]
theorem refDigest_eq {l : List Int} (hl : l.length ≤ lim) : f_ref04_Digest l = some (finS (digestS l)) := by
  unfold f_ref04_Digest
  have hl' : l.length ≤ 140737488355328 := hl
  have key := while_range (ρ := Int) (body := fun (s1 : Int × Int) => if (decide (s1.2 < (l.length : Int))) = true then (idx l s1.2).bind fun x9 => some (Rd.next (IntKind.u64.wrap ((xorI .u64 s1.1 (IntKind.u64.wrap x9)) * 1099511628211), IntKind.i64.wrap (s1.2 + 1))) else some (Rd.done (s1.1, s1.2)))
    (b := fun _ x s => some (Rd.next (stepS s x))) (fun s i => (s, i)) hl (fun pre x suf s hp => by
      subst hp
      simp only [List.length_append, List.length_cons] at hl'
      simp only [idx_app, Option.bind_some]
      rw [if_pos (by simp; omega), w64 (by omega) (by omega)]
      simp [Rd.lift, stepS]) (fun i x s s' => by simp) (fun s => by simp) (14695981039346656037 : Int)
  have h2 := rangeF_inv (ρ := Int) (b := fun _ (x : Int) (s : Int) => some (Rd.next (stepS s x))) digestS (l := l) (fun pre x suf _ => by simp [digestS])
  have h0 : digestS [] = 14695981039346656037 := rfl
  rw [h0] at h2
  rw [h2] at key
  rw [key]
  simp [Fl.lift, Fl.then, shr32, finS]

def byteS (a : Int) (i : Nat) : Int := IntKind.u8.wrap (a.fdiv (2 ^ (8 * i)))
def bytesS (a : Int) : List Int := (List.range 8).map (byteS a)
theorem shr8 (a : Int) {i : Nat} (hi : i < 8) : shrI .u64 a (IntKind.i64.wrap (8 * (i : Int))) = some (a.fdiv (2 ^ (8 * i))) := by
  rw [w64 (by omega) (by omega)]
  unfold shrI
  rw [if_pos (by omega)]
  have : min (8 * (i : Int)).toNat IntKind.u64.bits = 8 * i := by
    have e : IntKind.u64.bits = 64 := rfl
    rw [e]; omega
  rw [this]
def pairS (a b : Int) : Int := finS (digestS (bytesS a ++ bytesS b))

theorem pair_eq (a b : Int) : f_checksum_Pair a b = some (pairS a b) := by
  unfold f_checksum_Pair
  let f : Nat → List Int := fun k => (List.range 8).map (fun i => if i < k then byteS a i else 0) ++ (List.range 8).map (fun i => if i < k then byteS b i else 0)
  have := countF_inv (ρ := Int) (b := fun i9 (s2 : List Int) => (shrI .u64 a (IntKind.i64.wrap (8 * i9))).bind fun x13 => (shrI .u64 b (IntKind.i64.wrap (8 * i9))).bind fun x14 => (inB 16 i9).bind fun x15 => (inB 16 (IntKind.i64.wrap (8 + i9))).bind fun x16 => some (Rd.next (setI (setI s2 i9 (IntKind.u8.wrap x13)) (IntKind.i64.wrap (8 + i9)) (IntKind.u8.wrap x14)))) f (n := 8) (fun k hk => by
    rw [shr8 a hk, shr8 b hk]
    simp only [Option.bind_some]
    rw [show inB 16 (k : Int) = some () by unfold inB; rw [if_pos (by omega)]]
    rw [w64 (n := 8 + (k : Int)) (by omega) (by omega), show inB 16 (8 + (k : Int)) = some () by unfold inB; rw [if_pos (by omega)]]
    simp only [Option.bind_some]
    have e : (8 + (k : Int)).toNat = 8 + k := by omega
    congr 2
    simp only [setI, e, Int.toNat_natCast, f, byteS]
    match k, hk with
    | 0, _ => rfl
    | 1, _ => rfl
    | 2, _ => rfl
    | 3, _ => rfl
    | 4, _ => rfl
    | 5, _ => rfl
    | 6, _ => rfl
    | 7, _ => rfl)
  have h0 : f 0 = List.replicate 16 0 := by simp [f]; rfl
  have h8 : f 8 = bytesS a ++ bytesS b := rfl
  rw [h0] at this
  rw [show ((8 : Int) - 0).toNat = 8 from rfl, this, h8]
  simp [capN, Fl.then, Digest_eq, pairS]

theorem refPair_loop (a : Int) (p : List Int) (hp : p.length ≤ 8) : whileF (σ := List Int × Int) (ρ := Int) (fun s1 => if (decide (s1.2 < 8)) = true then (shrI .u64 a (IntKind.i64.wrap (8 * s1.2))).bind fun x9 => (app 1 s1.1 [IntKind.u8.wrap x9]).bind fun x10 => some (Rd.next (x10, IntKind.i64.wrap (s1.2 + 1))) else some (Rd.done (s1.1, s1.2))) bigK (p, 0) = some (.go (p ++ bytesS a, 8)) := by
  have := while_go (ρ := Int) (body := fun s1 => if (decide (s1.2 < 8)) = true then (shrI .u64 a (IntKind.i64.wrap (8 * s1.2))).bind fun x9 => (app 1 s1.1 [IntKind.u8.wrap x9]).bind fun x10 => some (Rd.next (x10, IntKind.i64.wrap (s1.2 + 1))) else some (Rd.done (s1.1, s1.2)))
    (fun k => (p ++ (List.range k).map (byteS a), (k : Int))) 8 (K := bigK) (by decide) (fun k hk => by
      simp only
      rw [if_pos (by simp; omega), shr8 a hk]
      simp only [Option.bind_some]
      rw [app_ok (by simp [lim]; omega) (by simp [lim]; omega), w64 (by omega) (by omega)]
      simp [List.range_succ, byteS]) (s' := (p ++ bytesS a, 8)) (by simp [bytesS])
  simpa using this
theorem refPair_eq (a b : Int) : f_ref04_Pair a b = some (pairS a b) := by
  unfold f_ref04_Pair
  rw [refPair_loop a [] (by simp)]
  simp only [Option.bind_some, Fl.then, List.nil_append]
  rw [refPair_loop b (bytesS a) (by simp [bytesS])]
  simp only [Option.bind_some, Fl.then]
  rw [refDigest_eq (by simp [bytesS, lim])]
  rfl
theorem pair_funext : f_checksum_Pair = f_ref04_Pair := by
  funext a b; rw [pair_eq, refPair_eq]

/-! ### One level above another -/
def upS : List Int → List Int
  | a :: b :: r => pairS a b :: upS r
  | l => l
theorem upS_len : ∀ l : List Int, (upS l).length = (l.length + 1) / 2
  | [] => rfl
  | [a] => by simp [upS]
  | a :: b :: r => by simp only [upS, List.length_cons, upS_len r]; omega
theorem upS_take : ∀ (k : Nat) (l : List Int), 2 * k < l.length → upS (l.take (2 * (k + 1))) = upS (l.take (2 * k)) ++ (match l[2 * k]?, l[2 * k + 1]? with | some a, some b => [pairS a b] | some a, none => [a] | _, _ => [])
  | 0, [], h => by simp at h
  | 0, [a], h => by simp [upS]
  | 0, a :: b :: r, h => by simp [upS]
  | k + 1, [], h => by simp at h
  | k + 1, [a], h => by simp at h
  | k + 1, a :: b :: r, h => by
    have ih := upS_take k r (by simp at h; omega)
    rw [show 2 * (k + 1 + 1) = 2 * (k + 1) + 1 + 1 by omega, show 2 * (k + 1) = 2 * k + 1 + 1 by omega]
    simp only [List.take_succ_cons, upS, List.getElem?_cons_succ, List.cons_append]
    rw [show 2 * k + 1 + 1 = 2 * (k + 1) by omega, ih]

theorem refAbove_eq {l : List Int} (hl : l.length ≤ 1000000) : f_ref11_above l = some (upS l) := by
  unfold f_ref11_above
  have := while_go (ρ := List Int) (body := fun (s1 : List Int × Int) => if (decide (s1.2 < (l.length : Int))) = true then ((if (decide ((IntKind.i64.wrap (s1.2 + 1)) < (l.length : Int))) = true then (idx l s1.2).bind fun x14 => (idx l (IntKind.i64.wrap (s1.2 + 1))).bind fun x15 => (f_ref04_Pair x14 x15).bind fun x16 => (app 8 s1.1 [x16]).bind fun x17 => some (Fl.go x17) else (idx l s1.2).bind fun x19 => (app 8 s1.1 [x19]).bind fun x20 => some (Fl.go x20) : Option (Fl (List Int) (Rd (List Int × Int) (List Int))))).bind fun o10 => o10.then fun s12 => some (Rd.next (s12, IntKind.i64.wrap (s1.2 + 2))) else some (Rd.done (s1.1, s1.2)))
    (fun k => (upS (l.take (2 * k)), ((2 * k : Nat) : Int))) ((l.length + 1) / 2) (K := bigK) (by simp [bigK]; omega) (fun k hk => by
      have h1 : 2 * k < l.length := by omega
      have ht := upS_take k l h1
      have hlen : (upS (l.take (2 * k))).length = k := by rw [upS_len]; simp; omega
      simp only
      rw [if_pos (by simp; omega), w64 (n := ((2 * k : Nat) : Int) + 1) (by omega) (by omega)]
      have e2 : IntKind.i64.wrap (((2 * k : Nat) : Int) + 2) = ((2 * (k + 1) : Nat) : Int) := by rw [w64 (by omega) (by omega)]; omega
      rw [e2]
      have e1 : ((2 * k : Nat) : Int) + 1 = ((2 * k + 1 : Nat) : Int) := by omega
      rw [e1]
      by_cases h2 : 2 * k + 1 < l.length
      · rw [if_pos (by simp; omega), idx_get h1, idx_get h2]
        simp only [Option.bind_some, refPair_eq]
        rw [app_ok (by simp [lim, hlen]; omega) (by simp [lim, hlen]; omega)]
        simp only [Option.bind_some, Fl.then]
        rw [ht]; simp [h1, h2]
      · rw [if_neg (by simp; omega), idx_get h1]
        simp only [Option.bind_some]
        rw [app_ok (by simp [lim, hlen]; omega) (by simp [lim, hlen]; omega)]
        simp only [Option.bind_some, Fl.then]
        rw [ht]; simp [h1, h2]) (s' := (upS l, ((2 * ((l.length + 1) / 2) : Nat) : Int))) (by
      simp only
      rw [if_neg (by simp; omega), List.take_of_length_le (by omega)])
  simp only [Nat.mul_zero, List.take_zero] at this
  rw [show ((0 : Nat) : Int) = 0 from rfl, show upS [] = [] from rfl] at this
  rw [this]
  simp [Fl.then]
theorem up_eq {l : List Int} (hl : l.length ≤ 1000000) : f_hashtree_up_uint64 l f_checksum_Pair = some (upS l) := by
  have := refAbove_eq hl
  unfold f_ref11_above at this
  unfold f_hashtree_up_uint64
  rw [pair_funext]
  exact this

/-! ### Trees -/
def lvS : Nat → List Int → List (List Int)
  | 0, l => [l]
  | n + 1, l => if l.length ≤ 1 then [l] else l :: lvS n (upS l)
theorem above_loop (t0 : api_Tree) (ht : t0.Levels = []) : ∀ (n : Nat) (l : List Int) (rows : List (List Int)) (K : Nat), l.length ≤ n → 1 ≤ l.length → n < K → rows.length + l.length ≤ 1000000 →
    ∃ e, whileF (σ := List Int × api_Tree × List (List Int)) (ρ := api_Tree) (fun s3 => (app 24 s3.2.2 [s3.1]).bind fun x10 => if (decide ((s3.1.length : Int) = 1)) = true then some (Rd.done (s3.1, (⟨s3.2.1.Size, s3.2.1.Leaf, []⟩ : api_Tree), x10)) else (f_hashtree_up_uint64 s3.1 f_checksum_Pair).bind fun x13 => some (Rd.next (x13, (⟨s3.2.1.Size, s3.2.1.Leaf, []⟩ : api_Tree), x10))) K (l, t0, rows) = some (.go (e, t0, rows ++ lvS n l))
  | 0, l, rows, K, h, h1, _, _ => by omega
  | n + 1, l, rows, K, h, h1, hK, hr => by
    obtain ⟨k, rfl⟩ : ∃ k, K = k + 1 := ⟨K - 1, by omega⟩
    have e0 : (⟨t0.Size, t0.Leaf, []⟩ : api_Tree) = t0 := by cases t0; simp at ht; simp [ht]
    rw [whileF]
    simp only
    rw [app_ok (by simp [lim]; omega) (by simp [lim]; omega)]
    simp only [Option.bind_some, e0]
    by_cases h2 : l.length = 1
    · rw [if_pos (by simp [h2])]
      refine ⟨l, ?_⟩
      simp [lvS, h2]
    · rw [if_neg (by simp; omega), up_eq (by omega)]
      simp only [Option.bind_some]
      have hu := upS_len l
      obtain ⟨e, he⟩ := above_loop t0 ht n (upS l) (rows ++ [l]) k (by omega) (by omega) (by omega) (by simp; omega)
      refine ⟨e, ?_⟩
      rw [he]
      simp [lvS, show ¬ l.length ≤ 1 by omega]
theorem above_eq {sz lf : Int} {l : List Int} (h1 : 1 ≤ l.length) (h2 : l.length ≤ 100000) : f_hashtree_above sz lf l = some ⟨sz, lf, lvS l.length l⟩ := by
  unfold f_hashtree_above
  obtain ⟨e, he⟩ := above_loop ⟨sz, lf, []⟩ rfl l.length l [] bigK (Nat.le_refl _) h1 (by simp [bigK]; omega) (by simp; omega)
  rw [he]
  simp [Fl.then]
theorem tree_loop (t0 : api_Tree) (ht : t0.Levels = []) : ∀ (n : Nat) (l : List Int) (rows : List (List Int)) (K : Nat), l.length ≤ n → 1 ≤ l.length → n < K → rows.length + l.length ≤ 1000000 →
    ∃ e, whileF (σ := List Int × api_Tree × List (List Int)) (ρ := api_Tree) (fun s4 => if (decide (1 < (s4.1.length : Int))) = true then (f_ref11_above s4.1).bind fun x12 => (app 24 s4.2.2 [x12]).bind fun x13 => some (Rd.next (x12, (⟨s4.2.1.Size, s4.2.1.Leaf, []⟩ : api_Tree), x13)) else some (Rd.done (s4.1, (⟨s4.2.1.Size, s4.2.1.Leaf, []⟩ : api_Tree), s4.2.2))) K (l, t0, rows ++ [l]) = some (.go (e, t0, rows ++ lvS n l))
  | 0, l, rows, K, h, h1, _, _ => by omega
  | n + 1, l, rows, K, h, h1, hK, hr => by
    obtain ⟨k, rfl⟩ : ∃ k, K = k + 1 := ⟨K - 1, by omega⟩
    have e0 : (⟨t0.Size, t0.Leaf, []⟩ : api_Tree) = t0 := by cases t0; simp at ht; simp [ht]
    rw [whileF]
    simp only [e0]
    by_cases h2 : l.length = 1
    · rw [if_neg (by simp [h2])]
      exact ⟨l, by simp [lvS, h2]⟩
    · rw [if_pos (by simp; omega), refAbove_eq (by omega)]
      simp only [Option.bind_some]
      rw [app_ok (by simp [lim]; omega) (by simp [lim]; omega)]
      simp only [Option.bind_some]
      have hu := upS_len l
      obtain ⟨e, he⟩ := tree_loop t0 ht n (upS l) (rows ++ [l]) k (by omega) (by omega) (by omega) (by simp; omega)
      refine ⟨e, ?_⟩
      rw [he]
      simp [lvS, show ¬ l.length ≤ 1 by omega]
theorem tree_eq {sz lf : Int} {l : List Int} (h1 : 1 ≤ l.length) (h2 : l.length ≤ 100000) : f_ref11_tree sz lf l = some ⟨sz, lf, lvS l.length l⟩ := by
  unfold f_ref11_tree
  obtain ⟨e, he⟩ := tree_loop ⟨sz, lf, []⟩ rfl l.length l [] bigK (Nat.le_refl _) h1 (by simp [bigK]; omega) (by simp; omega)
  simp only [List.nil_append] at he
  rw [he]
  simp [Fl.then]
end Go.Proofs.Ytogflgcngfghpaa
end

/- The check of a tree: the program and the reference give the same answer. -/
section
set_option maxHeartbeats 1000000
set_option linter.unusedVariables false
set_option linter.unusedSimpArgs false
namespace Go.Proofs.Ytogflgcngfghpaa
open Go.J

theorem nil_or_snoc {α : Type} (l : List α) : l = [] ∨ ∃ p y, l = p ++ [y] := by
  rcases List.eq_nil_or_concat l with h | ⟨p, y, h⟩
  · exact .inl h
  · exact .inr ⟨p, y, by simpa using h⟩

def shp : List (List Int) → Nat → Bool
  | [], _ => false
  | [l], n => l.length == n && n == 1
  | l :: m :: r, n => l.length == n && n != 1 && shp (m :: r) ((n + 1) / 2)
def leavesS (sz lf : Int) : Nat := ((sz + lf - 1) / lf).toNat
/-- What a check of a tree answers. -/
def checkS (t : api_Tree) : Int :=
  if t.Size < 1 ∨ 4096 < t.Size then 2 else if t.Leaf < 1 ∨ 4096 < t.Leaf then 1 else
  if shp t.Levels (leavesS t.Size t.Leaf) = true then (if lvS (t.Levels.headD []).length (t.Levels.headD []) = t.Levels then 0 else 22) else 3

theorem leaves_bd {sz lf : Int} (h1 : 1 ≤ sz) (h2 : sz ≤ 4096) (h3 : 1 ≤ lf) (h4 : lf ≤ 4096) : 1 ≤ leavesS sz lf ∧ leavesS sz lf ≤ 4096 := by
  unfold leavesS
  have a : 1 ≤ (sz + lf - 1) / lf := (Int.le_ediv_iff_mul_le (by omega)).2 (by omega)
  have b : (sz + lf - 1) / lf ≤ 4096 := by
    refine Int.ediv_le_of_le_mul (by omega) ?_
    have : 4096 * lf ≥ 4096 + lf - 1 := by omega
    omega
  omega
theorem leaves_eq {sz lf : Int} (h1 : 1 ≤ sz) (h2 : sz ≤ 4096) (h3 : 1 ≤ lf) (h4 : lf ≤ 4096) : quoI .i64 (IntKind.i64.wrap ((IntKind.i64.wrap (sz + lf)) - 1)) lf = some ((leavesS sz lf : Nat) : Int) := by
  rw [w64 (n := sz + lf) (by omega) (by omega), w64 (n := sz + lf - 1) (by omega) (by omega)]
  unfold quoI
  rw [if_neg (by omega)]
  have hb := leaves_bd h1 h2 h3 h4
  have e : (sz + lf - 1).tdiv lf = (sz + lf - 1) / lf := Int.tdiv_eq_ediv_of_nonneg (by omega)
  rw [e]
  unfold leavesS at *
  rw [w64 (by omega) (by omega)]
  congr 1; omega

theorem half_eq {n : Nat} (h : n ≤ 1000000) : IntKind.i64.wrap (Int.tdiv (IntKind.i64.wrap ((n : Int) + 1)) 2) = (((n + 1) / 2 : Nat) : Int) := by
  rw [w64 (n := (n : Int) + 1) (by omega) (by omega), Int.tdiv_eq_ediv_of_nonneg (by omega), w64 (by omega) (by omega)]
  omega

/-! ### The program -/
theorem check_loop (L : List (List Int)) (hL : L.length ≤ 1000000) : ∀ (suf pre : List (List Int)) (n : Nat), L = pre ++ suf → 1 ≤ n → n ≤ 4096 →
    ∃ o, rangeF (σ := Int) (ρ := Int) (fun i11 x15 s4 => (if (!decide ((x15.length : Int) = s4)) = true then some true else (if (decide (s4 = 1)) = true then some (decide ((i11 + 1) < (L.length : Int))) else some false).bind fun c19 => some c19).bind fun c17 => if c17 = true then some (Rd.ret 3) else ((if (decide (s4 = 1)) = true then some (Fl.go 0) else some (Fl.go s4) : Option (Fl (Int) (Rd (Int) (Int))))).bind fun o23 => o23.then fun s25 => some (Rd.next (IntKind.i64.wrap (Int.tdiv (IntKind.i64.wrap (s25 + 1)) 2)))) suf pre.length (n : Int) = some o ∧
      (shp suf n = true ∧ o = .go 0 ∨ shp suf n = false ∧ (o = .ret 3 ∨ ∃ m, m ≠ 0 ∧ o = .go m))
  | [], pre, n, hl, h1, h2 => ⟨.go (n : Int), by rw [rangeF], .inr ⟨rfl, .inr ⟨n, by omega, rfl⟩⟩⟩
  | x :: suf, pre, n, hl, h1, h2 => by
    rw [rangeF]
    by_cases hx : x.length = n
    · have e1 : (!decide ((x.length : Int) = (n : Int))) = false := by simp; omega
      simp only [e1, Bool.false_eq_true, if_false]
      by_cases hn : n = 1
      · subst hn
        have e2 : (decide (((1 : Nat) : Int) = 1)) = true := by simp
        simp only [e2, if_true, Option.bind_some]
        cases suf with
        | nil =>
          rw [if_neg (by simp [hl])]
          simp only [Fl.then]
          rw [show IntKind.i64.wrap (Int.tdiv (IntKind.i64.wrap ((0 : Int) + 1)) 2) = 0 by decide]
          exact ⟨.go 0, by simp [rangeF], .inl ⟨by simp [shp, hx], rfl⟩⟩
        | cons y suf =>
          rw [if_pos (by simp [hl]; omega)]
          exact ⟨.ret 3, rfl, .inr ⟨by simp [shp], .inl rfl⟩⟩
      · have e2 : (decide ((n : Int) = 1)) = false := by simp; omega
        simp only [e2, Bool.false_eq_true, if_false, Option.bind_some, Fl.then]
        rw [half_eq (by omega)]
        have ih := check_loop L hL suf (pre ++ [x]) ((n + 1) / 2) (by simp [hl]) (by omega) (by omega)
        have e3 : ((pre ++ [x]).length : Int) = pre.length + 1 := by simp
        rw [e3] at ih
        obtain ⟨o, ho, hc⟩ := ih
        refine ⟨o, ho, ?_⟩
        cases suf with
        | nil =>
          rcases hc with ⟨h, _⟩ | ⟨_, h⟩
          · simp [shp] at h
          · exact .inr ⟨by simp [shp, hn, hx], h⟩
        | cons y suf =>
          have e4 : shp (x :: y :: suf) n = shp (y :: suf) ((n + 1) / 2) := by simp [shp, hx, hn]
          rw [e4]; exact hc
    · have e1 : (!decide ((x.length : Int) = (n : Int))) = true := by simp; omega
      simp only [e1, if_true, Option.bind_some]
      refine ⟨.ret 3, rfl, .inr ⟨?_, .inl rfl⟩⟩
      cases suf <;> simp [shp, hx]

theorem eqU64 {a b : List Int} (hl : a.length ≤ lim) : f_slices_Equal_uint64_uint64 a b = some (decide (a = b)) := by
  obtain ⟨r, h1, h2⟩ := equal_model (a := a) (b := b) (fun x y => decide (x = y)) (by simp) hl
  have h1 : f_slices_Equal_uint64_uint64 a b = some r := h1
  rw [h1]
  congr 1
  rw [Bool.eq_iff_iff, h2]; simp
theorem equalFunc_eq {a b : List (List Int)} (hl : ∀ x ∈ a, x.length ≤ lim) : f_slices_EqualFunc_uint64_uint64_uint64_uint64 a b f_slices_Equal_uint64_uint64 = some (decide (a = b)) := by
  unfold f_slices_EqualFunc_uint64_uint64_uint64_uint64
  by_cases hlen : a.length = b.length
  · have e : (!decide ((a.length : Int) = (b.length : Int))) = false := by simp; omega
    simp only [e, Bool.false_eq_true, if_false]
    obtain ⟨o, h1, h2⟩ := equal_range (ρ := Bool) (a := a) (b := b) (fun x y => decide (x = y)) (by simp) false hlen a [] rfl (by simp)
    have hc : ∀ (suf : List (List Int)) (i : Int), (∀ x ∈ suf, x.length ≤ lim) → rangeF (σ := Unit) (ρ := Bool) (fun i9 x13 s2 => (idx b i9).bind fun x15 => (f_slices_Equal_uint64_uint64 x13 x15).bind fun x16 => if (!x16) = true then some (Rd.ret false) else some (Rd.next ())) suf i () =
        rangeF (σ := Unit) (ρ := Bool) (fun i x _ => (idx b i).bind fun y => if (!(decide (x = y))) = true then some (Rd.ret false) else some (Rd.next ())) suf i () := by
      intro suf
      induction suf with
      | nil => intro i _; rfl
      | cons x suf ih =>
        intro i hs
        rw [rangeF, rangeF]
        have ih' := ih (i + 1) (fun y hy => hs y (by simp [hy]))
        cases idx b i with
        | none => rfl
        | some y =>
          simp only [Option.bind_some, eqU64 (hs x (by simp))]
          cases hd : decide (x = y) with
          | true => simpa using ih'
          | false => simp
    rw [hc a 0 hl]
    have h1 : rangeF (σ := Unit) (ρ := Bool) (fun i x _ => (idx b i).bind fun y => if (!(decide (x = y))) = true then some (Rd.ret false) else some (Rd.next ())) a 0 () = some o := h1
    rw [h1]
    rcases h2 with ⟨rfl, h⟩ | ⟨rfl, h⟩
    · simp [h, Fl.then]
    · simp [h, Fl.then]
  · have e : (!decide ((a.length : Int) = (b.length : Int))) = true := by simp; omega
    simp only [e, if_true]
    have : a ≠ b := fun h => hlen (by rw [h])
    simp [this]

theorem lv_mem : ∀ (n : Nat) (l x : List Int), x ∈ lvS n l → x.length ≤ l.length
  | 0, l, x, h => by simp [lvS] at h; simp [h]
  | n + 1, l, x, h => by
    simp only [lvS] at h
    split at h
    · simp at h; simp [h]
    · rcases List.mem_cons.1 h with rfl | h
      · omega
      · have := lv_mem n _ x h
        rw [upS_len] at this
        omega

theorem shp_head {L : List (List Int)} {n : Nat} (h : shp L n = true) : ∃ l r, L = l :: r ∧ l.length = n := by
  match L, h with
  | [l], h => simp [shp] at h; exact ⟨l, [], rfl, h.1⟩
  | l :: m :: r, h => simp [shp] at h; exact ⟨l, m :: r, rfl, h.1.1⟩

theorem hcheck_eq {t : api_Tree} (hL : t.Levels.length ≤ 1000000) : f_hashtree_Check t = some (checkS t) := by
  unfold f_hashtree_Check f_hashtree_limits f_hashtree_leaves checkS
  by_cases h1 : t.Size < 1
  · simp [h1]
  · by_cases h2 : 4096 < t.Size
    · simp [h1, h2]
    · by_cases h3 : t.Leaf < 1
      · simp [h1, h2, h3]
      · by_cases h4 : 4096 < t.Leaf
        · simp [h1, h2, h3, h4]
        · have hb := leaves_bd (sz := t.Size) (lf := t.Leaf) (by omega) (by omega) (by omega) (by omega)
          rw [leaves_eq (by omega) (by omega) (by omega) (by omega)]
          simp only [h1, h2, h3, h4, decide_false, Bool.false_eq_true, if_false, Option.bind_some, decide_true, Bool.not_true, or_self]
          obtain ⟨o, ho, hc⟩ := check_loop t.Levels hL t.Levels [] (leavesS t.Size t.Leaf) rfl hb.1 hb.2
          have ho : rangeF (σ := Int) (ρ := Int) _ t.Levels 0 _ = _ := ho
          rw [ho]
          rcases hc with ⟨hs, rfl⟩ | ⟨hs, hc⟩
          · obtain ⟨l, r, hl, hlen⟩ := shp_head hs
            simp only [Option.bind_some, Fl.then, decide_true, Bool.not_true, Bool.false_eq_true, if_false, hs, if_true]
            rw [show idx t.Levels 0 = some l by rw [hl, idx_zero], show t.Levels.headD [] = l by rw [hl]; rfl]
            simp only [Option.bind_some]
            rw [above_eq (by omega) (by omega)]
            simp only [Option.bind_some]
            rw [equalFunc_eq (fun x hx => by have := lv_mem _ _ _ hx; simp [lim]; omega)]
            by_cases he : lvS l.length l = t.Levels <;> simp [he]
          · rcases hc with rfl | ⟨m, hm, rfl⟩
            · simp [Fl.then, hs]
            · simp [Fl.then, hs, hm]

/-! ### The reference -/
def rshp : List (List Int) → Nat → Bool → Bool
  | [], _, _ => true
  | l :: r, n, p => l.length == n && !p && rshp r ((n + 1) / 2) (l.length == 1)
theorem shp_rshp : ∀ (L : List (List Int)) (n : Nat), shp L n = (rshp L n false && (L.getLast?.elim false fun l => l.length == 1))
  | [], n => by simp [shp]
  | [l], n => by
    by_cases h : l.length = n
    · simp [shp, rshp, h]
    · have h' : (l.length == n) = false := by simpa using h
      simp [shp, rshp, h']
  | l :: m :: r, n => by
    have ih := shp_rshp (m :: r) ((n + 1) / 2)
    simp only [shp, rshp, ih]
    by_cases h : l.length = n
    · by_cases h1 : n = 1
      · simp [h, h1, rshp]
      · have h1' : (n == 1) = false := by simpa using h1
        simp [h, h1', rshp, bne]
    · have h' : (l.length == n) = false := by simpa using h
      simp [h']

theorem refSame_eq {a b : List (List Int)} (hl : a.length ≤ lim) (hl2 : ∀ x ∈ a, x.length ≤ lim) : f_ref11_SameLevels a b = some (decide (a = b)) := by
  unfold f_ref11_SameLevels
  by_cases hlen : a.length = b.length
  · have e : (!decide ((a.length : Int) = (b.length : Int))) = false := by simp; omega
    simp only [e, Bool.false_eq_true, if_false]
    have hl' : a.length ≤ 140737488355328 := hl
    have inner : ∀ (x y : List Int), x.length ≤ lim → x.length = y.length →
        ∃ o, whileF (σ := Int) (ρ := Rd (Int) (Bool)) (fun s13 => if (decide (s13 < (x.length : Int))) = true then (idx x s13).bind fun x23 => (idx y s13).bind fun x25 => if (!decide (x23 = x25)) = true then some (Rd.ret (Rd.ret false)) else some (Rd.next (IntKind.i64.wrap (s13 + 1))) else some (Rd.done s13)) bigK 0 = some o ∧ ((∃ s, o = .go s) ∧ x = y ∨ o = .ret (.ret false) ∧ x ≠ y) := by
      intro x y hxl hxy
      have hxl' : x.length ≤ 140737488355328 := hxl
      have key := while_range (ρ := Rd Int Bool) (body := fun s13 => if (decide (s13 < (x.length : Int))) = true then (idx x s13).bind fun x23 => (idx y s13).bind fun x25 => if (!decide (x23 = x25)) = true then some (Rd.ret (Rd.ret false)) else some (Rd.next (IntKind.i64.wrap (s13 + 1))) else some (Rd.done s13))
        (b := fun k u _ => (idx y k).bind fun v => if (!decide (u = v)) = true then some (Rd.ret (Rd.ret false)) else some (Rd.next ())) (fun _ k => k) hxl (fun pre u suf s hp => by
          have h2 : pre.length < y.length := by rw [← hxy, hp]; simp
          rw [if_pos (by rw [hp]; simp; omega), show idx x (pre.length : Int) = some u by rw [hp, idx_app], idx_get h2]
          simp only [Option.bind_some]
          have h3 : pre.length < 140737488355328 := by rw [hp] at hxl'; simp at hxl'; omega
          cases hd : decide (u = y[pre.length]) <;> simp [Rd.lift, w64 (n := (pre.length : Int) + 1) (by omega) (by omega)]) (fun k u s s' => by
          cases idx y k with
          | none => simp
          | some v => simp; split <;> simp) (fun s => by simp) ()
      obtain ⟨o, h1, h2⟩ := equal_range (ρ := Rd Int Bool) (a := x) (b := y) (fun x y => decide (x = y)) (by simp) (.ret false) hxy x [] rfl (by simp)
      have h1 : rangeF (σ := Unit) (ρ := Rd Int Bool) (fun k u _ => (idx y k).bind fun v => if (!decide (u = v)) = true then some (Rd.ret (Rd.ret false)) else some (Rd.next ())) x 0 () = some o := h1
      rw [h1] at key
      rcases h2 with ⟨rfl, h⟩ | ⟨rfl, h⟩
      · exact ⟨_, key, .inl ⟨⟨_, rfl⟩, h⟩⟩
      · exact ⟨_, key, .inr ⟨rfl, h⟩⟩
    have key := while_range (ρ := Bool) (body := fun s2 => if (decide (s2 < (a.length : Int))) = true then (idx a s2).bind fun x10 => (idx b s2).bind fun x11 => if (!decide ((x10.length : Int) = (x11.length : Int))) = true then some (Rd.ret false) else (whileF (σ := Int) (ρ := Rd (Int) (Bool)) (fun s13 => (idx a s2).bind fun x20 => if (decide (s13 < (x20.length : Int))) = true then (idx a s2).bind fun x22 => (idx x22 s13).bind fun x23 => (idx b s2).bind fun x24 => (idx x24 s13).bind fun x25 => if (!decide (x23 = x25)) = true then some (Rd.ret (Rd.ret false)) else some (Rd.next (IntKind.i64.wrap (s13 + 1))) else some (Rd.done s13)) bigK 0).bind fun o15 => o15.then fun s13 => some (Rd.next (IntKind.i64.wrap (s2 + 1))) else some (Rd.done s2))
      (b := fun i x _ => (idx b i).bind fun y => if (!decide (x = y)) = true then some (Rd.ret false) else some (Rd.next ())) (fun _ k => k) hl (fun pre x suf s hp => by
        have h2 : pre.length < b.length := by rw [← hlen, hp]; simp
        have hx : a[pre.length]? = some x := by rw [hp]; simp
        have hy : b[pre.length]? = some b[pre.length] := by simp [h2]
        have h3 : pre.length < 140737488355328 := by rw [hp] at hl'; simp at hl'; omega
        rw [if_pos (by rw [hp]; simp; omega), idx_nat, idx_nat, hx, hy]
        simp only [Option.bind_some]
        by_cases hxy : x.length = b[pre.length].length
        · have e : (!decide ((x.length : Int) = (b[pre.length].length : Int))) = false := by simp; omega
          simp only [e, Bool.false_eq_true, if_false]
          obtain ⟨o, h1, h4⟩ := inner x b[pre.length] (hl2 x (List.mem_of_getElem? hx)) hxy
          rw [h1]
          rcases h4 with ⟨⟨s', rfl⟩, h⟩ | ⟨rfl, h⟩
          · simp [Fl.then, h, Rd.lift, w64 (n := (pre.length : Int) + 1) (by omega) (by omega)]
          · simp [Fl.then, h, Rd.lift]
        · have e : (!decide ((x.length : Int) = (b[pre.length].length : Int))) = true := by simp; omega
          have hne : x ≠ b[pre.length] := fun h => hxy (by rw [← h])
          simp only [e, if_true]
          simp [hne, Rd.lift]) (fun i x s s' => by
        cases idx b i with
        | none => simp
        | some y => simp; split <;> simp) (fun s => by simp) ()
    obtain ⟨o, h1, h2⟩ := equal_range (ρ := Bool) (a := a) (b := b) (fun x y => decide (x = y)) (by simp) false hlen a [] rfl (by simp)
    have h1 : rangeF (σ := Unit) (ρ := Bool) (fun i x _ => (idx b i).bind fun y => if (!decide (x = y)) = true then some (Rd.ret false) else some (Rd.next ())) a 0 () = some o := h1
    rw [h1] at key
    rw [key]
    rcases h2 with ⟨rfl, h⟩ | ⟨rfl, h⟩
    · simp [h, Fl.then, Fl.lift]
    · simp [h, Fl.then, Fl.lift]
  · have e : (!decide ((a.length : Int) = (b.length : Int))) = true := by simp; omega
    simp only [e, if_true]
    have : a ≠ b := fun h => hlen (by rw [h])
    simp [this]

theorem rcheck_range (L : List (List Int)) (hL : L.length ≤ 1000000) : ∀ (suf pre : List (List Int)) (n : Nat), L = pre ++ suf → n ≤ 4096 →
    ∃ o, rangeF (σ := Int) (ρ := Int) (fun i x s => (if (!decide ((x.length : Int) = s)) = true then some true else (if (decide (0 < i)) = true then (idx L (IntKind.i64.wrap (i - 1))).bind fun x21 => some (decide ((x21.length : Int) = 1)) else some false).bind fun c19 => some c19).bind fun c17 => if c17 = true then some (Rd.ret 3) else some (Rd.next (IntKind.i64.wrap (Int.tdiv (IntKind.i64.wrap (s + 1)) 2)))) suf pre.length (n : Int) = some o ∧
      (rshp suf n (pre.getLast?.elim false fun l => l.length == 1) = true ∧ (∃ m, o = .go m) ∨ rshp suf n (pre.getLast?.elim false fun l => l.length == 1) = false ∧ o = .ret 3)
  | [], pre, n, hl, h2 => ⟨.go (n : Int), by rw [rangeF], .inl ⟨rfl, n, rfl⟩⟩
  | x :: suf, pre, n, hl, h2 => by
    rw [rangeF]
    by_cases hx : x.length = n
    · have e1 : (!decide ((x.length : Int) = (n : Int))) = false := by simp; omega
      simp only [e1, Bool.false_eq_true, if_false]
      have hprev : ((if (decide (0 < (pre.length : Int))) = true then (idx L (IntKind.i64.wrap ((pre.length : Int) - 1))).bind fun x21 => some (decide ((x21.length : Int) = 1)) else some false).bind fun c19 => some c19) = some (pre.getLast?.elim false fun l => l.length == 1) := by
        rcases nil_or_snoc pre with rfl | ⟨pre', y, rfl⟩
        · simp
        · rw [if_pos (by simp)]
          have hlen : pre'.length < 1000000 := by rw [hl] at hL; simp at hL; omega
          have e2 : IntKind.i64.wrap ((((pre' ++ [y]).length : Nat) : Int) - 1) = pre'.length := by rw [show (((pre' ++ [y]).length : Nat) : Int) - 1 = pre'.length by simp]; exact w64 (by omega) (by omega)
          rw [e2]
          have : idx L (pre'.length : Int) = some y := by rw [hl]; simp [idx]
          rw [this]
          simp only [Option.bind_some, List.getLast?_append, List.getLast?_singleton, Option.some_or, Option.elim_some]
          congr 1
          by_cases hy1 : y.length = 1
          · simp [hy1]
          · have hy2 : (decide ((y.length : Int) = 1)) = false := by simp; omega
            have hy3 : (y.length == 1) = false := by simpa using hy1
            rw [hy2, hy3]
      rw [hprev]
      simp only [Option.bind_some]
      cases hp : (pre.getLast?.elim false fun l => l.length == 1) with
      | true => exact ⟨.ret 3, by simp, .inr ⟨by simp [rshp], rfl⟩⟩
      | false =>
        simp only [Bool.false_eq_true, if_false]
        rw [half_eq (by omega)]
        have ih := rcheck_range L hL suf (pre ++ [x]) ((n + 1) / 2) (by simp [hl]) (by omega)
        have e3 : ((pre ++ [x]).length : Int) = pre.length + 1 := by simp
        rw [e3] at ih
        have e4 : ((pre ++ [x]).getLast?.elim false fun l => l.length == 1) = (x.length == 1) := by simp
        rw [e4] at ih
        have e5 : rshp (x :: suf) n false = rshp suf ((n + 1) / 2) (x.length == 1) := by simp [rshp, hx]
        rw [e5]
        exact ih
    · have e1 : (!decide ((x.length : Int) = (n : Int))) = true := by simp; omega
      simp only [e1, if_true, Option.bind_some]
      exact ⟨.ret 3, rfl, .inr ⟨by simp [rshp, hx], rfl⟩⟩

theorem rcheck_eq {t : api_Tree} (hL : t.Levels.length ≤ 1000000) : f_ref11_Check t = some (checkS t) := by
  unfold f_ref11_Check f_ref11_Leaves checkS
  by_cases h1 : t.Size < 1
  · simp [h1]
  · by_cases h2 : 4096 < t.Size
    · simp [h1, h2]
    · by_cases h3 : t.Leaf < 1
      · simp [h1, h2, h3]
      · by_cases h4 : 4096 < t.Leaf
        · simp [h1, h2, h3, h4]
        · have hb := leaves_bd (sz := t.Size) (lf := t.Leaf) (by omega) (by omega) (by omega) (by omega)
          rw [leaves_eq (by omega) (by omega) (by omega) (by omega)]
          simp only [h1, h2, h3, h4, decide_false, Bool.false_eq_true, if_false, Option.bind_some, or_self]
          have key := while_range (ρ := Int) (body := fun (s8 : Int × Int) => if (decide (s8.2 < (t.Levels.length : Int))) = true then (idx t.Levels s8.2).bind fun x16 => (if (!decide ((x16.length : Int) = s8.1)) = true then some true else (if (decide (0 < s8.2)) = true then (idx t.Levels (IntKind.i64.wrap (s8.2 - 1))).bind fun x21 => some (decide ((x21.length : Int) = 1)) else some false).bind fun c19 => some c19).bind fun c17 => if c17 = true then some (Rd.ret 3) else some (Rd.next (IntKind.i64.wrap (Int.tdiv (IntKind.i64.wrap (s8.1 + 1)) 2), IntKind.i64.wrap (s8.2 + 1))) else some (Rd.done (s8.1, s8.2)))
            (b := fun i x s => (if (!decide ((x.length : Int) = s)) = true then some true else (if (decide (0 < i)) = true then (idx t.Levels (IntKind.i64.wrap (i - 1))).bind fun x21 => some (decide ((x21.length : Int) = 1)) else some false).bind fun c19 => some c19).bind fun c17 => if c17 = true then some (Rd.ret 3) else some (Rd.next (IntKind.i64.wrap (Int.tdiv (IntKind.i64.wrap (s + 1)) 2))))
            (fun s i => (s, i)) (l := t.Levels) (by simp [lim]; omega) (fun pre x suf s hp => by
              have h6 : pre.length < 1000000 := by rw [hp] at hL; simp at hL; omega
              simp only
              rw [if_pos (by rw [hp]; simp; omega), show idx t.Levels (pre.length : Int) = some x by rw [hp, idx_app]]
              simp only [Option.bind_some]
              rw [w64 (n := (pre.length : Int) + 1) (by omega) (by omega)]
              generalize (if (!decide ((x.length : Int) = s)) = true then some true else _ : Option Bool) = q
              cases q with
              | none => rfl
              | some c => cases c <;> simp [Rd.lift]) (fun i x s s' => by
              generalize (if (!decide ((x.length : Int) = s)) = true then some true else _ : Option Bool) = q
              cases q with
              | none => simp
              | some c => cases c <;> simp) (fun s => by simp) ((leavesS t.Size t.Leaf : Nat) : Int)
          obtain ⟨o, ho, hc⟩ := rcheck_range t.Levels hL t.Levels [] (leavesS t.Size t.Leaf) rfl hb.2
          have ho : rangeF (σ := Int) (ρ := Int) _ t.Levels 0 _ = _ := ho
          rw [ho] at key
          rw [key]
          have hsr := shp_rshp t.Levels (leavesS t.Size t.Leaf)
          simp only [List.getLast?_nil, Option.elim_none] at hc
          rcases hc with ⟨hs, m, rfl⟩ | ⟨hs, rfl⟩
          · rw [hs, Bool.true_and] at hsr
            simp only [Option.map_some, Fl.lift, Option.bind_some, Fl.then]
            rcases nil_or_snoc t.Levels with hn | ⟨pre, y, hy⟩
            · rw [hn] at hsr ⊢
              simp [hsr]
            · have e0 : (decide ((t.Levels.length : Int) = 0)) = false := by rw [hy]; simp; omega
              have h6 : pre.length < 1000000 := by rw [hy] at hL; simp at hL; omega
              have e1 : IntKind.i64.wrap ((t.Levels.length : Int) - 1) = (pre.length : Int) := by
                rw [show (t.Levels.length : Int) - 1 = pre.length by rw [hy]; simp]
                exact w64 (by omega) (by omega)
              simp only [e0, Bool.false_eq_true, if_false, e1]
              rw [show idx t.Levels (pre.length : Int) = some y by rw [hy]; simp [idx]]
              simp only [Option.bind_some]
              rw [hy] at hsr
              simp only [List.getLast?_append, List.getLast?_singleton, Option.some_or, Option.elim_some] at hsr
              rw [← hy] at hsr
              by_cases hy1 : y.length = 1
              · have e2 : (!decide ((y.length : Int) = 1)) = false := by simp; omega
                simp only [e2, Bool.false_eq_true, if_false]
                have hst : shp t.Levels (leavesS t.Size t.Leaf) = true := by rw [hsr]; simp [hy1]
                obtain ⟨l, r, hl, hlen⟩ := shp_head hst
                rw [show idx t.Levels 0 = some l by rw [hl, idx_zero], show t.Levels.headD [] = l by rw [hl]; rfl]
                simp only [Option.bind_some, hst, if_true]
                rw [tree_eq (by omega) (by omega)]
                simp only [Option.bind_some]
                have hll : (lvS l.length l).length ≤ lim := by
                  have : ∀ (n : Nat) (l : List Int), (lvS n l).length ≤ n + 1 := by
                    intro n
                    induction n with
                    | zero => intro l; simp [lvS]
                    | succ n ih => intro l; simp only [lvS]; split <;> simp; exact ih _
                  have := this l.length l
                  simp [lim]; omega
                rw [refSame_eq hll (fun x hx => by have := lv_mem _ _ _ hx; simp [lim]; omega)]
                by_cases he : lvS l.length l = t.Levels <;> simp [he]
              · have e2 : (!decide ((y.length : Int) = 1)) = true := by simp; omega
                simp only [e2, if_true]
                have hst : shp t.Levels (leavesS t.Size t.Leaf) = false := by rw [hsr]; simp [hy1]
                simp [hst]
          · rw [hs, Bool.false_and] at hsr
            simp [Fl.lift, Fl.then, hsr]
end Go.Proofs.Ytogflgcngfghpaa
end

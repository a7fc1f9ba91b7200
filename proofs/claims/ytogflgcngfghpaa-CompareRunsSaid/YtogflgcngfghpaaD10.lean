/- A part of the proof: function 50 No condition. -/
import Derived.Test.YtogflgcngfghpaaD09

/- function 50 -/
section
set_option maxHeartbeats 4000000
set_option linter.unusedVariables false
set_option linter.unusedSimpArgs false
namespace Go.Proofs.Ytogflgcngfghpaa
open Go.J
def f_ref44_Check (a0 : api_Walk) : Option (Int) :=
  (f_ref11_Check a0.Tree).bind fun x1 => if (!decide (x1 = 0)) = true then some x1 else (if (decide (a0.Level < 0)) = true then some true else some (decide ((a0.Tree.Levels.length : Int) ≤ a0.Level))).bind fun c3 => (if c3 = true then some true else (if a0.Done = true then some (!decide (a0.Level = 0)) else some false).bind fun c7 => some c7).bind fun c5 => (if c5 = true then some true else some (decide (a0.Sent < 0))).bind fun c9 => (if c9 = true then some true else some (decide (8192 < a0.Sent))).bind fun c11 => if c11 = true then some 2 else if a0.Done = true then (if (decide (0 < (a0.Pending.length : Int))) = true then some true else (f_ref01_Check a0.Found a0.Tree.Size).bind fun x17 => some (!decide (x17 = 0))).bind fun c15 => if c15 = true then some 3 else some 0 else (if (decide ((a0.Pending.length : Int) = 0)) = true then some true else (idx a0.Tree.Levels a0.Level).bind fun x19 => (f_ref01_Check a0.Pending (x19.length : Int)).bind fun x20 => some (!decide (x20 = 0))).bind fun c21 => (if c21 = true then some true else some (decide (0 < (a0.Found.length : Int)))).bind fun c22 => if c22 = true then some 3 else some 0

theorem c_ref44_Check {a0 : api_Walk} {r : Int} (h : f_ref44_Check a0 = some r) : Ct Try.prog 50 [r_api_Walk.at a0] [] (fun _ : Unit => (Rep.int .i64).at r) (fun _ => []) := by
  refine Ct.mk Try.func50 rfl Try.ntmps50 (by simp) fun I R => ?_
  refine J.drop0 ?_
  unfold f_ref44_Check at h
  refine J_seq ?_
  refine J_region ?_
  refine JLe0 (T_box (ρ := r_api_Walk) (.mk rfl)) rfl .none ?_
  refine JLp (T_assign rfl) rfl (nofun) .none ?_
  refine JL_nil ?_
  refine KJ_nrm_then (KJ_J ?_)
  refine J_seq ?_
  refine J_seq ?_
  refine J_region ?_
  refine JLp (T_faddri fo41_0 rfl hf_api_Walk_Tree) rfl (nofun) .none ?_
  refine JLp (T_load ty24 rfl) rfl (nofun) .none ?_
  replace h := bnd h; obtain ⟨x1, hx1, h⟩ := h
  refine JLe0 (T_call ⟨_, Try.func38, rfl, rfl⟩ (c_ref11_Check hx1) ⟨(.mk rfl), trivial⟩) rfl .none ?_
  refine JLp (T_assign rfl) rfl (nofun) .none ?_
  refine JL_nil ?_
  refine KJ_nrm_then (KJ_J ?_)
  refine J_seq ?_
  refine J_region ?_
  refine JLp (T_move rfl) rfl (nofun) .none ?_
  refine JLp (T_neq rfl rfl) rfl (nofun) .none ?_
  refine JL_nil ?_
  refine KJ_nrm_then (KJ_J ?_)
  refine J_test rfl (fun hq2 => ?_) (fun hq2 => ?_)
  · replace h := ift hq2 h
    refine J_seq ?_
    refine J_region ?_
    refine JLp (T_move rfl) rfl (nofun) .none ?_
    refine JLp (T_assign rfl) rfl (nofun) .none ?_
    refine JL_nil ?_
    refine KJ_nrm_then (KJ_J ?_)
    refine J_ret ?_
    refine KJ_ret_then ?_
    obtain rfl := inj h
    exact KJ_ret1' Try.results50 (.tmp (.mk rfl) Rv.nil) rfl rfl
  · replace h := iff_ hq2 h
    refine J_skip ?_
    refine KJ_nrm_then (KJ_J ?_)
    refine J_seq ?_
    refine J_seq ?_
    refine J_region ?_
    refine JLp (T_faddri fo41_2 rfl hf_api_Walk_Level) rfl (nofun) .none ?_
    refine JLp (T_load ty3 rfl) rfl (nofun) .none ?_
    refine JLp (T_lss rfl rfl) rfl (nofun) .none ?_
    refine JLp (T_move rfl) rfl (nofun) .none ?_
    replace h := bnd h; obtain ⟨c3, hc3, h⟩ := h
    refine JL_at 8 [(1, (Rep.iptr r_api_Walk).at a0), (21, Rep.bool.at c3)] (R) ?_ ?_
    · rcases Bool.eq_false_or_eq_true (decide (a0.Level < 0)) with hq4 | hq4
      · replace hc3 := ift hq4 hc3
        obtain rfl := inj hc3
        refine JLs rfl rfl hq4 rfl ?_
        refine JLs rfl rfl hq4 rfl ?_
        refine JLs rfl rfl hq4 rfl ?_
        refine JLs rfl rfl hq4 rfl ?_
        refine JLs rfl rfl hq4 rfl ?_
        refine JLs rfl rfl hq4 rfl ?_
        refine JLs rfl rfl hq4 rfl ?_
        refine JLp (T_pickT rfl hq4 rfl) rfl (nofun) .none ?_
        refine JL_nil ?_
        exact KJ.sub KJ_end (.cons rfl (.cons rfl (.nil _)))
      · replace hc3 := iff_ hq4 hc3
        refine JLp (T_faddri fo41_2 rfl hf_api_Walk_Level) rfl (nofun) (.y rfl rfl hq4) ?_
        refine JLp (T_load ty3 rfl) rfl (nofun) (.y rfl rfl hq4) ?_
        refine JLp (T_faddri fo41_0 rfl hf_api_Walk_Tree) rfl (nofun) (.y rfl rfl hq4) ?_
        refine JLp (T_faddri fo24_2 rfl hf_api_Tree_Levels) rfl (nofun) (.y rfl rfl hq4) ?_
        refine JLp (T_load ty22 rfl) rfl (nofun) (.y rfl rfl hq4) ?_
        refine JLp (T_len (ρ := (Rep.sl (Rep.int .u64) 1)) sl22 (.mk rfl)) rfl (nofun) (.y rfl rfl hq4) ?_
        refine JLp (T_geq rfl rfl) rfl (nofun) (.y rfl rfl hq4) ?_
        obtain rfl := inj hc3
        refine JLp (T_pickF rfl hq4 rfl) rfl (nofun) .none ?_
        refine JL_nil ?_
        exact KJ.sub KJ_end (.cons rfl (.cons rfl (.nil _)))
    refine JLp (T_move rfl) rfl (nofun) .none ?_
    replace h := bnd h; obtain ⟨c5, hc5, h⟩ := h
    refine JL_at 8 [(1, (Rep.iptr r_api_Walk).at a0), (30, Rep.bool.at c5)] (R) ?_ ?_
    · rcases Bool.eq_false_or_eq_true c3 with hq6 | hq6
      · replace hc5 := ift hq6 hc5
        obtain rfl := inj hc5
        refine JLs rfl rfl hq6 rfl ?_
        refine JLs rfl rfl hq6 rfl ?_
        refine JLs rfl rfl hq6 rfl ?_
        refine JLu rfl rfl rfl ?_
        refine JLu rfl rfl rfl ?_
        refine JLu rfl rfl rfl ?_
        refine JLs rfl rfl hq6 rfl ?_
        refine JLp (T_pickT rfl hq6 rfl) rfl (nofun) .none ?_
        refine JL_nil ?_
        exact KJ.sub KJ_end (.cons rfl (.cons rfl (.nil _)))
      · replace hc5 := iff_ hq6 hc5
        refine JLp (T_faddri fo41_5 rfl hf_api_Walk_Done) rfl (nofun) (.y rfl rfl hq6) ?_
        refine JLp (T_load ty4 rfl) rfl (nofun) (.y rfl rfl hq6) ?_
        refine JLp (T_move rfl) rfl (nofun) (.y rfl rfl hq6) ?_
        replace hc5 := bnd hc5; obtain ⟨c7, hc7, hc5⟩ := hc5
        refine JL_at 4 [(1, (Rep.iptr r_api_Walk).at a0), (22, Rep.bool.at c3), (29, Rep.bool.at c7)] (R) ?_ ?_
        · rcases Bool.eq_false_or_eq_true a0.Done with hq8 | hq8
          · replace hc7 := ift hq8 hc7
            refine JLp (T_faddri fo41_2 rfl hf_api_Walk_Level) rfl (nofun) (.y rfl rfl hq8) ?_
            refine JLp (T_load ty3 rfl) rfl (nofun) (.y rfl rfl hq8) ?_
            refine JLp (T_neq rfl rfl) rfl (nofun) (.y rfl rfl hq8) ?_
            obtain rfl := inj hc7
            refine JLp (T_pickT rfl hq8 rfl) rfl (nofun) (.y rfl rfl hq6) ?_
            refine JL_nil ?_
            exact KJ.sub KJ_end (.cons rfl (.cons rfl (.cons rfl (.nil _))))
          · replace hc7 := iff_ hq8 hc7
            obtain rfl := inj hc7
            refine JLs rfl rfl hq8 rfl ?_
            refine JLs rfl rfl hq8 rfl ?_
            refine JLs rfl rfl hq8 rfl ?_
            refine JLp (T_pickF rfl hq8 rfl) rfl (nofun) (.y rfl rfl hq6) ?_
            refine JL_nil ?_
            exact KJ.sub KJ_end (.cons rfl (.cons rfl (.cons rfl (.nil _))))
        obtain rfl := inj hc5
        refine JLp (T_pickF rfl hq6 rfl) rfl (nofun) .none ?_
        refine JL_nil ?_
        exact KJ.sub KJ_end (.cons rfl (.cons rfl (.nil _)))
    refine JLp (T_move rfl) rfl (nofun) .none ?_
    replace h := bnd h; obtain ⟨c9, hc9, h⟩ := h
    refine JL_at 4 [(1, (Rep.iptr r_api_Walk).at a0), (35, Rep.bool.at c9)] (R) ?_ ?_
    · rcases Bool.eq_false_or_eq_true c5 with hq10 | hq10
      · replace hc9 := ift hq10 hc9
        obtain rfl := inj hc9
        refine JLs rfl rfl hq10 rfl ?_
        refine JLs rfl rfl hq10 rfl ?_
        refine JLs rfl rfl hq10 rfl ?_
        refine JLp (T_pickT rfl hq10 rfl) rfl (nofun) .none ?_
        refine JL_nil ?_
        exact KJ.sub KJ_end (.cons rfl (.cons rfl (.nil _)))
      · replace hc9 := iff_ hq10 hc9
        refine JLp (T_faddri fo41_4 rfl hf_api_Walk_Sent) rfl (nofun) (.y rfl rfl hq10) ?_
        refine JLp (T_load ty3 rfl) rfl (nofun) (.y rfl rfl hq10) ?_
        refine JLp (T_lss rfl rfl) rfl (nofun) (.y rfl rfl hq10) ?_
        obtain rfl := inj hc9
        refine JLp (T_pickF rfl hq10 rfl) rfl (nofun) .none ?_
        refine JL_nil ?_
        exact KJ.sub KJ_end (.cons rfl (.cons rfl (.nil _)))
    refine JLp (T_move rfl) rfl (nofun) .none ?_
    replace h := bnd h; obtain ⟨c11, hc11, h⟩ := h
    refine JL_at 4 [(1, (Rep.iptr r_api_Walk).at a0), (40, Rep.bool.at c11)] (R) ?_ ?_
    · rcases Bool.eq_false_or_eq_true c9 with hq12 | hq12
      · replace hc11 := ift hq12 hc11
        obtain rfl := inj hc11
        refine JLs rfl rfl hq12 rfl ?_
        refine JLs rfl rfl hq12 rfl ?_
        refine JLs rfl rfl hq12 rfl ?_
        refine JLp (T_pickT rfl hq12 rfl) rfl (nofun) .none ?_
        refine JL_nil ?_
        exact KJ.sub KJ_end (.cons rfl (.cons rfl (.nil _)))
      · replace hc11 := iff_ hq12 hc11
        refine JLp (T_faddri fo41_4 rfl hf_api_Walk_Sent) rfl (nofun) (.y rfl rfl hq12) ?_
        refine JLp (T_load ty3 rfl) rfl (nofun) (.y rfl rfl hq12) ?_
        refine JLp (T_gtr rfl rfl) rfl (nofun) (.y rfl rfl hq12) ?_
        obtain rfl := inj hc11
        refine JLp (T_pickF rfl hq12 rfl) rfl (nofun) .none ?_
        refine JL_nil ?_
        exact KJ.sub KJ_end (.cons rfl (.cons rfl (.nil _)))
    refine JL_nil ?_
    refine KJ_nrm_then (KJ_J ?_)
    refine J_test rfl (fun hq13 => ?_) (fun hq13 => ?_)
    · replace h := ift hq13 h
      refine J_seq ?_
      refine J_region ?_
      refine JLp (T_assign rfl) rfl (nofun) .none ?_
      refine JL_nil ?_
      refine KJ_nrm_then (KJ_J ?_)
      refine J_ret ?_
      refine KJ_ret_then ?_
      obtain rfl := inj h
      exact KJ_ret1' Try.results50 (.tmp (.mk rfl) Rv.nil) rfl rfl
    · replace h := iff_ hq13 h
      refine J_skip ?_
      refine KJ_nrm_then (KJ_J ?_)
      refine J_seq ?_
      refine J_seq ?_
      refine J_region ?_
      refine JLp (T_faddri fo41_5 rfl hf_api_Walk_Done) rfl (nofun) .none ?_
      refine JLp (T_load ty4 rfl) rfl (nofun) .none ?_
      refine JL_nil ?_
      refine KJ_nrm_then (KJ_J ?_)
      refine J_test rfl (fun hq14 => ?_) (fun hq14 => ?_)
      · replace h := ift hq14 h
        refine J_seq ?_
        refine J_seq ?_
        refine J_region ?_
        refine JLp (T_faddri fo41_1 rfl hf_api_Walk_Pending) rfl (nofun) .none ?_
        refine JLp (T_load ty39 rfl) rfl (nofun) .none ?_
        refine JLp (T_len (ρ := r_api_Extent) sl39 (.mk rfl)) rfl (nofun) .none ?_
        refine JLp (T_gtr rfl rfl) rfl (nofun) .none ?_
        refine JLp (T_move rfl) rfl (nofun) .none ?_
        replace h := bnd h; obtain ⟨c15, hc15, h⟩ := h
        refine JL_at 8 [(55, Rep.bool.at c15)] (R) ?_ ?_
        · rcases Bool.eq_false_or_eq_true (decide (0 < (a0.Pending.length : Int))) with hq16 | hq16
          · replace hc15 := ift hq16 hc15
            obtain rfl := inj hc15
            refine JLs rfl rfl hq16 rfl ?_
            refine JLs rfl rfl hq16 rfl ?_
            refine JLs rfl rfl hq16 rfl ?_
            refine JLs rfl rfl hq16 rfl ?_
            refine JLs rfl rfl hq16 rfl ?_
            refine JLs rfl rfl hq16 rfl ?_
            refine JLs rfl rfl hq16 rfl ?_
            refine JLp (T_pickT rfl hq16 rfl) rfl (nofun) .none ?_
            refine JL_nil ?_
            exact KJ.sub KJ_end (.cons rfl (.nil _))
          · replace hc15 := iff_ hq16 hc15
            refine JLp (T_faddri fo41_3 rfl hf_api_Walk_Found) rfl (nofun) (.y rfl rfl hq16) ?_
            refine JLp (T_load ty39 rfl) rfl (nofun) (.y rfl rfl hq16) ?_
            refine JLp (T_faddri fo41_0 rfl hf_api_Walk_Tree) rfl (nofun) (.y rfl rfl hq16) ?_
            refine JLp (T_faddri fo24_0 rfl hf_api_Tree_Size) rfl (nofun) (.y rfl rfl hq16) ?_
            refine JLp (T_load ty3 rfl) rfl (nofun) (.y rfl rfl hq16) ?_
            replace hc15 := bnd hc15; obtain ⟨x17, hx17, hc15⟩ := hc15
            refine JLe0 (T_call ⟨_, Try.func39, rfl, rfl⟩ (c_ref01_Check hx17) ⟨(.mk rfl), ⟨(.mk rfl), trivial⟩⟩) rfl (.y rfl rfl hq16) ?_
            refine JLp (T_neq rfl rfl) rfl (nofun) (.y rfl rfl hq16) ?_
            obtain rfl := inj hc15
            refine JLp (T_pickF rfl hq16 rfl) rfl (nofun) .none ?_
            refine JL_nil ?_
            exact KJ.sub KJ_end (.cons rfl (.nil _))
        refine JL_nil ?_
        refine KJ_nrm_then (KJ_J ?_)
        refine J_test rfl (fun hq18 => ?_) (fun hq18 => ?_)
        · replace h := ift hq18 h
          refine J_seq ?_
          refine J_region ?_
          refine JLp (T_assign rfl) rfl (nofun) .none ?_
          refine JL_nil ?_
          refine KJ_nrm_then (KJ_J ?_)
          refine J_ret ?_
          refine KJ_ret_then ?_
          refine KJ_ret_then ?_
          obtain rfl := inj h
          exact KJ_ret1' Try.results50 (.tmp (.mk rfl) Rv.nil) rfl rfl
        · replace h := iff_ hq18 h
          refine J_skip ?_
          refine KJ_nrm_then (KJ_J ?_)
          refine J_seq ?_
          refine J_region ?_
          refine JLp (T_assign rfl) rfl (nofun) .none ?_
          refine JL_nil ?_
          refine KJ_nrm_then (KJ_J ?_)
          refine J_ret ?_
          refine KJ_ret_then ?_
          obtain rfl := inj h
          exact KJ_ret1' Try.results50 (.tmp (.mk rfl) Rv.nil) rfl rfl
      · replace h := iff_ hq14 h
        refine J_skip ?_
        refine KJ_nrm_then (KJ_J ?_)
        refine J_seq ?_
        refine J_seq ?_
        replace h := bnd h; obtain ⟨c21, hc21, h⟩ := h
        replace h := bnd h; obtain ⟨c22, hc22, h⟩ := h
        refine J_cutN [(79, Rep.bool.at c22)] (R) ?_ ?_
        · rcases Bool.eq_false_or_eq_true (decide ((a0.Pending.length : Int) = 0)) with hqc21 | hqc21
          · replace hc21 := ift hqc21 hc21
            obtain rfl := inj hc21
            replace hc22 := ift rfl hc22
            obtain rfl := inj hc22
            refine J_drawR (Ks := []) rfl (by kernel_rfl) fun K hK => ?_
            refine DR.p (.base (t := 1) rfl .nil) (T_faddri fo41_1 rfl hf_api_Walk_Pending) .none rfl rfl (nofun) ?_
            refine DR.p (.dep 0 0 rfl rfl rfl .nil) (T_load ty39 rfl) .none rfl rfl (nofun) ?_
            refine DR.p (.dep 1 0 rfl rfl rfl .nil) (T_len (ρ := r_api_Extent) sl39 (.mk rfl)) .none rfl rfl (nofun) ?_
            refine DR.p (.dep 2 0 rfl rfl rfl .nil) (T_eql rfl rfl) .none rfl rfl (nofun) ?_
            refine DR.p (.dep 3 0 rfl rfl rfl .nil) (T_move rfl) .none rfl rfl (nofun) ?_
            refine DR.x (.dep 4 0 rfl rfl rfl .nil) rfl rfl hqc21 rfl rfl ?_
            refine DR.x (.dep 4 1 rfl rfl rfl .nil) rfl rfl hqc21 rfl rfl ?_
            refine DR.x (.dep 4 2 rfl rfl rfl .nil) rfl rfl hqc21 rfl rfl ?_
            refine DR.x (.dep 4 3 rfl rfl rfl .nil) rfl rfl hqc21 rfl rfl ?_
            refine DR.x (.dep 4 4 rfl rfl rfl .nil) rfl rfl hqc21 rfl rfl ?_
            refine DR.x (.dep 4 5 rfl rfl rfl .nil) rfl rfl hqc21 rfl rfl ?_
            refine DR.x (.dep 4 6 rfl rfl rfl .nil) rfl rfl hqc21 rfl rfl ?_
            refine DR.x (.dep 4 7 rfl rfl rfl .nil) rfl rfl hqc21 rfl rfl ?_
            refine DR.x (.dep 4 8 rfl rfl rfl .nil) rfl rfl hqc21 rfl rfl ?_
            refine DR.x (.dep 4 9 rfl rfl rfl .nil) rfl rfl hqc21 rfl rfl ?_
            refine DR.tail (by kernel_rfl) (.refl _) rfl ?_
            simp only [List.reverse_cons, List.reverse_nil, List.nil_append, List.cons_append, DT]
            refine JLs rfl rfl hqc21 rfl ?_
            refine JLs rfl rfl hqc21 rfl ?_
            refine JLp (T_pickT rfl hqc21 rfl) rfl (nofun) .none ?_
            refine JLp (T_move rfl) rfl (nofun) .none ?_
            refine JLs rfl rfl rfl rfl ?_
            refine JLs rfl rfl rfl rfl ?_
            refine JLs rfl rfl rfl rfl ?_
            refine JLs rfl rfl rfl rfl ?_
            refine JLp (T_pickT rfl rfl rfl) rfl (nofun) .none ?_
            refine JL_nil (KJ_hid hK ?_)
            exact KJ.sub KJ_end (.cons rfl (.nil _))
          · replace hc21 := iff_ hqc21 hc21
            replace hc21 := bnd hc21; obtain ⟨x19, hx19, hc21⟩ := hc21
            replace hc21 := bnd hc21; obtain ⟨x20, hx20, hc21⟩ := hc21
            obtain rfl := inj hc21
            rcases Bool.eq_false_or_eq_true (!decide (x20 = 0)) with hqc22 | hqc22
            · replace hc22 := ift hqc22 hc22
              obtain rfl := inj hc22
              refine J_drawR (Ks := []) rfl (by kernel_rfl) fun K hK => ?_
              refine DR.p (.base (t := 1) rfl .nil) (T_faddri fo41_1 rfl hf_api_Walk_Pending) .none rfl rfl (nofun) ?_
              refine DR.p (.dep 0 0 rfl rfl rfl .nil) (T_load ty39 rfl) .none rfl rfl (nofun) ?_
              refine DR.p (.dep 1 0 rfl rfl rfl .nil) (T_len (ρ := r_api_Extent) sl39 (.mk rfl)) .none rfl rfl (nofun) ?_
              refine DR.p (.dep 2 0 rfl rfl rfl .nil) (T_eql rfl rfl) .none rfl rfl (nofun) ?_
              refine DR.p (.dep 3 0 rfl rfl rfl .nil) (T_move rfl) .none rfl rfl (nofun) ?_
              refine DR.p (.base (t := 1) rfl (.dep 4 0 rfl rfl rfl .nil)) (T_faddri fo41_1 rfl hf_api_Walk_Pending) (.y rfl rfl hqc21) rfl rfl (nofun) ?_
              refine DR.p (.dep 5 0 rfl rfl rfl (.dep 4 1 rfl rfl rfl .nil)) (T_load ty39 rfl) (.y rfl rfl hqc21) rfl rfl (nofun) ?_
              refine DR.p (.base (t := 1) rfl (.dep 4 2 rfl rfl rfl .nil)) (T_faddri fo41_0 rfl hf_api_Walk_Tree) (.y rfl rfl hqc21) rfl rfl (nofun) ?_
              refine DR.p (.dep 7 0 rfl rfl rfl (.dep 4 3 rfl rfl rfl .nil)) (T_faddri fo24_2 rfl hf_api_Tree_Levels) (.y rfl rfl hqc21) rfl rfl (nofun) ?_
              refine DR.p (.dep 8 0 rfl rfl rfl (.dep 4 4 rfl rfl rfl .nil)) (T_load ty22 rfl) (.y rfl rfl hqc21) rfl rfl (nofun) ?_
              refine DR.p (.base (t := 1) rfl (.dep 4 5 rfl rfl rfl .nil)) (T_faddri fo41_2 rfl hf_api_Walk_Level) (.y rfl rfl hqc21) rfl rfl (nofun) ?_
              refine DR.p (.dep 10 0 rfl rfl rfl (.dep 4 6 rfl rfl rfl .nil)) (T_load ty3 rfl) (.y rfl rfl hqc21) rfl rfl (nofun) ?_
              refine DR.p (.dep 9 2 rfl rfl rfl (.dep 11 0 rfl rfl rfl (.dep 4 7 rfl rfl rfl .nil))) (T_ix sl22 (.mk rfl) rfl hx19) (.y rfl rfl hqc21) rfl rfl (nofun) ?_
              refine DR.p (.dep 12 0 rfl rfl rfl (.dep 4 8 rfl rfl rfl .nil)) (T_load ty67 rfl) (.y rfl rfl hqc21) rfl rfl (nofun) ?_
              refine DR.p (.dep 13 0 rfl rfl rfl (.dep 4 9 rfl rfl rfl .nil)) (T_len (ρ := (Rep.int .u64)) sl67 (.mk rfl)) (.y rfl rfl hqc21) rfl rfl (nofun) ?_
              refine DR.tail (by kernel_rfl) (.refl _) rfl ?_
              simp only [List.reverse_cons, List.reverse_nil, List.nil_append, List.cons_append, DT]
              refine JLe0 (T_call ⟨_, Try.func39, rfl, rfl⟩ (c_ref01_Check hx20) ⟨(.mk rfl), ⟨(.mk rfl), trivial⟩⟩) rfl (.y rfl rfl hqc21) ?_
              refine JLp (T_neq rfl rfl) rfl (nofun) (.y rfl rfl hqc21) ?_
              refine JLp (T_pickF rfl hqc21 rfl) rfl (nofun) .none ?_
              refine JLp (T_move rfl) rfl (nofun) .none ?_
              refine JLs rfl rfl hqc22 rfl ?_
              refine JLs rfl rfl hqc22 rfl ?_
              refine JLs rfl rfl hqc22 rfl ?_
              refine JLs rfl rfl hqc22 rfl ?_
              refine JLp (T_pickT rfl hqc22 rfl) rfl (nofun) .none ?_
              refine JL_nil (KJ_hid hK ?_)
              exact KJ.sub KJ_end (.cons rfl (.nil _))
            · replace hc22 := iff_ hqc22 hc22
              obtain rfl := inj hc22
              refine J_drawR (Ks := []) rfl (by kernel_rfl) fun K hK => ?_
              refine DR.p (.base (t := 1) rfl .nil) (T_faddri fo41_1 rfl hf_api_Walk_Pending) .none rfl rfl (nofun) ?_
              refine DR.p (.dep 0 0 rfl rfl rfl .nil) (T_load ty39 rfl) .none rfl rfl (nofun) ?_
              refine DR.p (.dep 1 0 rfl rfl rfl .nil) (T_len (ρ := r_api_Extent) sl39 (.mk rfl)) .none rfl rfl (nofun) ?_
              refine DR.p (.dep 2 0 rfl rfl rfl .nil) (T_eql rfl rfl) .none rfl rfl (nofun) ?_
              refine DR.p (.dep 3 0 rfl rfl rfl .nil) (T_move rfl) .none rfl rfl (nofun) ?_
              refine DR.p (.base (t := 1) rfl (.dep 4 0 rfl rfl rfl .nil)) (T_faddri fo41_1 rfl hf_api_Walk_Pending) (.y rfl rfl hqc21) rfl rfl (nofun) ?_
              refine DR.p (.dep 5 0 rfl rfl rfl (.dep 4 1 rfl rfl rfl .nil)) (T_load ty39 rfl) (.y rfl rfl hqc21) rfl rfl (nofun) ?_
              refine DR.p (.base (t := 1) rfl (.dep 4 2 rfl rfl rfl .nil)) (T_faddri fo41_0 rfl hf_api_Walk_Tree) (.y rfl rfl hqc21) rfl rfl (nofun) ?_
              refine DR.p (.dep 7 0 rfl rfl rfl (.dep 4 3 rfl rfl rfl .nil)) (T_faddri fo24_2 rfl hf_api_Tree_Levels) (.y rfl rfl hqc21) rfl rfl (nofun) ?_
              refine DR.p (.dep 8 0 rfl rfl rfl (.dep 4 4 rfl rfl rfl .nil)) (T_load ty22 rfl) (.y rfl rfl hqc21) rfl rfl (nofun) ?_
              refine DR.p (.base (t := 1) rfl (.dep 4 5 rfl rfl rfl .nil)) (T_faddri fo41_2 rfl hf_api_Walk_Level) (.y rfl rfl hqc21) rfl rfl (nofun) ?_
              refine DR.p (.dep 10 0 rfl rfl rfl (.dep 4 6 rfl rfl rfl .nil)) (T_load ty3 rfl) (.y rfl rfl hqc21) rfl rfl (nofun) ?_
              refine DR.p (.dep 9 2 rfl rfl rfl (.dep 11 0 rfl rfl rfl (.dep 4 7 rfl rfl rfl .nil))) (T_ix sl22 (.mk rfl) rfl hx19) (.y rfl rfl hqc21) rfl rfl (nofun) ?_
              refine DR.p (.dep 12 0 rfl rfl rfl (.dep 4 8 rfl rfl rfl .nil)) (T_load ty67 rfl) (.y rfl rfl hqc21) rfl rfl (nofun) ?_
              refine DR.p (.dep 13 0 rfl rfl rfl (.dep 4 9 rfl rfl rfl .nil)) (T_len (ρ := (Rep.int .u64)) sl67 (.mk rfl)) (.y rfl rfl hqc21) rfl rfl (nofun) ?_
              refine DR.tail (by kernel_rfl) (.refl _) rfl ?_
              simp only [List.reverse_cons, List.reverse_nil, List.nil_append, List.cons_append, DT]
              refine JLe0 (T_call ⟨_, Try.func39, rfl, rfl⟩ (c_ref01_Check hx20) ⟨(.mk rfl), ⟨(.mk rfl), trivial⟩⟩) rfl (.y rfl rfl hqc21) ?_
              refine JLp (T_neq rfl rfl) rfl (nofun) (.y rfl rfl hqc21) ?_
              refine JLp (T_pickF rfl hqc21 rfl) rfl (nofun) .none ?_
              refine JLp (T_move rfl) rfl (nofun) .none ?_
              refine JLp (T_faddri fo41_3 rfl hf_api_Walk_Found) rfl (nofun) (.y rfl rfl hqc22) ?_
              refine JLp (T_load ty39 rfl) rfl (nofun) (.y rfl rfl hqc22) ?_
              refine JLp (T_len (ρ := r_api_Extent) sl39 (.mk rfl)) rfl (nofun) (.y rfl rfl hqc22) ?_
              refine JLp (T_gtr rfl rfl) rfl (nofun) (.y rfl rfl hqc22) ?_
              refine JLp (T_pickF rfl hqc22 rfl) rfl (nofun) .none ?_
              refine JL_nil (KJ_hid hK ?_)
              exact KJ.sub KJ_end (.cons rfl (.nil _))
        · refine KJ_nrm_then (KJ_J ?_)
          refine J_test rfl (fun hq23 => ?_) (fun hq23 => ?_)
          · replace h := ift hq23 h
            refine J_seq ?_
            refine J_region ?_
            refine JLp (T_assign rfl) rfl (nofun) .none ?_
            refine JL_nil ?_
            refine KJ_nrm_then (KJ_J ?_)
            refine J_ret ?_
            refine KJ_ret_then ?_
            obtain rfl := inj h
            exact KJ_ret1' Try.results50 (.tmp (.mk rfl) Rv.nil) rfl rfl
          · replace h := iff_ hq23 h
            refine J_skip ?_
            refine KJ_nrm_then (KJ_J ?_)
            refine J_seq ?_
            refine J_region ?_
            refine JLp (T_assign rfl) rfl (nofun) .none ?_
            refine JL_nil ?_
            refine KJ_nrm_then (KJ_J ?_)
            refine J_ret ?_
            obtain rfl := inj h
            exact KJ_ret1' Try.results50 (.tmp (.mk rfl) Rv.nil) rfl rfl
end Go.Proofs.Ytogflgcngfghpaa
end

/- function 51 -/
section
set_option maxHeartbeats 4000000
set_option linter.unusedVariables false
set_option linter.unusedSimpArgs false
namespace Go.Proofs.Ytogflgcngfghpaa
open Go.J
def f_ref44_Request (a0 : api_Walk) : Option (api_Message) :=
  (whileF (σ := List Int × Int) (ρ := api_Message) (fun s3 => if (decide (s3.2 < (a0.Pending.length : Int))) = true then (idx a0.Pending s3.2).bind fun x11 => (idx a0.Pending s3.2).bind fun x12 => (app 8 s3.1 [x11.Start, x12.Count]).bind fun x13 => some (Rd.next (x13, IntKind.i64.wrap (s3.2 + 1))) else some (Rd.done (s3.1, s3.2))) bigK (([a0.Tree.Size, a0.Tree.Leaf] : List Int), 0)).bind fun o5 => o5.then fun s3 => some (⟨13, 0, 0, a0.Level, 0, 0, s3.1, []⟩ : api_Message)

theorem c_ref44_Request {a0 : api_Walk} {r : api_Message} (h : f_ref44_Request a0 = some r) : Ct Try.prog 51 [r_api_Walk.at a0] [] (fun _ : Unit => r_api_Message.at r) (fun _ => []) := by
  refine Ct.mk Try.func51 rfl Try.ntmps51 (by simp) fun I R => ?_
  refine J.drop0 ?_
  unfold f_ref44_Request at h
  refine J_seq ?_
  refine J_region ?_
  refine JLe0 (T_box (ρ := r_api_Walk) (.mk rfl)) rfl .none ?_
  refine JLa (T_alloc z28 lay_api_Message) rfl .none fun b1 => ?_
  refine JL_nil ?_
  refine KJ_nrm_then (KJ_J ?_)
  refine J_seq ?_
  refine J_region ?_
  refine JLp (T_faddri fo41_0 rfl hf_api_Walk_Tree) rfl (nofun) .none ?_
  refine JLp (T_faddri fo24_0 rfl hf_api_Tree_Size) rfl (nofun) .none ?_
  refine JLp (T_load ty3 rfl) rfl (nofun) .none ?_
  refine JLp (T_faddri fo41_0 rfl hf_api_Walk_Tree) rfl (nofun) .none ?_
  refine JLp (T_faddri fo24_1 rfl hf_api_Tree_Leaf) rfl (nofun) .none ?_
  refine JLp (T_load ty3 rfl) rfl (nofun) .none ?_
  refine JLv (T_bslr (ρ := (Rep.int .i64)) sl25 (Lay.int _) (.cons (.mk rfl) (.cons (.mk rfl) .nil)) rfl (by decide)) rfl .none fun g2 => ?_
  refine JLp (T_assign rfl) rfl (nofun) .none ?_
  refine JL_nil ?_
  refine KJ_nrm_then (KJ_J ?_)
  refine J_seq ?_
  refine J_seq ?_
  refine J_region ?_
  refine JLp (T_assign rfl) rfl (nofun) .none ?_
  refine JL_nil ?_
  refine KJ_nrm_then (KJ_J ?_)
  replace h := bnd h; obtain ⟨o5, ho6, h⟩ := h
  refine J_cuto o5 (fun (s3 : List Int × Int) (g4 : Value) => [(1, (Rep.iptr r_api_Walk).at a0), (2, Rep.ptr.at (b1, 0)), (3, Rep.slv.at g4)]) (fun s3 g4 => Ent.row g4 3 1 (Rep.int .i64) s3.1 :: Ent.box b1 r_api_Message (⟨0, 0, 0, 0, 0, 0, [], []⟩ : api_Message) :: R) ?_ ?_
  · refine J_block ?_
    refine J_while ho6 (fun (s3 : List Int × Int) (g4 : Value) => [(1, (Rep.iptr r_api_Walk).at a0), (2, Rep.ptr.at (b1, 0)), (3, Rep.slv.at g4), (4, (Rep.int .i64).at s3.2)]) (fun s3 g4 => Ent.row g4 3 1 (Rep.int .i64) s3.1 :: Ent.box b1 r_api_Message (⟨0, 0, 0, 0, 0, 0, [], []⟩ : api_Message) :: R) g2 (.cons rfl (.cons rfl (.cons rfl (.cons rfl (.nil _))))) rfl ?_
    intro s3 g4 st9 hb7 hf8
    refine J_seq ?_
    refine J_seq ?_
    refine J_region ?_
    refine JLp (T_move rfl) rfl (nofun) .none ?_
    refine JLp (T_faddri fo41_1 rfl hf_api_Walk_Pending) rfl (nofun) .none ?_
    refine JLp (T_load ty39 rfl) rfl (nofun) .none ?_
    refine JLp (T_len (ρ := r_api_Extent) sl39 (.mk rfl)) rfl (nofun) .none ?_
    refine JLp (T_lss rfl rfl) rfl (nofun) .none ?_
    refine JL_nil ?_
    refine KJ_nrm_then (KJ_J ?_)
    refine J_test rfl (fun hq10 => ?_) (fun hq10 => ?_)
    · replace hb7 := ift hq10 hb7
      refine J_skip ?_
      refine KJ_nrm_then (KJ_J ?_)
      refine J_seq ?_
      refine J_block ?_
      replace hb7 := bnd hb7; obtain ⟨x11, hx11, hb7⟩ := hb7
      replace hb7 := bnd hb7; obtain ⟨x12, hx12, hb7⟩ := hb7
      refine J_drawR (Ks := []) rfl (by kernel_rfl) fun K hK => ?_
      refine DR.p (.base (t := 3) rfl .nil) (T_move rfl) .none rfl rfl (nofun) ?_
      refine DR.p (.base (t := 1) rfl .nil) (T_faddri fo41_1 rfl hf_api_Walk_Pending) .none rfl rfl (nofun) ?_
      refine DR.p (.dep 1 0 rfl rfl rfl .nil) (T_load ty39 rfl) .none rfl rfl (nofun) ?_
      refine DR.p (.base (t := 4) rfl .nil) (T_move rfl) .none rfl rfl (nofun) ?_
      refine DR.p (.dep 2 1 rfl rfl rfl (.dep 3 0 rfl rfl rfl .nil)) (T_ix sl39 (.mk rfl) rfl hx11) .none rfl rfl (nofun) ?_
      refine DR.p (.dep 4 0 rfl rfl rfl .nil) (T_faddri fo62_0 rfl hf_api_Extent_Start) .none rfl rfl (nofun) ?_
      refine DR.p (.dep 5 0 rfl rfl rfl .nil) (T_load ty3 rfl) .none rfl rfl (nofun) ?_
      refine DR.p (.base (t := 1) rfl .nil) (T_faddri fo41_1 rfl hf_api_Walk_Pending) .none rfl rfl (nofun) ?_
      refine DR.p (.dep 7 0 rfl rfl rfl .nil) (T_load ty39 rfl) .none rfl rfl (nofun) ?_
      refine DR.p (.base (t := 4) rfl .nil) (T_move rfl) .none rfl rfl (nofun) ?_
      refine DR.p (.dep 8 1 rfl rfl rfl (.dep 9 0 rfl rfl rfl .nil)) (T_ix sl39 (.mk rfl) rfl hx12) .none rfl rfl (nofun) ?_
      refine DR.p (.dep 10 0 rfl rfl rfl .nil) (T_faddri fo62_1 rfl hf_api_Extent_Count) .none rfl rfl (nofun) ?_
      refine DR.p (.dep 11 0 rfl rfl rfl .nil) (T_load ty3 rfl) .none rfl rfl (nofun) ?_
      refine DR.e (.dep 6 6 rfl rfl rfl (.dep 12 0 rfl rfl rfl .nil)) (T_bslice (ρ := (Rep.int .i64)) sl25 (Lay.int _) (.cons (.mk rfl) (.cons (.mk rfl) .nil)) rfl (by decide)) .none rfl rfl ?_
      refine DR.tail (by kernel_rfl) (.refl _) rfl ?_
      simp only [List.reverse_cons, List.reverse_nil, List.nil_append, List.cons_append, DT]
      replace hb7 := bnd hb7; obtain ⟨x13, hx13, hb7⟩ := hb7
      refine JLe1 (T_append sl25 ⟨_, (Lay.int _)⟩ (.mk rfl) (.mk rfl) hx13) rfl .none fun g14 => ?_
      refine JLp (T_assign rfl) rfl (nofun) .none ?_
      refine JL_nil (KJ_hid hK ?_)
      refine KJ_nrm_blk ?_
      refine KJ_nrm_then (KJ_J ?_)
      refine J_region ?_
      refine JLp (T_move rfl) rfl (nofun) .none ?_
      refine JLp (T_add rfl rfl) rfl (nofun) .none ?_
      refine JLp (T_assign rfl) rfl (nofun) .none ?_
      refine JL_nil ?_
      refine KJ_nrm_then ?_
      exact KJ_nx (x13, IntKind.i64.wrap (s3.2 + 1)) g14 (inj hb7) (.cons rfl (.cons rfl (.cons rfl (.cons rfl (.nil _))))) rfl
    · replace hb7 := iff_ hq10 hb7
      refine J_exit ?_
      refine KJ_exit_then ?_
      refine KJ_exit_then ?_
      refine KJ_exit_here ?_
      refine KJ_nrm_kq ?_
      obtain rfl := inj hb7
      exact KJ_ot (s3.1, s3.2) g4 hf8 (.cons rfl (.cons rfl (.cons rfl (.nil _)))) rfl
  · intro s3 g4 hs
    subst hs
    replace h := thn h
    refine KJ_nrm_then (KJ_J ?_)
    refine J_seq ?_
    refine J_region ?_
    refine JLp (T_faddri fo41_2 rfl hf_api_Walk_Level) rfl (nofun) .none ?_
    refine JLp (T_load ty3 rfl) rfl (nofun) .none ?_
    refine JLp (T_move rfl) rfl (nofun) .none ?_
    refine JL_freeze2 36 3 rfl rfl ?_
    refine JLp (T_build (s' := (⟨13, 0, 0, a0.Level, 0, 0, s3.1, []⟩ : api_Message)) bd28 z28 lay_api_Message (.cons (π := (Rep.int .i64)) (.mk rfl) rfl (Lay.int _) sf_api_Message_Kind (.cons (π := (Rep.int .i64)) (.mk rfl) rfl (Lay.int _) sf_api_Message_Number (.cons (π := (Rep.sl (Rep.int .i64) 1)) (.mk rfl) rfl (Lay.sl _ _) sf_api_Message_Values .nil)))) rfl (nofun) .none ?_
    refine JLn1 (T_store ty28 rfl (.mk rfl) (SetF.self lay_api_Message)) .none ?_
    refine JL_nil ?_
    refine KJ_nrm_then (KJ_J ?_)
    refine J_ret ?_
    obtain rfl := inj h
    exact KJ_ret1c () [Ent.box b1 r_api_Message (⟨13, 0, 0, a0.Level, 0, 0, s3.1, []⟩ : api_Message)] rfl Try.results51 (.cell ty28 rfl (by simp) Rv.nil) rfl rfl
end Go.Proofs.Ytogflgcngfghpaa
end

/- function 52 -/
section
set_option maxHeartbeats 4000000
set_option linter.unusedVariables false
set_option linter.unusedSimpArgs false
namespace Go.Proofs.Ytogflgcngfghpaa
open Go.J
def f_ref15_SameInts (a0 : List Int) (a1 : List Int) : Option (Bool) :=
  if (!decide ((a0.length : Int) = (a1.length : Int))) = true then some false else (whileF (σ := Int) (ρ := Bool) (fun s2 => if (decide (s2 < (a0.length : Int))) = true then (idx a0 s2).bind fun x10 => (idx a1 s2).bind fun x11 => if (!decide (x10 = x11)) = true then some (Rd.ret false) else some (Rd.next (IntKind.i64.wrap (s2 + 1))) else some (Rd.done s2)) bigK 0).bind fun o4 => o4.then fun s2 => some true

theorem c_ref15_SameInts {a0 : List Int} {a1 : List Int} {r : Bool} (h : f_ref15_SameInts a0 a1 = some r) : Ct Try.prog 52 [(Rep.sl (Rep.int .i64) 1).at a0, (Rep.sl (Rep.int .i64) 1).at a1] [] (fun _ : Unit => Rep.bool.at r) (fun _ => []) := by
  refine Ct.mk Try.func52 rfl Try.ntmps52 (by simp) fun I R => ?_
  refine J.drop0 ?_
  unfold f_ref15_SameInts at h
  refine J_seq ?_
  refine J_region ?_
  refine JLp (T_assign rfl) rfl (nofun) .none ?_
  refine JL_nil ?_
  refine KJ_nrm_then (KJ_J ?_)
  refine J_seq ?_
  refine J_seq ?_
  refine J_region ?_
  refine JLp (T_move rfl) rfl (nofun) .none ?_
  refine JLp (T_len (ρ := (Rep.int .i64)) sl25 (.mk rfl)) rfl (nofun) .none ?_
  refine JLp (T_move rfl) rfl (nofun) .none ?_
  refine JLp (T_len (ρ := (Rep.int .i64)) sl25 (.mk rfl)) rfl (nofun) .none ?_
  refine JLp (T_neq rfl rfl) rfl (nofun) .none ?_
  refine JL_nil ?_
  refine KJ_nrm_then (KJ_J ?_)
  refine J_test rfl (fun hq1 => ?_) (fun hq1 => ?_)
  · replace h := ift hq1 h
    refine J_seq ?_
    refine J_region ?_
    refine JLp (T_assign rfl) rfl (nofun) .none ?_
    refine JL_nil ?_
    refine KJ_nrm_then (KJ_J ?_)
    refine J_ret ?_
    refine KJ_ret_then ?_
    obtain rfl := inj h
    exact KJ_ret1' Try.results52 (.tmp (.mk rfl) Rv.nil) rfl rfl
  · replace h := iff_ hq1 h
    refine J_skip ?_
    refine KJ_nrm_then (KJ_J ?_)
    refine J_seq ?_
    refine J_seq ?_
    refine J_region ?_
    refine JLp (T_assign rfl) rfl (nofun) .none ?_
    refine JL_nil ?_
    refine KJ_nrm_then (KJ_J ?_)
    replace h := bnd h; obtain ⟨o4, ho5, h⟩ := h
    refine J_cuto o4 (fun (s2 : Int) (g3 : Unit) => []) (fun s2 g3 => R) ?_ ?_
    · refine J_block ?_
      refine J_while ho5 (fun (s2 : Int) (g3 : Unit) => [(0, (Rep.sl (Rep.int .i64) 1).at a0), (1, (Rep.sl (Rep.int .i64) 1).at a1), (5, (Rep.int .i64).at s2)]) (fun s2 g3 => R) () (.cons rfl (.cons rfl (.cons rfl (.nil _)))) rfl ?_
      intro s2 g3 st8 hb6 hf7
      refine J_seq ?_
      refine J_seq ?_
      refine J_region ?_
      refine JLp (T_move rfl) rfl (nofun) .none ?_
      refine JLp (T_move rfl) rfl (nofun) .none ?_
      refine JLp (T_len (ρ := (Rep.int .i64)) sl25 (.mk rfl)) rfl (nofun) .none ?_
      refine JLp (T_lss rfl rfl) rfl (nofun) .none ?_
      refine JL_nil ?_
      refine KJ_nrm_then (KJ_J ?_)
      refine J_test rfl (fun hq9 => ?_) (fun hq9 => ?_)
      · replace hb6 := ift hq9 hb6
        refine J_skip ?_
        refine KJ_nrm_then (KJ_J ?_)
        refine J_seq ?_
        refine J_block ?_
        refine J_seq ?_
        replace hb6 := bnd hb6; obtain ⟨x10, hx10, hb6⟩ := hb6
        replace hb6 := bnd hb6; obtain ⟨x11, hx11, hb6⟩ := hb6
        refine J_drawR (Ks := []) rfl (by kernel_rfl) fun K hK => ?_
        refine DR.p (.base (t := 0) rfl .nil) (T_move rfl) .none rfl rfl (nofun) ?_
        refine DR.p (.base (t := 5) rfl .nil) (T_move rfl) .none rfl rfl (nofun) ?_
        refine DR.p (.dep 0 1 rfl rfl rfl (.dep 1 0 rfl rfl rfl .nil)) (T_ix sl25 (.mk rfl) rfl hx10) .none rfl rfl (nofun) ?_
        refine DR.p (.dep 2 0 rfl rfl rfl .nil) (T_load ty3 rfl) .none rfl rfl (nofun) ?_
        refine DR.p (.base (t := 1) rfl .nil) (T_move rfl) .none rfl rfl (nofun) ?_
        refine DR.p (.base (t := 5) rfl .nil) (T_move rfl) .none rfl rfl (nofun) ?_
        refine DR.p (.dep 4 1 rfl rfl rfl (.dep 5 0 rfl rfl rfl .nil)) (T_ix sl25 (.mk rfl) rfl hx11) .none rfl rfl (nofun) ?_
        refine DR.p (.dep 6 0 rfl rfl rfl .nil) (T_load ty3 rfl) .none rfl rfl (nofun) ?_
        refine DR.tail (by kernel_rfl) (.refl _) rfl ?_
        simp only [List.reverse_cons, List.reverse_nil, List.nil_append, List.cons_append, DT]
        refine JLp (T_neq rfl rfl) rfl (nofun) .none ?_
        refine JL_nil (KJ_hid hK ?_)
        refine KJ_nrm_then (KJ_J ?_)
        refine J_test rfl (fun hq12 => ?_) (fun hq12 => ?_)
        · replace hb6 := ift hq12 hb6
          refine J_seq ?_
          refine J_region ?_
          refine JLp (T_assign rfl) rfl (nofun) .none ?_
          refine JL_nil ?_
          refine KJ_nrm_then (KJ_J ?_)
          refine J_ret ?_
          refine KJ_ret_blk ?_
          refine KJ_ret_then ?_
          refine KJ_ret_then ?_
          refine KJ_ret_blk ?_
          refine KJ_ret_kq ?_
          refine KJ_ret_then ?_
          obtain rfl := inj hb6
          have hf7' := hf7
          obtain rfl : o4 = _ := hf7'
          replace h : some _ = some _ := h
          obtain rfl := inj h
          exact KJ_ret1' Try.results52 (.tmp (.mk rfl) Rv.nil) rfl rfl
        · replace hb6 := iff_ hq12 hb6
          refine J_skip ?_
          refine KJ_nrm_blk ?_
          refine KJ_nrm_then (KJ_J ?_)
          refine J_region ?_
          refine JLp (T_move rfl) rfl (nofun) .none ?_
          refine JLp (T_add rfl rfl) rfl (nofun) .none ?_
          refine JLp (T_assign rfl) rfl (nofun) .none ?_
          refine JL_nil ?_
          refine KJ_nrm_then ?_
          exact KJ_nx (IntKind.i64.wrap (s2 + 1)) () (inj hb6) (.cons rfl (.cons rfl (.cons rfl (.nil _)))) rfl
      · replace hb6 := iff_ hq9 hb6
        refine J_exit ?_
        refine KJ_exit_then ?_
        refine KJ_exit_then ?_
        refine KJ_exit_here ?_
        refine KJ_nrm_kq ?_
        obtain rfl := inj hb6
        exact KJ_ot s2 () hf7 (.nil _) rfl
    · intro s2 g3 hs
      subst hs
      replace h := thn h
      refine KJ_nrm_then (KJ_J ?_)
      refine J_seq ?_
      refine J_region ?_
      refine JLp (T_assign rfl) rfl (nofun) .none ?_
      refine JL_nil ?_
      refine KJ_nrm_then (KJ_J ?_)
      refine J_ret ?_
      obtain rfl := inj h
      exact KJ_ret1' Try.results52 (.tmp (.mk rfl) Rv.nil) rfl rfl
end Go.Proofs.Ytogflgcngfghpaa
end

/- function 53 -/
section
set_option maxHeartbeats 4000000
set_option linter.unusedVariables false
set_option linter.unusedSimpArgs false
namespace Go.Proofs.Ytogflgcngfghpaa
open Go.J
def f_ref44_digest (a0 : List Int) (a1 : Int) : Option (Int) :=
  (whileF (σ := Int × Int) (ρ := Int) (fun s1 => if (decide (s1.2 < 8)) = true then (idx a0 (IntKind.i64.wrap ((IntKind.i64.wrap (8 * a1)) + s1.2))).bind fun x9 => (shlI .u64 (IntKind.u64.wrap x9) (IntKind.i64.wrap (8 * s1.2))).bind fun x10 => some (Rd.next (IntKind.u64.wrap (s1.1 + x10), IntKind.i64.wrap (s1.2 + 1))) else some (Rd.done (s1.1, s1.2))) bigK (0, 0)).bind fun o3 => o3.then fun s1 => some s1.1

theorem c_ref44_digest {a0 : List Int} {a1 : Int} {r : Int} (h : f_ref44_digest a0 a1 = some r) : Ct Try.prog 53 [(Rep.sl (Rep.int .u8) 1).at a0, (Rep.int .i64).at a1] [] (fun _ : Unit => (Rep.int .u64).at r) (fun _ => []) := by
  refine Ct.mk Try.func53 rfl Try.ntmps53 (by simp) fun I R => ?_
  refine J.drop0 ?_
  unfold f_ref44_digest at h
  refine J_seq ?_
  refine J_region ?_
  refine JLp (T_assign rfl) rfl (nofun) .none ?_
  refine JL_nil ?_
  refine KJ_nrm_then (KJ_J ?_)
  refine J_seq ?_
  refine J_region ?_
  refine JLp (T_assign rfl) rfl (nofun) .none ?_
  refine JL_nil ?_
  refine KJ_nrm_then (KJ_J ?_)
  refine J_seq ?_
  refine J_seq ?_
  refine J_region ?_
  refine JLp (T_assign rfl) rfl (nofun) .none ?_
  refine JL_nil ?_
  refine KJ_nrm_then (KJ_J ?_)
  replace h := bnd h; obtain ⟨o3, ho4, h⟩ := h
  refine J_cuto o3 (fun (s1 : Int × Int) (g2 : Unit) => [(5, (Rep.int .u64).at s1.1)]) (fun s1 g2 => R) ?_ ?_
  · refine J_block ?_
    refine J_while ho4 (fun (s1 : Int × Int) (g2 : Unit) => [(0, (Rep.sl (Rep.int .u8) 1).at a0), (1, (Rep.int .i64).at a1), (5, (Rep.int .u64).at s1.1), (6, (Rep.int .i64).at s1.2)]) (fun s1 g2 => R) () (.cons rfl (.cons rfl (.cons rfl (.cons rfl (.nil _))))) rfl ?_
    intro s1 g2 st7 hb5 hf6
    refine J_seq ?_
    refine J_seq ?_
    refine J_region ?_
    refine JLp (T_move rfl) rfl (nofun) .none ?_
    refine JLp (T_lss rfl rfl) rfl (nofun) .none ?_
    refine JL_nil ?_
    refine KJ_nrm_then (KJ_J ?_)
    refine J_test rfl (fun hq8 => ?_) (fun hq8 => ?_)
    · replace hb5 := ift hq8 hb5
      refine J_skip ?_
      refine KJ_nrm_then (KJ_J ?_)
      refine J_seq ?_
      refine J_block ?_
      refine J_region ?_
      refine JLp (T_move rfl) rfl (nofun) .none ?_
      refine JLp (T_move rfl) rfl (nofun) .none ?_
      refine JLp (T_move rfl) rfl (nofun) .none ?_
      refine JLp (T_mul rfl rfl) rfl (nofun) .none ?_
      refine JLp (T_move rfl) rfl (nofun) .none ?_
      refine JLp (T_add rfl rfl) rfl (nofun) .none ?_
      replace hb5 := bnd hb5; obtain ⟨x9, hx9, hb5⟩ := hb5
      refine JLp (T_ix sl26 (.mk rfl) rfl hx9) rfl (nofun) .none ?_
      refine JLp (T_load ty5 rfl) rfl (nofun) .none ?_
      refine JLp (T_conv rfl Try.underlying5 Try.underlying73) rfl (nofun) .none ?_
      refine JLp (T_move rfl) rfl (nofun) .none ?_
      refine JLp (T_mul rfl rfl) rfl (nofun) .none ?_
      replace hb5 := bnd hb5; obtain ⟨x10, hx10, hb5⟩ := hb5
      refine JLp (T_shl rfl rfl hx10) rfl (nofun) .none ?_
      refine JLp (T_add rfl rfl) rfl (nofun) .none ?_
      refine JLp (T_assign rfl) rfl (nofun) .none ?_
      refine JL_nil ?_
      refine KJ_nrm_blk ?_
      refine KJ_nrm_then (KJ_J ?_)
      refine J_region ?_
      refine JLp (T_move rfl) rfl (nofun) .none ?_
      refine JLp (T_add rfl rfl) rfl (nofun) .none ?_
      refine JLp (T_assign rfl) rfl (nofun) .none ?_
      refine JL_nil ?_
      refine KJ_nrm_then ?_
      exact KJ_nx (IntKind.u64.wrap (s1.1 + x10), IntKind.i64.wrap (s1.2 + 1)) () (inj hb5) (.cons rfl (.cons rfl (.cons rfl (.cons rfl (.nil _))))) rfl
    · replace hb5 := iff_ hq8 hb5
      refine J_exit ?_
      refine KJ_exit_then ?_
      refine KJ_exit_then ?_
      refine KJ_exit_here ?_
      refine KJ_nrm_kq ?_
      obtain rfl := inj hb5
      exact KJ_ot (s1.1, s1.2) () hf6 (.cons rfl (.nil _)) rfl
  · intro s1 g2 hs
    subst hs
    replace h := thn h
    refine KJ_nrm_then (KJ_J ?_)
    refine J_seq ?_
    refine J_region ?_
    refine JLp (T_move rfl) rfl (nofun) .none ?_
    refine JLp (T_assign rfl) rfl (nofun) .none ?_
    refine JL_nil ?_
    refine KJ_nrm_then (KJ_J ?_)
    refine J_ret ?_
    obtain rfl := inj h
    exact KJ_ret1' Try.results53 (.tmp (.mk rfl) Rv.nil) rfl rfl
end Go.Proofs.Ytogflgcngfghpaa
end

/- function 54 -/
section
set_option maxHeartbeats 4000000
set_option linter.unusedVariables false
set_option linter.unusedSimpArgs false
namespace Go.Proofs.Ytogflgcngfghpaa
open Go.J
def f_ref11_Extents (a0 : Int) (a1 : Int) (a2 : List Int) : Option (List api_Extent) :=
  (whileF (σ := List api_Extent × Int) (ρ := List api_Extent) (fun s1 => if (decide (s1.2 < (a2.length : Int))) = true then (idx a2 s1.2).bind fun x9 => (idx a2 s1.2).bind fun x10 => (idx a2 s1.2).bind fun x11 => (if (decide (0 < (s1.1.length : Int))) = true then (idx s1.1 (IntKind.i64.wrap ((s1.1.length : Int) - 1))).bind fun x13 => (idx s1.1 (IntKind.i64.wrap ((s1.1.length : Int) - 1))).bind fun x14 => some (decide ((IntKind.i64.wrap (x13.Start + x14.Count)) = (IntKind.i64.wrap (x9 * a1)))) else some false).bind fun c15 => ((if c15 = true then (idx s1.1 (IntKind.i64.wrap ((s1.1.length : Int) - 1))).bind fun x21 => (idx s1.1 (IntKind.i64.wrap ((s1.1.length : Int) - 1))).bind fun x22 => some (Fl.go (setI s1.1 (IntKind.i64.wrap ((s1.1.length : Int) - 1)) (⟨x22.Start, IntKind.i64.wrap (x21.Count + (IntKind.i64.wrap ((min a0 (IntKind.i64.wrap ((IntKind.i64.wrap (x10 * a1)) + a1))) - (IntKind.i64.wrap (x11 * a1)))))⟩ : api_Extent))) else (app 16 s1.1 [(⟨IntKind.i64.wrap (x9 * a1), IntKind.i64.wrap ((min a0 (IntKind.i64.wrap ((IntKind.i64.wrap (x10 * a1)) + a1))) - (IntKind.i64.wrap (x11 * a1)))⟩ : api_Extent)]).bind fun x23 => some (Fl.go x23) : Option (Fl (List api_Extent) (Rd (List api_Extent × Int) (List api_Extent))))).bind fun o17 => o17.then fun s19 => some (Rd.next (s19, IntKind.i64.wrap (s1.2 + 1))) else some (Rd.done (s1.1, s1.2))) bigK ([], 0)).bind fun o3 => o3.then fun s1 => some s1.1

theorem c_ref11_Extents {a0 : Int} {a1 : Int} {a2 : List Int} {r : List api_Extent} (h : f_ref11_Extents a0 a1 a2 = some r) : Ct Try.prog 54 [(Rep.int .i64).at a0, (Rep.int .i64).at a1, (Rep.sl (Rep.int .i64) 1).at a2] [] (fun _ : Unit => (Rep.sl r_api_Extent 2).at r) (fun _ => []) := by
  refine Ct.mk Try.func54 rfl Try.ntmps54 (by simp) fun I R => ?_
  refine J.drop0 ?_
  unfold f_ref11_Extents at h
  refine J_seq ?_
  refine J_region ?_
  refine JLp (T_assign rfl) rfl (nofun) .none ?_
  refine JL_nil ?_
  refine KJ_nrm_then (KJ_J ?_)
  refine J_seq ?_
  refine J_region ?_
  refine JLp (T_assign rfl) rfl (nofun) .none ?_
  refine JL_nil ?_
  refine KJ_nrm_then (KJ_J ?_)
  refine J_seq ?_
  refine J_seq ?_
  refine J_region ?_
  refine JLp (T_assign rfl) rfl (nofun) .none ?_
  refine JL_nil ?_
  refine KJ_nrm_then (KJ_J ?_)
  refine J_rownil 62 2 r_api_Extent ?_
  replace h := bnd h; obtain ⟨o3, ho4, h⟩ := h
  refine J_cuto o3 (fun (s1 : List api_Extent × Int) (g2 : Value) => [(7, Rep.slv.at g2)]) (fun s1 g2 => Ent.row g2 62 2 r_api_Extent s1.1 :: R) ?_ ?_
  · refine J_block ?_
    refine J_while ho4 (fun (s1 : List api_Extent × Int) (g2 : Value) => [(0, (Rep.int .i64).at a0), (1, (Rep.int .i64).at a1), (2, (Rep.sl (Rep.int .i64) 1).at a2), (7, Rep.slv.at g2), (8, (Rep.int .i64).at s1.2)]) (fun s1 g2 => Ent.row g2 62 2 r_api_Extent s1.1 :: R) (.slice none 0 0) (.cons rfl (.cons rfl (.cons rfl (.cons rfl (.cons rfl (.nil _)))))) rfl ?_
    intro s1 g2 st7 hb5 hf6
    refine J_seq ?_
    refine J_seq ?_
    refine J_region ?_
    refine JLp (T_move rfl) rfl (nofun) .none ?_
    refine JLp (T_move rfl) rfl (nofun) .none ?_
    refine JLp (T_len (ρ := (Rep.int .i64)) sl25 (.mk rfl)) rfl (nofun) .none ?_
    refine JLp (T_lss rfl rfl) rfl (nofun) .none ?_
    refine JL_nil ?_
    refine KJ_nrm_then (KJ_J ?_)
    refine J_test rfl (fun hq8 => ?_) (fun hq8 => ?_)
    · replace hb5 := ift hq8 hb5
      refine J_skip ?_
      refine KJ_nrm_then (KJ_J ?_)
      refine J_seq ?_
      refine J_block ?_
      refine J_seq ?_
      replace hb5 := bnd hb5; obtain ⟨x9, hx9, hb5⟩ := hb5
      replace hb5 := bnd hb5; obtain ⟨x10, hx10, hb5⟩ := hb5
      replace hb5 := bnd hb5; obtain ⟨x11, hx11, hb5⟩ := hb5
      refine J_drawR (Ks := []) rfl (by kernel_rfl) fun K hK => ?_
      refine DR.p (.base (t := 2) rfl .nil) (T_move rfl) .none rfl rfl (nofun) ?_
      refine DR.p (.base (t := 8) rfl .nil) (T_move rfl) .none rfl rfl (nofun) ?_
      refine DR.p (.dep 0 1 rfl rfl rfl (.dep 1 0 rfl rfl rfl .nil)) (T_ix sl25 (.mk rfl) rfl hx9) .none rfl rfl (nofun) ?_
      refine DR.p (.dep 2 0 rfl rfl rfl .nil) (T_load ty3 rfl) .none rfl rfl (nofun) ?_
      refine DR.p (.base (t := 1) rfl .nil) (T_move rfl) .none rfl rfl (nofun) ?_
      refine DR.p (.dep 3 1 rfl rfl rfl (.dep 4 0 rfl rfl rfl .nil)) (T_mul rfl rfl) .none rfl rfl (nofun) ?_
      refine DR.p (.base (t := 0) rfl .nil) (T_move rfl) .none rfl rfl (nofun) ?_
      refine DR.p (.base (t := 2) rfl .nil) (T_move rfl) .none rfl rfl (nofun) ?_
      refine DR.p (.base (t := 8) rfl .nil) (T_move rfl) .none rfl rfl (nofun) ?_
      refine DR.p (.dep 7 1 rfl rfl rfl (.dep 8 0 rfl rfl rfl .nil)) (T_ix sl25 (.mk rfl) rfl hx10) .none rfl rfl (nofun) ?_
      refine DR.p (.dep 9 0 rfl rfl rfl .nil) (T_load ty3 rfl) .none rfl rfl (nofun) ?_
      refine DR.p (.base (t := 1) rfl .nil) (T_move rfl) .none rfl rfl (nofun) ?_
      refine DR.p (.dep 10 1 rfl rfl rfl (.dep 11 0 rfl rfl rfl .nil)) (T_mul rfl rfl) .none rfl rfl (nofun) ?_
      refine DR.p (.base (t := 1) rfl .nil) (T_move rfl) .none rfl rfl (nofun) ?_
      refine DR.p (.dep 12 1 rfl rfl rfl (.dep 13 0 rfl rfl rfl .nil)) (T_add rfl rfl) .none rfl rfl (nofun) ?_
      refine DR.p (.dep 6 8 rfl rfl rfl (.dep 14 0 rfl rfl rfl .nil)) (T_min rfl rfl) .none rfl rfl (nofun) ?_
      refine DR.p (.base (t := 2) rfl .nil) (T_move rfl) .none rfl rfl (nofun) ?_
      refine DR.p (.base (t := 8) rfl .nil) (T_move rfl) .none rfl rfl (nofun) ?_
      refine DR.p (.dep 16 1 rfl rfl rfl (.dep 17 0 rfl rfl rfl .nil)) (T_ix sl25 (.mk rfl) rfl hx11) .none rfl rfl (nofun) ?_
      refine DR.p (.dep 18 0 rfl rfl rfl .nil) (T_load ty3 rfl) .none rfl rfl (nofun) ?_
      refine DR.p (.base (t := 1) rfl .nil) (T_move rfl) .none rfl rfl (nofun) ?_
      refine DR.p (.dep 19 1 rfl rfl rfl (.dep 20 0 rfl rfl rfl .nil)) (T_mul rfl rfl) .none rfl rfl (nofun) ?_
      refine DR.p (.dep 15 6 rfl rfl rfl (.dep 21 0 rfl rfl rfl .nil)) (T_sub rfl rfl) .none rfl rfl (nofun) ?_
      refine DR.p (.dep 5 17 rfl rfl rfl (.dep 22 0 rfl rfl rfl .nil)) (T_build (s' := (⟨IntKind.i64.wrap (x9 * a1), IntKind.i64.wrap ((min a0 (IntKind.i64.wrap ((IntKind.i64.wrap (x10 * a1)) + a1))) - (IntKind.i64.wrap (x11 * a1)))⟩ : api_Extent)) bd62 z62 lay_api_Extent (.cons (π := (Rep.int .i64)) (.mk rfl) rfl (Lay.int _) sf_api_Extent_Start (.cons (π := (Rep.int .i64)) (.mk rfl) rfl (Lay.int _) sf_api_Extent_Count .nil))) .none rfl rfl (nofun) ?_
      refine DR.a (T_alloc z62 lay_api_Extent) rfl rfl ?_
      refine DR.tail (by kernel_rfl) (.refl _) rfl ?_
      simp only [List.reverse_cons, List.reverse_nil, List.nil_append, List.cons_append, DT]
      intro wb12
      obtain ⟨b12, hwb12⟩ : ∃ b, blkOf wb12 = b := ⟨_, rfl⟩
      rw [hwb12]
      refine JLn1 (T_store ty62 rfl (.mk rfl) (SetF.self lay_api_Extent)) .none ?_
      refine JL_nil (KJ_hid hK ?_)
      refine KJ_nrm_then (KJ_J ?_)
      refine J_seq ?_
      refine J_region ?_
      refine JLp (T_move rfl) rfl (nofun) .none ?_
      refine JLp (T_len_row sl39 (.mk rfl)) rfl B1 .none ?_
      refine JLp (T_assign rfl) rfl (nofun) .none ?_
      refine JL_nil ?_
      refine KJ_nrm_then (KJ_J ?_)
      refine J_seq ?_
      replace hb5 := bnd hb5; obtain ⟨c15, hc15, hb5⟩ := hb5
      refine J_cutN [(0, (Rep.int .i64).at a0), (1, (Rep.int .i64).at a1), (2, (Rep.sl (Rep.int .i64) 1).at a2), (7, Rep.slv.at g2), (8, (Rep.int .i64).at s1.2), (9, Rep.ptr.at (b12, 0)), (10, (Rep.int .i64).at (s1.1.length : Int)), (62, Rep.bool.at c15)] (Ent.box b12 r_api_Extent (⟨IntKind.i64.wrap (x9 * a1), IntKind.i64.wrap ((min a0 (IntKind.i64.wrap ((IntKind.i64.wrap (x10 * a1)) + a1))) - (IntKind.i64.wrap (x11 * a1)))⟩ : api_Extent) :: Ent.row g2 62 2 r_api_Extent s1.1 :: R) ?_ ?_
      · rcases Bool.eq_false_or_eq_true (decide (0 < (s1.1.length : Int))) with hqc15 | hqc15
        · replace hc15 := ift hqc15 hc15
          replace hc15 := bnd hc15; obtain ⟨x13, hx13, hc15⟩ := hc15
          replace hc15 := bnd hc15; obtain ⟨x14, hx14, hc15⟩ := hc15
          obtain rfl := inj hc15
          refine J_drawR (Ks := []) rfl (by kernel_rfl) fun K hK => ?_
          refine DR.p (.base (t := 10) rfl .nil) (T_move rfl) .none rfl rfl (nofun) ?_
          refine DR.p (.dep 0 0 rfl rfl rfl .nil) (T_gtr rfl rfl) .none rfl rfl (nofun) ?_
          refine DR.p (.dep 1 0 rfl rfl rfl .nil) (T_move rfl) .none rfl rfl (nofun) ?_
          refine DR.p (.base (t := 7) rfl (.dep 2 0 rfl rfl rfl .nil)) (T_move rfl) (.y rfl rfl hqc15) rfl rfl (nofun) ?_
          refine DR.p (.base (t := 10) rfl (.dep 2 1 rfl rfl rfl .nil)) (T_move rfl) (.y rfl rfl hqc15) rfl rfl (nofun) ?_
          refine DR.p (.dep 4 0 rfl rfl rfl (.dep 2 2 rfl rfl rfl .nil)) (T_sub rfl rfl) (.y rfl rfl hqc15) rfl rfl (nofun) ?_
          refine DR.p (.dep 3 2 rfl rfl rfl (.dep 5 0 rfl rfl rfl (.dep 2 3 rfl rfl rfl .nil))) (T_ixr sl39 (.mk rfl) rfl hx13) (.y rfl rfl hqc15) rfl rfl B1 ?_
          refine DR.p (.dep 6 0 rfl rfl rfl (.dep 2 4 rfl rfl rfl .nil)) (T_faddr fo62_0 rfl) (.y rfl rfl hqc15) rfl rfl (nofun) ?_
          refine DR.p (.dep 7 0 rfl rfl rfl (.dep 2 5 rfl rfl rfl .nil)) (T_loadr (i := IntKind.i64.wrap ((s1.1.length : Int) - 1)) (n := 2) (s := g2) (p := 0) ty3 rfl hx13 hf_api_Extent_Start) (.y rfl rfl hqc15) rfl rfl B1 ?_
          refine DR.p (.base (t := 7) rfl (.dep 2 6 rfl rfl rfl .nil)) (T_move rfl) (.y rfl rfl hqc15) rfl rfl (nofun) ?_
          refine DR.p (.base (t := 10) rfl (.dep 2 7 rfl rfl rfl .nil)) (T_move rfl) (.y rfl rfl hqc15) rfl rfl (nofun) ?_
          refine DR.p (.dep 10 0 rfl rfl rfl (.dep 2 8 rfl rfl rfl .nil)) (T_sub rfl rfl) (.y rfl rfl hqc15) rfl rfl (nofun) ?_
          refine DR.p (.dep 9 2 rfl rfl rfl (.dep 11 0 rfl rfl rfl (.dep 2 9 rfl rfl rfl .nil))) (T_ixr sl39 (.mk rfl) rfl hx14) (.y rfl rfl hqc15) rfl rfl B1 ?_
          refine DR.p (.dep 12 0 rfl rfl rfl (.dep 2 10 rfl rfl rfl .nil)) (T_faddr fo62_1 rfl) (.y rfl rfl hqc15) rfl rfl (nofun) ?_
          refine DR.p (.dep 13 0 rfl rfl rfl (.dep 2 11 rfl rfl rfl .nil)) (T_loadr (i := IntKind.i64.wrap ((s1.1.length : Int) - 1)) (n := 2) (s := g2) (p := 1) ty3 rfl hx14 hf_api_Extent_Count) (.y rfl rfl hqc15) rfl rfl B1 ?_
          refine DR.p (.dep 8 6 rfl rfl rfl (.dep 14 0 rfl rfl rfl (.dep 2 12 rfl rfl rfl .nil))) (T_add rfl rfl) (.y rfl rfl hqc15) rfl rfl (nofun) ?_
          refine DR.p (.base (t := 9) rfl (.dep 2 13 rfl rfl rfl .nil)) (T_faddr fo62_0 rfl) (.y rfl rfl hqc15) rfl rfl (nofun) ?_
          refine DR.p (.dep 16 0 rfl rfl rfl (.dep 2 14 rfl rfl rfl .nil)) (T_loadb ty3 rfl hf_api_Extent_Start) (.y rfl rfl hqc15) rfl rfl B0 ?_
          refine DR.tail (by kernel_rfl) (.refl _) rfl ?_
          simp only [List.reverse_cons, List.reverse_nil, List.nil_append, List.cons_append, DT]
          refine JLp (T_eql rfl rfl) rfl (nofun) (.y rfl rfl hqc15) ?_
          refine JLp (T_pickT rfl hqc15 rfl) rfl (nofun) .none ?_
          refine JL_nil (KJ_hid hK ?_)
          exact KJ.sub KJ_end (.cons rfl (.cons rfl (.cons rfl (.cons rfl (.cons rfl (.cons rfl (.cons rfl (.cons rfl (.nil _)))))))))
        · replace hc15 := iff_ hqc15 hc15
          obtain rfl := inj hc15
          refine J_drawR (Ks := []) rfl (by kernel_rfl) fun K hK => ?_
          refine DR.p (.base (t := 10) rfl .nil) (T_move rfl) .none rfl rfl (nofun) ?_
          refine DR.p (.dep 0 0 rfl rfl rfl .nil) (T_gtr rfl rfl) .none rfl rfl (nofun) ?_
          refine DR.p (.dep 1 0 rfl rfl rfl .nil) (T_move rfl) .none rfl rfl (nofun) ?_
          refine DR.x (.dep 2 0 rfl rfl rfl .nil) rfl rfl hqc15 rfl rfl ?_
          refine DR.x (.dep 2 1 rfl rfl rfl .nil) rfl rfl hqc15 rfl rfl ?_
          refine DR.x (.dep 2 2 rfl rfl rfl .nil) rfl rfl hqc15 rfl rfl ?_
          refine DR.x (.dep 2 3 rfl rfl rfl .nil) rfl rfl hqc15 rfl rfl ?_
          refine DR.x (.dep 2 4 rfl rfl rfl .nil) rfl rfl hqc15 rfl rfl ?_
          refine DR.x (.dep 2 5 rfl rfl rfl .nil) rfl rfl hqc15 rfl rfl ?_
          refine DR.x (.dep 2 6 rfl rfl rfl .nil) rfl rfl hqc15 rfl rfl ?_
          refine DR.x (.dep 2 7 rfl rfl rfl .nil) rfl rfl hqc15 rfl rfl ?_
          refine DR.x (.dep 2 8 rfl rfl rfl .nil) rfl rfl hqc15 rfl rfl ?_
          refine DR.x (.dep 2 9 rfl rfl rfl .nil) rfl rfl hqc15 rfl rfl ?_
          refine DR.x (.dep 2 10 rfl rfl rfl .nil) rfl rfl hqc15 rfl rfl ?_
          refine DR.x (.dep 2 11 rfl rfl rfl .nil) rfl rfl hqc15 rfl rfl ?_
          refine DR.x (.dep 2 12 rfl rfl rfl .nil) rfl rfl hqc15 rfl rfl ?_
          refine DR.x (.dep 2 13 rfl rfl rfl .nil) rfl rfl hqc15 rfl rfl ?_
          refine DR.x (.dep 2 14 rfl rfl rfl .nil) rfl rfl hqc15 rfl rfl ?_
          refine DR.tail (by kernel_rfl) (.refl _) rfl ?_
          simp only [List.reverse_cons, List.reverse_nil, List.nil_append, List.cons_append, DT]
          refine JLs rfl rfl hqc15 rfl ?_
          refine JLp (T_pickF rfl hqc15 rfl) rfl (nofun) .none ?_
          refine JL_nil (KJ_hid hK ?_)
          exact KJ.sub KJ_end (.cons rfl (.cons rfl (.cons rfl (.cons rfl (.cons rfl (.cons rfl (.cons rfl (.cons rfl (.nil _)))))))))
      · refine KJ_nrm_then (KJ_J ?_)
        replace hb5 := bnd hb5; obtain ⟨o17, ho18, hb5⟩ := hb5
        refine J_cuto o17 (fun (s19 : List api_Extent) (g20 : Value) => [(0, (Rep.int .i64).at a0), (1, (Rep.int .i64).at a1), (2, (Rep.sl (Rep.int .i64) 1).at a2), (8, (Rep.int .i64).at s1.2), (7, Rep.slv.at g20)]) (fun s19 g20 => Ent.box b12 r_api_Extent (⟨IntKind.i64.wrap (x9 * a1), IntKind.i64.wrap ((min a0 (IntKind.i64.wrap ((IntKind.i64.wrap (x10 * a1)) + a1))) - (IntKind.i64.wrap (x11 * a1)))⟩ : api_Extent) :: Ent.row g20 62 2 r_api_Extent s19 :: R) ?_ ?_
        · refine J_test rfl (fun hq16 => ?_) (fun hq16 => ?_)
          · replace ho18 := ift hq16 ho18
            replace ho18 := bnd ho18; obtain ⟨x21, hx21, ho18⟩ := ho18
            refine J_drawR (Ks := []) rfl (by kernel_rfl) fun K hK => ?_
            refine DR.p (.base (t := 7) rfl .nil) (T_move rfl) .none rfl rfl (nofun) ?_
            refine DR.p (.base (t := 10) rfl .nil) (T_move rfl) .none rfl rfl (nofun) ?_
            refine DR.p (.dep 1 0 rfl rfl rfl .nil) (T_sub rfl rfl) .none rfl rfl (nofun) ?_
            refine DR.p (.dep 0 2 rfl rfl rfl (.dep 2 0 rfl rfl rfl .nil)) (T_ixr sl39 (.mk rfl) rfl hx21) .none rfl rfl B1 ?_
            refine DR.p (.dep 3 0 rfl rfl rfl .nil) (T_faddr fo62_1 rfl) .none rfl rfl (nofun) ?_
            refine DR.p (.dep 4 0 rfl rfl rfl .nil) (T_loadr (i := IntKind.i64.wrap ((s1.1.length : Int) - 1)) (n := 2) (s := g2) (p := 1) ty3 rfl hx21 hf_api_Extent_Count) .none rfl rfl B1 ?_
            refine DR.p (.base (t := 9) rfl .nil) (T_faddr fo62_1 rfl) .none rfl rfl (nofun) ?_
            refine DR.p (.dep 6 0 rfl rfl rfl .nil) (T_loadb ty3 rfl hf_api_Extent_Count) .none rfl rfl B0 ?_
            refine DR.tail (by kernel_rfl) (.refl _) rfl ?_
            simp only [List.reverse_cons, List.reverse_nil, List.nil_append, List.cons_append, DT]
            refine JLp (T_add rfl rfl) rfl (nofun) .none ?_
            replace ho18 := bnd ho18; obtain ⟨x22, hx22, ho18⟩ := ho18
            refine JLp (T_ixr sl39 (.mk rfl) rfl hx22) rfl B1 .none ?_
            refine JLp (T_faddr fo62_1 rfl) rfl (nofun) .none ?_
            refine JL.perm F1 ?_
            refine JLn1 (T_storerV (i := IntKind.i64.wrap ((s1.1.length : Int) - 1)) (n := 2) (s := g2) (p := 1) (⟨x22.Start, IntKind.i64.wrap (x21.Count + (IntKind.i64.wrap ((min a0 (IntKind.i64.wrap ((IntKind.i64.wrap (x10 * a1)) + a1))) - (IntKind.i64.wrap (x11 * a1)))))⟩ : api_Extent) ty3 rfl (.mk rfl) hx22 sf_api_Extent_Count lay_api_Extent rfl) .none ?_
            refine JL_nil (KJ_hid hK ?_)
            refine KJ_nrm_kq ?_
            refine KJ.perm F1 ?_
            exact KJ_ot (setI s1.1 (IntKind.i64.wrap ((s1.1.length : Int) - 1)) (⟨x22.Start, IntKind.i64.wrap (x21.Count + (IntKind.i64.wrap ((min a0 (IntKind.i64.wrap ((IntKind.i64.wrap (x10 * a1)) + a1))) - (IntKind.i64.wrap (x11 * a1)))))⟩ : api_Extent)) g2 (inj ho18) (.cons rfl (.cons rfl (.cons rfl (.cons rfl (.cons rfl (.nil _)))))) rfl
          · replace ho18 := iff_ hq16 ho18
            refine J_region ?_
            refine JLp (T_move rfl) rfl (nofun) .none ?_
            refine JLp (T_loadw ty62 rfl) rfl B0 .none ?_
            refine JLe0 (T_bslice (ρ := r_api_Extent) sl39 lay_api_Extent (.cons (.mk rfl) .nil) rfl (by decide)) rfl .none ?_
            replace ho18 := bnd ho18; obtain ⟨x23, hx23, ho18⟩ := ho18
            refine JL.perm F1 ?_
            refine JLe1 (T_append sl39 ⟨_, lay_api_Extent⟩ (.mk rfl) (.mk rfl) hx23) rfl .none fun g24 => ?_
            refine JLp (T_assign rfl) rfl (nofun) .none ?_
            refine JL_nil ?_
            refine KJ_nrm_kq ?_
            refine KJ.perm F1 ?_
            exact KJ_ot x23 g24 (inj ho18) (.cons rfl (.cons rfl (.cons rfl (.cons rfl (.cons rfl (.nil _)))))) rfl
        · intro s19 g20 hs
          subst hs
          replace hb5 := thn hb5
          refine KJ_nrm_blk ?_
          refine KJ_nrm_then (KJ_J ?_)
          refine J_region ?_
          refine JLp (T_move rfl) rfl (nofun) .none ?_
          refine JLp (T_add rfl rfl) rfl (nofun) .none ?_
          refine JLp (T_assign rfl) rfl (nofun) .none ?_
          refine JL_nil ?_
          refine KJ_nrm_then ?_
          refine KJ.drop1 ?_
          exact KJ_nx (s19, IntKind.i64.wrap (s1.2 + 1)) g20 (inj hb5) (.cons rfl (.cons rfl (.cons rfl (.cons rfl (.cons rfl (.nil _)))))) rfl
    · replace hb5 := iff_ hq8 hb5
      refine J_exit ?_
      refine KJ_exit_then ?_
      refine KJ_exit_then ?_
      refine KJ_exit_here ?_
      refine KJ_nrm_kq ?_
      obtain rfl := inj hb5
      exact KJ_ot (s1.1, s1.2) g2 hf6 (.cons rfl (.nil _)) rfl
  · intro s1 g2 hs
    subst hs
    replace h := thn h
    refine KJ_nrm_then (KJ_J ?_)
    refine J_seq ?_
    refine J_region ?_
    refine JLp (T_move rfl) rfl (nofun) .none ?_
    refine JLp (T_assign rfl) rfl (nofun) .none ?_
    refine JL_nil ?_
    refine KJ_nrm_then (KJ_J ?_)
    refine J_ret ?_
    refine KJ_freeze (t := 6) rfl ?_
    obtain rfl := inj h
    exact KJ_ret1' Try.results54 (.tmp (.mk rfl) Rv.nil) rfl rfl
end Go.Proofs.Ytogflgcngfghpaa
end

/- function 55 -/
section
set_option maxHeartbeats 4000000
set_option linter.unusedVariables false
set_option linter.unusedSimpArgs false
namespace Go.Proofs.Ytogflgcngfghpaa
open Go.J
def f_ref44_extents (a0 : List Int) : Option (List api_Extent) :=
  (whileF (σ := List api_Extent × Int) (ρ := List api_Extent) (fun s1 => if (decide (s1.2 < (a0.length : Int))) = true then (if (decide (0 < (s1.1.length : Int))) = true then (idx s1.1 (IntKind.i64.wrap ((s1.1.length : Int) - 1))).bind fun x9 => (idx s1.1 (IntKind.i64.wrap ((s1.1.length : Int) - 1))).bind fun x10 => (idx a0 s1.2).bind fun x11 => some (decide ((IntKind.i64.wrap (x9.Start + x10.Count)) = x11)) else some false).bind fun c12 => ((if c12 = true then (idx s1.1 (IntKind.i64.wrap ((s1.1.length : Int) - 1))).bind fun x18 => (idx s1.1 (IntKind.i64.wrap ((s1.1.length : Int) - 1))).bind fun x19 => some (Fl.go (setI s1.1 (IntKind.i64.wrap ((s1.1.length : Int) - 1)) (⟨x19.Start, IntKind.i64.wrap (x18.Count + 1)⟩ : api_Extent))) else (idx a0 s1.2).bind fun x20 => (app 16 s1.1 [(⟨x20, 1⟩ : api_Extent)]).bind fun x21 => some (Fl.go x21) : Option (Fl (List api_Extent) (Rd (List api_Extent × Int) (List api_Extent))))).bind fun o14 => o14.then fun s16 => some (Rd.next (s16, IntKind.i64.wrap (s1.2 + 1))) else some (Rd.done (s1.1, s1.2))) bigK ([], 0)).bind fun o3 => o3.then fun s1 => some s1.1

theorem c_ref44_extents {a0 : List Int} {r : List api_Extent} (h : f_ref44_extents a0 = some r) : Ct Try.prog 55 [(Rep.sl (Rep.int .i64) 1).at a0] [] (fun _ : Unit => (Rep.sl r_api_Extent 2).at r) (fun _ => []) := by
  refine Ct.mk Try.func55 rfl Try.ntmps55 (by simp) fun I R => ?_
  refine J.drop0 ?_
  unfold f_ref44_extents at h
  refine J_seq ?_
  refine J_region ?_
  refine JLp (T_assign rfl) rfl (nofun) .none ?_
  refine JL_nil ?_
  refine KJ_nrm_then (KJ_J ?_)
  refine J_seq ?_
  refine J_region ?_
  refine JLp (T_assign rfl) rfl (nofun) .none ?_
  refine JL_nil ?_
  refine KJ_nrm_then (KJ_J ?_)
  refine J_seq ?_
  refine J_seq ?_
  refine J_region ?_
  refine JLp (T_assign rfl) rfl (nofun) .none ?_
  refine JL_nil ?_
  refine KJ_nrm_then (KJ_J ?_)
  refine J_rownil 62 2 r_api_Extent ?_
  replace h := bnd h; obtain ⟨o3, ho4, h⟩ := h
  refine J_cuto o3 (fun (s1 : List api_Extent × Int) (g2 : Value) => [(3, Rep.slv.at g2)]) (fun s1 g2 => Ent.row g2 62 2 r_api_Extent s1.1 :: R) ?_ ?_
  · refine J_block ?_
    refine J_while ho4 (fun (s1 : List api_Extent × Int) (g2 : Value) => [(0, (Rep.sl (Rep.int .i64) 1).at a0), (3, Rep.slv.at g2), (4, (Rep.int .i64).at s1.2)]) (fun s1 g2 => Ent.row g2 62 2 r_api_Extent s1.1 :: R) (.slice none 0 0) (.cons rfl (.cons rfl (.cons rfl (.nil _)))) rfl ?_
    intro s1 g2 st7 hb5 hf6
    refine J_seq ?_
    refine J_seq ?_
    refine J_region ?_
    refine JLp (T_move rfl) rfl (nofun) .none ?_
    refine JLp (T_move rfl) rfl (nofun) .none ?_
    refine JLp (T_len (ρ := (Rep.int .i64)) sl25 (.mk rfl)) rfl (nofun) .none ?_
    refine JLp (T_lss rfl rfl) rfl (nofun) .none ?_
    refine JL_nil ?_
    refine KJ_nrm_then (KJ_J ?_)
    refine J_test rfl (fun hq8 => ?_) (fun hq8 => ?_)
    · replace hb5 := ift hq8 hb5
      refine J_skip ?_
      refine KJ_nrm_then (KJ_J ?_)
      refine J_seq ?_
      refine J_block ?_
      refine J_seq ?_
      refine J_region ?_
      refine JLp (T_move rfl) rfl (nofun) .none ?_
      refine JLp (T_len_row sl39 (.mk rfl)) rfl B0 .none ?_
      refine JLp (T_assign rfl) rfl (nofun) .none ?_
      refine JL_nil ?_
      refine KJ_nrm_then (KJ_J ?_)
      refine J_seq ?_
      replace hb5 := bnd hb5; obtain ⟨c12, hc12, hb5⟩ := hb5
      refine J_cutN [(0, (Rep.sl (Rep.int .i64) 1).at a0), (3, Rep.slv.at g2), (4, (Rep.int .i64).at s1.2), (5, (Rep.int .i64).at (s1.1.length : Int)), (35, Rep.bool.at c12)] (Ent.row g2 62 2 r_api_Extent s1.1 :: R) ?_ ?_
      · rcases Bool.eq_false_or_eq_true (decide (0 < (s1.1.length : Int))) with hqc12 | hqc12
        · replace hc12 := ift hqc12 hc12
          replace hc12 := bnd hc12; obtain ⟨x9, hx9, hc12⟩ := hc12
          replace hc12 := bnd hc12; obtain ⟨x10, hx10, hc12⟩ := hc12
          replace hc12 := bnd hc12; obtain ⟨x11, hx11, hc12⟩ := hc12
          obtain rfl := inj hc12
          refine J_drawR (Ks := []) rfl (by kernel_rfl) fun K hK => ?_
          refine DR.p (.base (t := 5) rfl .nil) (T_move rfl) .none rfl rfl (nofun) ?_
          refine DR.p (.dep 0 0 rfl rfl rfl .nil) (T_gtr rfl rfl) .none rfl rfl (nofun) ?_
          refine DR.p (.dep 1 0 rfl rfl rfl .nil) (T_move rfl) .none rfl rfl (nofun) ?_
          refine DR.p (.base (t := 3) rfl (.dep 2 0 rfl rfl rfl .nil)) (T_move rfl) (.y rfl rfl hqc12) rfl rfl (nofun) ?_
          refine DR.p (.base (t := 5) rfl (.dep 2 1 rfl rfl rfl .nil)) (T_move rfl) (.y rfl rfl hqc12) rfl rfl (nofun) ?_
          refine DR.p (.dep 4 0 rfl rfl rfl (.dep 2 2 rfl rfl rfl .nil)) (T_sub rfl rfl) (.y rfl rfl hqc12) rfl rfl (nofun) ?_
          refine DR.p (.dep 3 2 rfl rfl rfl (.dep 5 0 rfl rfl rfl (.dep 2 3 rfl rfl rfl .nil))) (T_ixr sl39 (.mk rfl) rfl hx9) (.y rfl rfl hqc12) rfl rfl B0 ?_
          refine DR.p (.dep 6 0 rfl rfl rfl (.dep 2 4 rfl rfl rfl .nil)) (T_faddr fo62_0 rfl) (.y rfl rfl hqc12) rfl rfl (nofun) ?_
          refine DR.p (.dep 7 0 rfl rfl rfl (.dep 2 5 rfl rfl rfl .nil)) (T_loadr (i := IntKind.i64.wrap ((s1.1.length : Int) - 1)) (n := 2) (s := g2) (p := 0) ty3 rfl hx9 hf_api_Extent_Start) (.y rfl rfl hqc12) rfl rfl B0 ?_
          refine DR.p (.base (t := 3) rfl (.dep 2 6 rfl rfl rfl .nil)) (T_move rfl) (.y rfl rfl hqc12) rfl rfl (nofun) ?_
          refine DR.p (.base (t := 5) rfl (.dep 2 7 rfl rfl rfl .nil)) (T_move rfl) (.y rfl rfl hqc12) rfl rfl (nofun) ?_
          refine DR.p (.dep 10 0 rfl rfl rfl (.dep 2 8 rfl rfl rfl .nil)) (T_sub rfl rfl) (.y rfl rfl hqc12) rfl rfl (nofun) ?_
          refine DR.p (.dep 9 2 rfl rfl rfl (.dep 11 0 rfl rfl rfl (.dep 2 9 rfl rfl rfl .nil))) (T_ixr sl39 (.mk rfl) rfl hx10) (.y rfl rfl hqc12) rfl rfl B0 ?_
          refine DR.p (.dep 12 0 rfl rfl rfl (.dep 2 10 rfl rfl rfl .nil)) (T_faddr fo62_1 rfl) (.y rfl rfl hqc12) rfl rfl (nofun) ?_
          refine DR.p (.dep 13 0 rfl rfl rfl (.dep 2 11 rfl rfl rfl .nil)) (T_loadr (i := IntKind.i64.wrap ((s1.1.length : Int) - 1)) (n := 2) (s := g2) (p := 1) ty3 rfl hx10 hf_api_Extent_Count) (.y rfl rfl hqc12) rfl rfl B0 ?_
          refine DR.p (.dep 8 6 rfl rfl rfl (.dep 14 0 rfl rfl rfl (.dep 2 12 rfl rfl rfl .nil))) (T_add rfl rfl) (.y rfl rfl hqc12) rfl rfl (nofun) ?_
          refine DR.p (.base (t := 0) rfl (.dep 2 13 rfl rfl rfl .nil)) (T_move rfl) (.y rfl rfl hqc12) rfl rfl (nofun) ?_
          refine DR.p (.base (t := 4) rfl (.dep 2 14 rfl rfl rfl .nil)) (T_move rfl) (.y rfl rfl hqc12) rfl rfl (nofun) ?_
          refine DR.p (.dep 16 1 rfl rfl rfl (.dep 17 0 rfl rfl rfl (.dep 2 15 rfl rfl rfl .nil))) (T_ix sl25 (.mk rfl) rfl hx11) (.y rfl rfl hqc12) rfl rfl (nofun) ?_
          refine DR.p (.dep 18 0 rfl rfl rfl (.dep 2 16 rfl rfl rfl .nil)) (T_load ty3 rfl) (.y rfl rfl hqc12) rfl rfl (nofun) ?_
          refine DR.tail (by kernel_rfl) (.refl _) rfl ?_
          simp only [List.reverse_cons, List.reverse_nil, List.nil_append, List.cons_append, DT]
          refine JLp (T_eql rfl rfl) rfl (nofun) (.y rfl rfl hqc12) ?_
          refine JLp (T_pickT rfl hqc12 rfl) rfl (nofun) .none ?_
          refine JL_nil (KJ_hid hK ?_)
          exact KJ.sub KJ_end (.cons rfl (.cons rfl (.cons rfl (.cons rfl (.cons rfl (.nil _))))))
        · replace hc12 := iff_ hqc12 hc12
          obtain rfl := inj hc12
          refine J_drawR (Ks := []) rfl (by kernel_rfl) fun K hK => ?_
          refine DR.p (.base (t := 5) rfl .nil) (T_move rfl) .none rfl rfl (nofun) ?_
          refine DR.p (.dep 0 0 rfl rfl rfl .nil) (T_gtr rfl rfl) .none rfl rfl (nofun) ?_
          refine DR.p (.dep 1 0 rfl rfl rfl .nil) (T_move rfl) .none rfl rfl (nofun) ?_
          refine DR.x (.dep 2 0 rfl rfl rfl .nil) rfl rfl hqc12 rfl rfl ?_
          refine DR.x (.dep 2 1 rfl rfl rfl .nil) rfl rfl hqc12 rfl rfl ?_
          refine DR.x (.dep 2 2 rfl rfl rfl .nil) rfl rfl hqc12 rfl rfl ?_
          refine DR.x (.dep 2 3 rfl rfl rfl .nil) rfl rfl hqc12 rfl rfl ?_
          refine DR.x (.dep 2 4 rfl rfl rfl .nil) rfl rfl hqc12 rfl rfl ?_
          refine DR.x (.dep 2 5 rfl rfl rfl .nil) rfl rfl hqc12 rfl rfl ?_
          refine DR.x (.dep 2 6 rfl rfl rfl .nil) rfl rfl hqc12 rfl rfl ?_
          refine DR.x (.dep 2 7 rfl rfl rfl .nil) rfl rfl hqc12 rfl rfl ?_
          refine DR.x (.dep 2 8 rfl rfl rfl .nil) rfl rfl hqc12 rfl rfl ?_
          refine DR.x (.dep 2 9 rfl rfl rfl .nil) rfl rfl hqc12 rfl rfl ?_
          refine DR.x (.dep 2 10 rfl rfl rfl .nil) rfl rfl hqc12 rfl rfl ?_
          refine DR.x (.dep 2 11 rfl rfl rfl .nil) rfl rfl hqc12 rfl rfl ?_
          refine DR.x (.dep 2 12 rfl rfl rfl .nil) rfl rfl hqc12 rfl rfl ?_
          refine DR.x (.dep 2 13 rfl rfl rfl .nil) rfl rfl hqc12 rfl rfl ?_
          refine DR.x (.dep 2 14 rfl rfl rfl .nil) rfl rfl hqc12 rfl rfl ?_
          refine DR.x (.dep 2 15 rfl rfl rfl .nil) rfl rfl hqc12 rfl rfl ?_
          refine DR.x (.dep 2 16 rfl rfl rfl .nil) rfl rfl hqc12 rfl rfl ?_
          refine DR.tail (by kernel_rfl) (.refl _) rfl ?_
          simp only [List.reverse_cons, List.reverse_nil, List.nil_append, List.cons_append, DT]
          refine JLs rfl rfl hqc12 rfl ?_
          refine JLp (T_pickF rfl hqc12 rfl) rfl (nofun) .none ?_
          refine JL_nil (KJ_hid hK ?_)
          exact KJ.sub KJ_end (.cons rfl (.cons rfl (.cons rfl (.cons rfl (.cons rfl (.nil _))))))
      · refine KJ_nrm_then (KJ_J ?_)
        replace hb5 := bnd hb5; obtain ⟨o14, ho15, hb5⟩ := hb5
        refine J_cuto o14 (fun (s16 : List api_Extent) (g17 : Value) => [(0, (Rep.sl (Rep.int .i64) 1).at a0), (4, (Rep.int .i64).at s1.2), (3, Rep.slv.at g17)]) (fun s16 g17 => Ent.row g17 62 2 r_api_Extent s16 :: R) ?_ ?_
        · refine J_test rfl (fun hq13 => ?_) (fun hq13 => ?_)
          · replace ho15 := ift hq13 ho15
            refine J_region ?_
            refine JLp (T_move rfl) rfl (nofun) .none ?_
            refine JLp (T_move rfl) rfl (nofun) .none ?_
            refine JLp (T_sub rfl rfl) rfl (nofun) .none ?_
            replace ho15 := bnd ho15; obtain ⟨x18, hx18, ho15⟩ := ho15
            refine JLp (T_ixr sl39 (.mk rfl) rfl hx18) rfl B0 .none ?_
            refine JLp (T_faddr fo62_1 rfl) rfl (nofun) .none ?_
            refine JLp (T_loadr (i := IntKind.i64.wrap ((s1.1.length : Int) - 1)) (n := 2) (s := g2) (p := 1) ty3 rfl hx18 hf_api_Extent_Count) rfl B0 .none ?_
            refine JLp (T_add rfl rfl) rfl (nofun) .none ?_
            replace ho15 := bnd ho15; obtain ⟨x19, hx19, ho15⟩ := ho15
            refine JLp (T_ixr sl39 (.mk rfl) rfl hx19) rfl B0 .none ?_
            refine JLp (T_faddr fo62_1 rfl) rfl (nofun) .none ?_
            refine JLn1 (T_storerV (i := IntKind.i64.wrap ((s1.1.length : Int) - 1)) (n := 2) (s := g2) (p := 1) (⟨x19.Start, IntKind.i64.wrap (x18.Count + 1)⟩ : api_Extent) ty3 rfl (.mk rfl) hx19 sf_api_Extent_Count lay_api_Extent rfl) .none ?_
            refine JL_nil ?_
            refine KJ_nrm_kq ?_
            exact KJ_ot (setI s1.1 (IntKind.i64.wrap ((s1.1.length : Int) - 1)) (⟨x19.Start, IntKind.i64.wrap (x18.Count + 1)⟩ : api_Extent)) g2 (inj ho15) (.cons rfl (.cons rfl (.cons rfl (.nil _)))) rfl
          · replace ho15 := iff_ hq13 ho15
            refine J_region ?_
            refine JLp (T_move rfl) rfl (nofun) .none ?_
            refine JLp (T_move rfl) rfl (nofun) .none ?_
            refine JLp (T_move rfl) rfl (nofun) .none ?_
            replace ho15 := bnd ho15; obtain ⟨x20, hx20, ho15⟩ := ho15
            refine JLp (T_ix sl25 (.mk rfl) rfl hx20) rfl (nofun) .none ?_
            refine JLp (T_load ty3 rfl) rfl (nofun) .none ?_
            refine JLp (T_build (s' := (⟨x20, 1⟩ : api_Extent)) bd62 z62 lay_api_Extent (.cons (π := (Rep.int .i64)) (.mk rfl) rfl (Lay.int _) sf_api_Extent_Start (.cons (π := (Rep.int .i64)) (.mk rfl) rfl (Lay.int _) sf_api_Extent_Count .nil))) rfl (nofun) .none ?_
            refine JLe0 (T_bslice (ρ := r_api_Extent) sl39 lay_api_Extent (.cons (.mk rfl) .nil) rfl (by decide)) rfl .none ?_
            replace ho15 := bnd ho15; obtain ⟨x21, hx21, ho15⟩ := ho15
            refine JLe1 (T_append sl39 ⟨_, lay_api_Extent⟩ (.mk rfl) (.mk rfl) hx21) rfl .none fun g22 => ?_
            refine JLp (T_assign rfl) rfl (nofun) .none ?_
            refine JL_nil ?_
            refine KJ_nrm_kq ?_
            exact KJ_ot x21 g22 (inj ho15) (.cons rfl (.cons rfl (.cons rfl (.nil _)))) rfl
        · intro s16 g17 hs
          subst hs
          replace hb5 := thn hb5
          refine KJ_nrm_blk ?_
          refine KJ_nrm_then (KJ_J ?_)
          refine J_region ?_
          refine JLp (T_move rfl) rfl (nofun) .none ?_
          refine JLp (T_add rfl rfl) rfl (nofun) .none ?_
          refine JLp (T_assign rfl) rfl (nofun) .none ?_
          refine JL_nil ?_
          refine KJ_nrm_then ?_
          exact KJ_nx (s16, IntKind.i64.wrap (s1.2 + 1)) g17 (inj hb5) (.cons rfl (.cons rfl (.cons rfl (.nil _)))) rfl
    · replace hb5 := iff_ hq8 hb5
      refine J_exit ?_
      refine KJ_exit_then ?_
      refine KJ_exit_then ?_
      refine KJ_exit_here ?_
      refine KJ_nrm_kq ?_
      obtain rfl := inj hb5
      exact KJ_ot (s1.1, s1.2) g2 hf6 (.cons rfl (.nil _)) rfl
  · intro s1 g2 hs
    subst hs
    replace h := thn h
    refine KJ_nrm_then (KJ_J ?_)
    refine J_seq ?_
    refine J_region ?_
    refine JLp (T_move rfl) rfl (nofun) .none ?_
    refine JLp (T_assign rfl) rfl (nofun) .none ?_
    refine JL_nil ?_
    refine KJ_nrm_then (KJ_J ?_)
    refine J_ret ?_
    refine KJ_freeze (t := 2) rfl ?_
    obtain rfl := inj h
    exact KJ_ret1' Try.results55 (.tmp (.mk rfl) Rv.nil) rfl rfl
end Go.Proofs.Ytogflgcngfghpaa
end

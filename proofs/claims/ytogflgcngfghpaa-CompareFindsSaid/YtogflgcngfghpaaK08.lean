/- A part of the proof: function 17 No condition. -/
import Derived.Test.YtogflgcngfghpaaK07
section
set_option maxHeartbeats 4000000
set_option linter.unusedVariables false
set_option linter.unusedSimpArgs false
namespace Go.Proofs.Ytogflgcngfghpaa
open Go.J
def f_compare_Learn (a0 : api_Walk) (a1 : api_Message) : Option (api_Walk × List api_Message × Int) :=
 (f_compare_Check a0).bind fun x3 => if (!decide (x3 = 0)) = true then some ((⟨(⟨0, 0, []⟩ : api_Tree), [], 0, [], 0, false⟩ : api_Walk), [], x3) else (f_compare_copied a0.Tree).bind fun x5 => (f_compare_walk_request (⟨(⟨x5, a0.Pending, a0.Level, a0.Found, a0.Sent, a0.Done⟩ : api_Walk)⟩ : compare_walk)).bind fun x7 => if a0.Done = true then some ((⟨(⟨0, 0, []⟩ : api_Tree), [], 0, [], 0, false⟩ : api_Walk), [], 12) else if (!decide (a1.Kind = 14)) = true then some ((⟨(⟨0, 0, []⟩ : api_Tree), [], 0, [], 0, false⟩ : api_Walk), [], 1) else (if (!decide (a1.Number = x7.Number)) = true then some true else (f_slices_Equal_int_int a1.Values x7.Values).bind fun x13 => some (!x13)).bind fun c11 => if c11 = true then some ((⟨(⟨0, 0, []⟩ : api_Tree), [], 0, [], 0, false⟩ : api_Walk), [], 22) else (f_extent_Count a0.Pending).bind fun x15 => if (!decide ((a1.Body.length : Int) = (IntKind.i64.wrap (8 * x15)))) = true then some ((⟨(⟨0, 0, []⟩ : api_Tree), [], 0, [], 0, false⟩ : api_Walk), [], 3) else (f_compare_walk_differing (⟨(⟨x5, a0.Pending, a0.Level, a0.Found, a0.Sent, a0.Done⟩ : api_Walk)⟩ : compare_walk) a1.Body).bind fun x17 => ((if (decide (x17.2.Walk.Level = 0)) = true then (f_compare_walk_find x17.2 x17.1).bind fun x23 => some (Fl.go ((⟨(⟨0, 0, []⟩ : api_Tree), [], 0, [], 0, false⟩ : api_Walk), x23)) else if (decide ((x17.1.length : Int) = 0)) = true then (f_compare_walk_finish x17.2).bind fun x25 => some (Fl.go ((⟨(⟨0, 0, []⟩ : api_Tree), [], 0, [], 0, false⟩ : api_Walk), x25)) else (f_compare_walk_descend x17.2 x17.1).bind fun x26 => (f_compare_walk_request x26).bind fun x27 => some (Fl.ret (x26.Walk, [x27], 0)) : Option (Fl (api_Walk × compare_walk) (api_Walk × List api_Message × Int)))).bind fun o19 => o19.then fun s21 => some (s21.2.Walk, [], 0)
theorem c_compare_Learn {a0 : api_Walk} {a1 : api_Message} {r : api_Walk × List api_Message × Int} (h : f_compare_Learn a0 a1 = some r) : Ct Try.prog 17 [r_api_Walk.at a0, r_api_Message.at a1] [] (fun _ : Unit => Pr.tup [r_api_Walk.at r.1, (Rep.sl r_api_Message 8).at r.2.1, (Rep.int .i64).at r.2.2]) (fun _ => []) := by
 refine Ct.mk Try.func17 rfl Try.ntmps17 (by simp) fun I R => ?_
 refine J.drop0 ?_
 unfold f_compare_Learn at h
 refine J_seq ?_
 refine J_region ?_
 refine JLa (T_boxm (.mk rfl) lay_api_Walk) rfl .none fun b1 => ?_
 refine JLe0 (T_box (ρ := r_api_Message) (.mk rfl)) rfl .none ?_
 refine JLa (T_alloc z41 lay_api_Walk) rfl .none fun b2 => ?_
 refine JLp (T_assign rfl) rfl (nofun) .none ?_
 refine JLp (T_assign rfl) rfl (nofun) .none ?_
 refine JL_nil ?_
 refine KJ_nrm_then (KJ_J ?_)
 refine J_seq ?_
 refine J_seq ?_
 refine J_region ?_
 refine JLp (T_loadw ty41 rfl) rfl B1 .none ?_
 replace h := bnd h; obtain ⟨x3, hx3, h⟩ := h
 refine JLe0 (T_call ⟨_, Try.func42, rfl, rfl⟩ (c_compare_Check hx3) ⟨(.mk rfl), trivial⟩) rfl .none ?_
 refine JLp (T_assign rfl) rfl (nofun) .none ?_
 refine JL_nil ?_
 refine KJ_nrm_then (KJ_J ?_)
 refine J_seq ?_
 refine J_region ?_
 refine JLp (T_move rfl) rfl (nofun) .none ?_
 refine JLp (T_neq rfl rfl) rfl (nofun) .none ?_
 refine JL_nil ?_
 refine KJ_nrm_then (KJ_J ?_)
 refine J_test rfl (fun hq4 => ?_) (fun hq4 => ?_)
 ·replace h := ift hq4 h
  refine J_seq ?_
  refine J_region ?_
  refine JLp (T_build (s' := (⟨(⟨0, 0, []⟩ : api_Tree), [], 0, [], 0, false⟩ : api_Walk)) bd41 z41 lay_api_Walk .nil) rfl (nofun) .none ?_
  refine JLp (T_move rfl) rfl (nofun) .none ?_
  refine JLn1 (T_store ty41 rfl (.mk rfl) (SetF.self lay_api_Walk)) .none ?_
  refine JLp (T_assign rfl) rfl (nofun) .none ?_
  refine JLp (T_assign rfl) rfl (nofun) .none ?_
  refine JL_nil ?_
  refine KJ_nrm_then (KJ_J ?_)
  refine J_ret ?_
  refine KJ_ret_then ?_
  obtain rfl := inj h
  exact KJ_retnc () [Ent.box b2 r_api_Walk (⟨(⟨0, 0, []⟩ : api_Tree), [], 0, [], 0, false⟩ : api_Walk), Ent.box b1 r_api_Walk a0] rfl Try.results17 (.cell ty41 rfl (by simp) (.tmp (.nilc rfl) (.tmp (.mk rfl) Rv.nil))) rfl (by simp) rfl
 ·replace h := iff_ hq4 h
  refine J_skip ?_
  refine KJ_nrm_then (KJ_J ?_)
  refine J_seq ?_
  refine J_region ?_
  refine JLp (T_faddr fo41_0 rfl) rfl (nofun) .none ?_
  refine JLp (T_loadb ty24 rfl hf_api_Walk_Tree) rfl B1 .none ?_
  replace h := bnd h; obtain ⟨x5, hx5, h⟩ := h
  refine JLe0 (T_call ⟨_, Try.func43, rfl, rfl⟩ (c_compare_copied hx5) ⟨(.mk rfl), trivial⟩) rfl .none ?_
  refine JLp (T_faddr fo41_0 rfl) rfl (nofun) .none ?_
  refine JL.perm F1 ?_
  refine JLn1 (T_storeV (⟨x5, a0.Pending, a0.Level, a0.Found, a0.Sent, a0.Done⟩ : api_Walk) ty24 rfl (.mk rfl) sf_api_Walk_Tree rfl) .none ?_
  refine JL_nil ?_
  refine KJ_nrm_then (KJ_J ?_)
  refine J_seq ?_
  refine J_region ?_
  refine JLp (T_loadw ty41 rfl) rfl B0 .none ?_
  refine JLp (T_build (s' := (⟨(⟨x5, a0.Pending, a0.Level, a0.Found, a0.Sent, a0.Done⟩ : api_Walk)⟩ : compare_walk)) bd98 z98 lay_compare_walk (.cons (π := r_api_Walk) (.mk rfl) rfl lay_api_Walk sf_compare_walk_Walk .nil)) rfl (nofun) .none ?_
  refine JLa (T_boxm (.mk rfl) lay_compare_walk) rfl .none fun b6 => ?_
  refine JLp (T_assign rfl) rfl (nofun) .none ?_
  refine JL_nil ?_
  refine KJ_nrm_then (KJ_J ?_)
  refine J_seq ?_
  refine J_region ?_
  refine JLp (T_move rfl) rfl (nofun) .none ?_
  replace h := bnd h; obtain ⟨x7, hx7, h⟩ := h
  refine JLe1 (T_call ⟨_, Try.func44, rfl, rfl⟩ (c_compare_walk_request hx7) ⟨.mk rfl, trivial⟩) rfl .none fun _ => ?_
  refine JLa (T_alloc z28 lay_api_Message) rfl .none fun b8 => ?_
  refine JLn1 (T_store ty28 rfl (.mk rfl) (SetF.self lay_api_Message)) .none ?_
  refine JL_nil ?_
  refine KJ_nrm_then (KJ_J ?_)
  refine J_seq ?_
  refine J_block ?_
  refine J_seq ?_
  refine J_region ?_
  refine JLp (T_move rfl) rfl (nofun) .none ?_
  refine JLp (T_nilchk rfl) rfl (nofun) .none ?_
  refine JLp (T_faddr fo98_0 rfl) rfl (nofun) .none ?_
  refine JLp (T_faddr fo41_5 rfl) rfl (nofun) .none ?_
  refine JLp (T_loadb ty4 rfl (HasF.comp hf_compare_walk_Walk hf_api_Walk_Done)) rfl B1 .none ?_
  refine JLp (T_assign rfl) rfl (nofun) .none ?_
  refine JL_nil ?_
  refine KJ_nrm_then (KJ_J ?_)
  refine J_test rfl (fun hq9 => ?_) (fun hq9 => ?_)
  ·replace h := ift hq9 h
   refine J_seq ?_
   refine J_region ?_
   refine JLp (T_build (s' := (⟨(⟨0, 0, []⟩ : api_Tree), [], 0, [], 0, false⟩ : api_Walk)) bd41 z41 lay_api_Walk .nil) rfl (nofun) .none ?_
   refine JL.perm F3 ?_
   refine JLn1 (T_store ty41 rfl (.mk rfl) (SetF.self lay_api_Walk)) .none ?_
   refine JLp (T_assign rfl) rfl (nofun) .none ?_
   refine JLp (T_assign rfl) rfl (nofun) .none ?_
   refine JL_nil ?_
   refine KJ_nrm_then (KJ_J ?_)
   refine J_ret ?_
   refine KJ_ret_blk ?_
   refine KJ_ret_then ?_
   obtain rfl := inj h
   exact KJ_retnc () [Ent.box b2 r_api_Walk (⟨(⟨0, 0, []⟩ : api_Tree), [], 0, [], 0, false⟩ : api_Walk), Ent.box b8 r_api_Message x7, Ent.box b6 r_compare_walk (⟨(⟨x5, a0.Pending, a0.Level, a0.Found, a0.Sent, a0.Done⟩ : api_Walk)⟩ : compare_walk), Ent.box b1 r_api_Walk (⟨x5, a0.Pending, a0.Level, a0.Found, a0.Sent, a0.Done⟩ : api_Walk)] rfl Try.results17 (.cell ty41 rfl (by simp) (.tmp (.nilc rfl) (.tmp (.mk rfl) Rv.nil))) rfl (by simp) rfl
  ·replace h := iff_ hq9 h
   refine J_seq ?_
   refine J_region ?_
   refine JLp (T_faddri fo28_0 rfl hf_api_Message_Kind) rfl (nofun) .none ?_
   refine JLp (T_load ty3 rfl) rfl (nofun) .none ?_
   refine JLp (T_neq rfl rfl) rfl (nofun) .none ?_
   refine JLp (T_assign rfl) rfl (nofun) .none ?_
   refine JL_nil ?_
   refine KJ_nrm_then (KJ_J ?_)
   refine J_test rfl (fun hq10 => ?_) (fun hq10 => ?_)
   ·replace h := ift hq10 h
    refine J_seq ?_
    refine J_region ?_
    refine JLp (T_build (s' := (⟨(⟨0, 0, []⟩ : api_Tree), [], 0, [], 0, false⟩ : api_Walk)) bd41 z41 lay_api_Walk .nil) rfl (nofun) .none ?_
    refine JL.perm F3 ?_
    refine JLn1 (T_store ty41 rfl (.mk rfl) (SetF.self lay_api_Walk)) .none ?_
    refine JLp (T_assign rfl) rfl (nofun) .none ?_
    refine JLp (T_assign rfl) rfl (nofun) .none ?_
    refine JL_nil ?_
    refine KJ_nrm_then (KJ_J ?_)
    refine J_ret ?_
    refine KJ_ret_blk ?_
    refine KJ_ret_then ?_
    obtain rfl := inj h
    exact KJ_retnc () [Ent.box b2 r_api_Walk (⟨(⟨0, 0, []⟩ : api_Tree), [], 0, [], 0, false⟩ : api_Walk), Ent.box b8 r_api_Message x7, Ent.box b6 r_compare_walk (⟨(⟨x5, a0.Pending, a0.Level, a0.Found, a0.Sent, a0.Done⟩ : api_Walk)⟩ : compare_walk), Ent.box b1 r_api_Walk (⟨x5, a0.Pending, a0.Level, a0.Found, a0.Sent, a0.Done⟩ : api_Walk)] rfl Try.results17 (.cell ty41 rfl (by simp) (.tmp (.nilc rfl) (.tmp (.mk rfl) Rv.nil))) rfl (by simp) rfl
   ·replace h := iff_ hq10 h
    refine J_seq ?_
    refine J_region ?_
    refine JLp (T_faddri fo28_3 rfl hf_api_Message_Number) rfl (nofun) .none ?_
    refine JLp (T_load ty3 rfl) rfl (nofun) .none ?_
    refine JLp (T_faddr fo28_3 rfl) rfl (nofun) .none ?_
    refine JLp (T_loadb ty3 rfl hf_api_Message_Number) rfl B0 .none ?_
    refine JLp (T_neq rfl rfl) rfl (nofun) .none ?_
    refine JLp (T_move rfl) rfl (nofun) .none ?_
    replace h := bnd h; obtain ⟨c11, hc11, h⟩ := h
    refine JL_at 7 [(3, (Rep.iptr r_api_Message).at a1), (4, Rep.ptr.at (b2, 0)), (8, Rep.ptr.at (b6, 0)), (51, Rep.bool.at c11)] (Ent.box b8 r_api_Message x7 :: Ent.box b6 r_compare_walk (⟨(⟨x5, a0.Pending, a0.Level, a0.Found, a0.Sent, a0.Done⟩ : api_Walk)⟩ : compare_walk) :: Ent.box b1 r_api_Walk (⟨x5, a0.Pending, a0.Level, a0.Found, a0.Sent, a0.Done⟩ : api_Walk) :: Ent.box b2 r_api_Walk (⟨(⟨0, 0, []⟩ : api_Tree), [], 0, [], 0, false⟩ : api_Walk) :: R) ?_ ?_
    ·rcases Bool.eq_false_or_eq_true (!decide (a1.Number = x7.Number)) with hq12 | hq12
     ·replace hc11 := ift hq12 hc11
      obtain rfl := inj hc11
      refine JLs rfl rfl hq12 rfl ?_
      refine JLs rfl rfl hq12 rfl ?_
      refine JLs rfl rfl hq12 rfl ?_
      refine JLs rfl rfl hq12 rfl ?_
      refine JLs rfl rfl hq12 rfl ?_
      refine JLs rfl rfl hq12 rfl ?_
      refine JLp (T_pickT rfl hq12 rfl) rfl (nofun) .none ?_
      refine JL_nil ?_
      exact KJ.sub KJ_end (.cons rfl (.cons rfl (.cons rfl (.cons rfl (.nil _)))))
     ·replace hc11 := iff_ hq12 hc11
      refine JLp (T_faddri fo28_6 rfl hf_api_Message_Values) rfl (nofun) (.y rfl rfl hq12) ?_
      refine JLp (T_load ty25 rfl) rfl (nofun) (.y rfl rfl hq12) ?_
      refine JLp (T_faddr fo28_6 rfl) rfl (nofun) (.y rfl rfl hq12) ?_
      refine JLp (T_loadb ty25 rfl hf_api_Message_Values) rfl B0 (.y rfl rfl hq12) ?_
      replace hc11 := bnd hc11; obtain ⟨x13, hx13, hc11⟩ := hc11
      refine JLe0 (T_call ⟨_, Try.func31, rfl, rfl⟩ (c_slices_Equal_int_int hx13) ⟨(.mk rfl), ⟨(.mk rfl), trivial⟩⟩) rfl (.y rfl rfl hq12) ?_
      refine JLp (T_not rfl) rfl (nofun) (.y rfl rfl hq12) ?_
      obtain rfl := inj hc11
      refine JLp (T_pickF rfl hq12 rfl) rfl (nofun) .none ?_
      refine JL_nil ?_
      exact KJ.sub KJ_end (.cons rfl (.cons rfl (.cons rfl (.cons rfl (.nil _)))))
    refine JLp (T_assign rfl) rfl (nofun) .none ?_
    refine JL_nil ?_
    refine KJ_nrm_then (KJ_J ?_)
    refine J_test rfl (fun hq14 => ?_) (fun hq14 => ?_)
    ·replace h := ift hq14 h
     refine J_seq ?_
     refine J_region ?_
     refine JLp (T_build (s' := (⟨(⟨0, 0, []⟩ : api_Tree), [], 0, [], 0, false⟩ : api_Walk)) bd41 z41 lay_api_Walk .nil) rfl (nofun) .none ?_
     refine JL.perm F3 ?_
     refine JLn1 (T_store ty41 rfl (.mk rfl) (SetF.self lay_api_Walk)) .none ?_
     refine JLp (T_assign rfl) rfl (nofun) .none ?_
     refine JLp (T_assign rfl) rfl (nofun) .none ?_
     refine JL_nil ?_
     refine KJ_nrm_then (KJ_J ?_)
     refine J_ret ?_
     refine KJ_ret_blk ?_
     refine KJ_ret_then ?_
     obtain rfl := inj h
     exact KJ_retnc () [Ent.box b2 r_api_Walk (⟨(⟨0, 0, []⟩ : api_Tree), [], 0, [], 0, false⟩ : api_Walk), Ent.box b8 r_api_Message x7, Ent.box b6 r_compare_walk (⟨(⟨x5, a0.Pending, a0.Level, a0.Found, a0.Sent, a0.Done⟩ : api_Walk)⟩ : compare_walk), Ent.box b1 r_api_Walk (⟨x5, a0.Pending, a0.Level, a0.Found, a0.Sent, a0.Done⟩ : api_Walk)] rfl Try.results17 (.cell ty41 rfl (by simp) (.tmp (.nilc rfl) (.tmp (.mk rfl) Rv.nil))) rfl (by simp) rfl
    ·replace h := iff_ hq14 h
     refine J_seq ?_
     replace h := bnd h; obtain ⟨x15, hx15, h⟩ := h
     refine J_drawR (Ks := []) rfl (by kernel_rfl) fun K hK => ?_
     refine DR.p (.base (t := 3) rfl .nil) (T_faddri fo28_7 rfl hf_api_Message_Body) .none rfl rfl (nofun) ?_
     refine DR.p (.dep 0 0 rfl rfl rfl .nil) (T_load ty26 rfl) .none rfl rfl (nofun) ?_
     refine DR.p (.dep 1 0 rfl rfl rfl .nil) (T_len (ρ := (Rep.int .u8)) sl26 (.mk rfl)) .none rfl rfl (nofun) ?_
     refine DR.p (.base (t := 8) rfl .nil) (T_move rfl) .none rfl rfl (nofun) ?_
     refine DR.p (.dep 3 0 rfl rfl rfl .nil) (T_nilchk rfl) .none rfl rfl (nofun) ?_
     refine DR.p (.dep 4 0 rfl rfl rfl .nil) (T_faddr fo98_0 rfl) .none rfl rfl (nofun) ?_
     refine DR.p (.dep 5 0 rfl rfl rfl .nil) (T_faddr fo41_1 rfl) .none rfl rfl (nofun) ?_
     refine DR.p (.dep 6 0 rfl rfl rfl .nil) (T_loadb ty39 rfl (HasF.comp hf_compare_walk_Walk hf_api_Walk_Pending)) .none rfl rfl B1 ?_
     refine DR.e (.dep 7 0 rfl rfl rfl .nil) (T_call ⟨_, Try.func45, rfl, rfl⟩ (c_extent_Count hx15) ⟨(.mk rfl), trivial⟩) .none rfl rfl ?_
     refine DR.p (.dep 8 0 rfl rfl rfl .nil) (T_mul rfl rfl) .none rfl rfl (nofun) ?_
     refine DR.tail (by kernel_rfl) (.refl _) rfl ?_
     simp only [List.reverse_cons, List.reverse_nil, List.nil_append, List.cons_append, DT]
     refine JLp (T_neq rfl rfl) rfl (nofun) .none ?_
     refine JLp (T_assign rfl) rfl (nofun) .none ?_
     refine JL_nil (KJ_hid hK ?_)
     refine KJ_nrm_then (KJ_J ?_)
     refine J_test rfl (fun hq16 => ?_) (fun hq16 => ?_)
     ·replace h := ift hq16 h
      refine J_seq ?_
      refine J_region ?_
      refine JLp (T_build (s' := (⟨(⟨0, 0, []⟩ : api_Tree), [], 0, [], 0, false⟩ : api_Walk)) bd41 z41 lay_api_Walk .nil) rfl (nofun) .none ?_
      refine JL.perm F3 ?_
      refine JLn1 (T_store ty41 rfl (.mk rfl) (SetF.self lay_api_Walk)) .none ?_
      refine JLp (T_assign rfl) rfl (nofun) .none ?_
      refine JLp (T_assign rfl) rfl (nofun) .none ?_
      refine JL_nil ?_
      refine KJ_nrm_then (KJ_J ?_)
      refine J_ret ?_
      refine KJ_ret_blk ?_
      refine KJ_ret_then ?_
      obtain rfl := inj h
      exact KJ_retnc () [Ent.box b2 r_api_Walk (⟨(⟨0, 0, []⟩ : api_Tree), [], 0, [], 0, false⟩ : api_Walk), Ent.box b8 r_api_Message x7, Ent.box b6 r_compare_walk (⟨(⟨x5, a0.Pending, a0.Level, a0.Found, a0.Sent, a0.Done⟩ : api_Walk)⟩ : compare_walk), Ent.box b1 r_api_Walk (⟨x5, a0.Pending, a0.Level, a0.Found, a0.Sent, a0.Done⟩ : api_Walk)] rfl Try.results17 (.cell ty41 rfl (by simp) (.tmp (.nilc rfl) (.tmp (.mk rfl) Rv.nil))) rfl (by simp) rfl
     ·replace h := iff_ hq16 h
      refine J_skip ?_
      refine KJ_nrm_blk ?_
      refine KJ_nrm_then (KJ_J ?_)
      refine J_seq ?_
      refine J_region ?_
      refine JLp (T_move rfl) rfl (nofun) .none ?_
      refine JLp (T_faddri fo28_7 rfl hf_api_Message_Body) rfl (nofun) .none ?_
      refine JLp (T_load ty26 rfl) rfl (nofun) .none ?_
      replace h := bnd h; obtain ⟨x17, hx17, h⟩ := h
      refine JL.perm F1 ?_
      refine JLe1 (T_call ⟨_, Try.func46, rfl, rfl⟩ (c_compare_walk_differing hx17) ⟨.mk rfl, ⟨(.mk rfl), trivial⟩⟩) rfl .none fun _ => ?_
      refine JLp (T_assign rfl) rfl (nofun) .none ?_
      refine JL_nil ?_
      refine KJ_nrm_then (KJ_J ?_)
      refine J_seq ?_
      refine J_block ?_
      refine J_seq ?_
      refine J_region ?_
      refine JLp (T_move rfl) rfl (nofun) .none ?_
      refine JLp (T_nilchk rfl) rfl (nofun) .none ?_
      refine JLp (T_faddr fo98_0 rfl) rfl (nofun) .none ?_
      refine JLp (T_faddr fo41_2 rfl) rfl (nofun) .none ?_
      refine JLp (T_loadb ty3 rfl (HasF.comp hf_compare_walk_Walk hf_api_Walk_Level)) rfl B0 .none ?_
      refine JLp (T_eql rfl rfl) rfl (nofun) .none ?_
      refine JLp (T_assign rfl) rfl (nofun) .none ?_
      refine JL_nil ?_
      refine KJ_nrm_then (KJ_J ?_)
      replace h := bnd h; obtain ⟨o19, ho20, h⟩ := h
      refine J_cuto o19 (fun (s21 : api_Walk × compare_walk) (g22 : Unit) => [(4, Rep.ptr.at (b2, 0)), (8, Rep.ptr.at (b6, 0))]) (fun s21 g22 => Ent.box b6 r_compare_walk s21.2 :: Ent.box b8 r_api_Message x7 :: Ent.box b1 r_api_Walk (⟨x5, a0.Pending, a0.Level, a0.Found, a0.Sent, a0.Done⟩ : api_Walk) :: Ent.box b2 r_api_Walk s21.1 :: R) ?_ ?_
      ·refine J_test rfl (fun hq18 => ?_) (fun hq18 => ?_)
       ·replace ho20 := ift hq18 ho20
        refine J_region ?_
        refine JLp (T_move rfl) rfl (nofun) .none ?_
        refine JLp (T_move rfl) rfl (nofun) .none ?_
        replace ho20 := bnd ho20; obtain ⟨x23, hx23, ho20⟩ := ho20
        refine JLe1 (T_call ⟨_, Try.func47, rfl, rfl⟩ (c_compare_walk_find hx23) ⟨.mk rfl, ⟨(.mk rfl), trivial⟩⟩) rfl .none fun _ => ?_
        refine JL_nil ?_
        refine KJ_nrm_kq ?_
        exact KJ_ot ((⟨(⟨0, 0, []⟩ : api_Tree), [], 0, [], 0, false⟩ : api_Walk), x23) () (inj ho20) (.cons rfl (.cons rfl (.nil _))) rfl
       ·replace ho20 := iff_ hq18 ho20
        refine J_seq ?_
        refine J_region ?_
        refine JLp (T_move rfl) rfl (nofun) .none ?_
        refine JLp (T_len (ρ := (Rep.int .i64)) sl25 (.mk rfl)) rfl (nofun) .none ?_
        refine JLp (T_eql rfl rfl) rfl (nofun) .none ?_
        refine JLp (T_assign rfl) rfl (nofun) .none ?_
        refine JL_nil ?_
        refine KJ_nrm_then (KJ_J ?_)
        refine J_test rfl (fun hq24 => ?_) (fun hq24 => ?_)
        ·replace ho20 := ift hq24 ho20
         refine J_region ?_
         refine JLp (T_move rfl) rfl (nofun) .none ?_
         replace ho20 := bnd ho20; obtain ⟨x25, hx25, ho20⟩ := ho20
         refine JLe1 (T_call ⟨_, Try.func48, rfl, rfl⟩ (c_compare_walk_finish hx25) ⟨.mk rfl, trivial⟩) rfl .none fun _ => ?_
         refine JL_nil ?_
         refine KJ_nrm_kq ?_
         exact KJ_ot ((⟨(⟨0, 0, []⟩ : api_Tree), [], 0, [], 0, false⟩ : api_Walk), x25) () (inj ho20) (.cons rfl (.cons rfl (.nil _))) rfl
        ·replace ho20 := iff_ hq24 ho20
         refine J_seq ?_
         refine J_region ?_
         refine JLp (T_move rfl) rfl (nofun) .none ?_
         refine JLp (T_move rfl) rfl (nofun) .none ?_
         replace ho20 := bnd ho20; obtain ⟨x26, hx26, ho20⟩ := ho20
         refine JLe1 (T_call ⟨_, Try.func49, rfl, rfl⟩ (c_compare_walk_descend hx26) ⟨.mk rfl, ⟨(.mk rfl), trivial⟩⟩) rfl .none fun _ => ?_
         refine JL_nil ?_
         refine KJ_nrm_then (KJ_J ?_)
         refine J_seq ?_
         refine J.perm F3 ?_
         replace ho20 := bnd ho20; obtain ⟨x27, hx27, ho20⟩ := ho20
         refine J_drawR (Ks := [Ent.box b2 r_api_Walk (⟨(⟨0, 0, []⟩ : api_Tree), [], 0, [], 0, false⟩ : api_Walk)]) rfl (by kernel_rfl) fun K hK => ?_
         refine DR.p (.base (t := 8) rfl .nil) (T_move rfl) .none rfl rfl (nofun) ?_
         refine DR.p (.dep 0 0 rfl rfl rfl .nil) (T_nilchk rfl) .none rfl rfl (nofun) ?_
         refine DR.p (.dep 1 0 rfl rfl rfl .nil) (T_faddr fo98_0 rfl) .none rfl rfl (nofun) ?_
         refine DR.p (.dep 2 0 rfl rfl rfl .nil) (T_loadb ty41 rfl hf_compare_walk_Walk) .none rfl rfl B0 ?_
         refine DR.p (.base (t := 8) rfl .nil) (T_move rfl) .none rfl rfl (nofun) ?_
         refine DR.b (.dep 4 0 rfl rfl rfl .nil) (T_call ⟨_, Try.func44, rfl, rfl⟩ (c_compare_walk_request hx27) ⟨.mk rfl, trivial⟩) .none rfl rfl B0 ?_
         refine DR.e (.dep 5 0 rfl rfl rfl .nil) (T_bslice (ρ := r_api_Message) sl43 lay_api_Message (.cons (.mk rfl) .nil) rfl (by decide)) .none rfl rfl ?_
         refine DR.w (κ := [Ent.box b2 r_api_Walk (⟨(⟨0, 0, []⟩ : api_Tree), [], 0, [], 0, false⟩ : api_Walk)]) (ε := [Ent.box b2 r_api_Walk x26.Walk]) (.base (t := 4) rfl (.dep 3 3 rfl rfl rfl .nil)) (T_store ty41 rfl (.mk rfl) (SetF.self lay_api_Walk)) .none ?_
         refine DR.tail (by kernel_rfl) (.refl _) rfl ?_
         simp only [List.reverse_cons, List.reverse_nil, List.nil_append, List.cons_append, DT]
         refine JLp (T_assign rfl) rfl (nofun) .none ?_
         refine JLp (T_assign rfl) rfl (nofun) .none ?_
         refine JL_nil (KJ_hid hK ?_)
         refine KJ_nrm_then (KJ_J ?_)
         refine J_ret ?_
         refine KJ_ret_kq ?_
         refine KJ_ret_blk ?_
         refine KJ_ret_then ?_
         obtain rfl := inj ho20
         replace h : some _ = some _ := h
         obtain rfl := inj h
         exact KJ_retnc () [Ent.box b2 r_api_Walk x26.Walk, Ent.box b6 r_compare_walk x26, Ent.box b8 r_api_Message x7, Ent.box b1 r_api_Walk (⟨x5, a0.Pending, a0.Level, a0.Found, a0.Sent, a0.Done⟩ : api_Walk)] rfl Try.results17 (.cell ty41 rfl (by simp) (.tmp (.mk rfl) (.tmp (.mk rfl) Rv.nil))) rfl (by simp) rfl
      ·intro s21 g22 hs
       subst hs
       replace h := thn h
       refine KJ_nrm_blk ?_
       refine KJ_nrm_then (KJ_J ?_)
       refine J_seq ?_
       refine J_region ?_
       refine JLp (T_move rfl) rfl (nofun) .none ?_
       refine JLp (T_nilchk rfl) rfl (nofun) .none ?_
       refine JLp (T_faddr fo98_0 rfl) rfl (nofun) .none ?_
       refine JLp (T_loadb ty41 rfl hf_compare_walk_Walk) rfl B0 .none ?_
       refine JL.perm F3 ?_
       refine JLn1 (T_store ty41 rfl (.mk rfl) (SetF.self lay_api_Walk)) .none ?_
       refine JLp (T_assign rfl) rfl (nofun) .none ?_
       refine JLp (T_assign rfl) rfl (nofun) .none ?_
       refine JL_nil ?_
       refine KJ_nrm_then (KJ_J ?_)
       refine J_ret ?_
       obtain rfl := inj h
       exact KJ_retnc () [Ent.box b2 r_api_Walk s21.2.Walk, Ent.box b6 r_compare_walk s21.2, Ent.box b8 r_api_Message x7, Ent.box b1 r_api_Walk (⟨x5, a0.Pending, a0.Level, a0.Found, a0.Sent, a0.Done⟩ : api_Walk)] rfl Try.results17 (.cell ty41 rfl (by simp) (.tmp (.nilc rfl) (.tmp (.mk rfl) Rv.nil))) rfl (by simp) rfl
end Go.Proofs.Ytogflgcngfghpaa
end
section
set_option maxHeartbeats 4000000
set_option linter.unusedVariables false
set_option linter.unusedSimpArgs false
namespace Go.Proofs.Ytogflgcngfghpaa
open Go.J
def f_ref44_Check (a0 : api_Walk) : Option (Int) :=
 (f_ref11_Check a0.Tree).bind fun x1 => if (!decide (x1 = 0)) = true then some x1 else (if (decide (a0.Level < 0)) = true then some true else some (decide ((a0.Tree.Levels.length : Int) ≤ a0.Level))).bind fun c3 => (if c3 = true then some true else (if a0.Done = true then some (!decide (a0.Level = 0)) else some false).bind fun c7 => some c7).bind fun c5 => (if c5 = true then some true else some (decide (a0.Sent < 0))).bind fun c9 => (if c9 = true then some true else some (decide (8192 < a0.Sent))).bind fun c11 => if c11 = true then some 2 else if a0.Done = true then (if (decide (0 < (a0.Pending.length : Int))) = true then some true else (f_ref01_Check a0.Found a0.Tree.Size).bind fun x17 => some (!decide (x17 = 0))).bind fun c15 => if c15 = true then some 3 else some 0 else (if (decide ((a0.Pending.length : Int) = 0)) = true then some true else (idx a0.Tree.Levels a0.Level).bind fun x19 => (f_ref01_Check a0.Pending (x19.length : Int)).bind fun x20 => some (!decide (x20 = 0))).bind fun c21 => (if c21 = true then some true else some (decide (0 < (a0.Found.length : Int)))).bind fun c22 => if c22 = true then some 3 else some 0
end Go.Proofs.Ytogflgcngfghpaa
end
section
set_option maxHeartbeats 4000000
set_option linter.unusedVariables false
set_option linter.unusedSimpArgs false
namespace Go.Proofs.Ytogflgcngfghpaa
open Go.J
def f_ref44_Request (a0 : api_Walk) : Option (api_Message) :=
 (whileF (σ := List Int × Int) (ρ := api_Message) (fun s3 => if (decide (s3.2 < (a0.Pending.length : Int))) = true then (idx a0.Pending s3.2).bind fun x11 => (idx a0.Pending s3.2).bind fun x12 => (app 8 s3.1 [x11.Start, x12.Count]).bind fun x13 => some (Rd.next (x13, IntKind.i64.wrap (s3.2 + 1))) else some (Rd.done (s3.1, s3.2))) bigK (([a0.Tree.Size, a0.Tree.Leaf] : List Int), 0)).bind fun o5 => o5.then fun s3 => some (⟨13, 0, 0, a0.Level, 0, 0, s3.1, []⟩ : api_Message)
end Go.Proofs.Ytogflgcngfghpaa
end
section
set_option maxHeartbeats 4000000
set_option linter.unusedVariables false
set_option linter.unusedSimpArgs false
namespace Go.Proofs.Ytogflgcngfghpaa
open Go.J
def f_ref15_SameInts (a0 : List Int) (a1 : List Int) : Option (Bool) :=
 if (!decide ((a0.length : Int) = (a1.length : Int))) = true then some false else (whileF (σ := Int) (ρ := Bool) (fun s2 => if (decide (s2 < (a0.length : Int))) = true then (idx a0 s2).bind fun x10 => (idx a1 s2).bind fun x11 => if (!decide (x10 = x11)) = true then some (Rd.ret false) else some (Rd.next (IntKind.i64.wrap (s2 + 1))) else some (Rd.done s2)) bigK 0).bind fun o4 => o4.then fun s2 => some true
end Go.Proofs.Ytogflgcngfghpaa
end
section
set_option maxHeartbeats 4000000
set_option linter.unusedVariables false
set_option linter.unusedSimpArgs false
namespace Go.Proofs.Ytogflgcngfghpaa
open Go.J
def f_ref44_digest (a0 : List Int) (a1 : Int) : Option (Int) :=
 (whileF (σ := Int × Int) (ρ := Int) (fun s1 => if (decide (s1.2 < 8)) = true then (idx a0 (IntKind.i64.wrap ((IntKind.i64.wrap (8 * a1)) + s1.2))).bind fun x9 => (shlI .u64 (IntKind.u64.wrap x9) (IntKind.i64.wrap (8 * s1.2))).bind fun x10 => some (Rd.next (IntKind.u64.wrap (s1.1 + x10), IntKind.i64.wrap (s1.2 + 1))) else some (Rd.done (s1.1, s1.2))) bigK (0, 0)).bind fun o3 => o3.then fun s1 => some s1.1
end Go.Proofs.Ytogflgcngfghpaa
end
section
set_option maxHeartbeats 4000000
set_option linter.unusedVariables false
set_option linter.unusedSimpArgs false
namespace Go.Proofs.Ytogflgcngfghpaa
open Go.J
def f_ref11_Extents (a0 : Int) (a1 : Int) (a2 : List Int) : Option (List api_Extent) :=
 (whileF (σ := List api_Extent × Int) (ρ := List api_Extent) (fun s1 => if (decide (s1.2 < (a2.length : Int))) = true then (idx a2 s1.2).bind fun x9 => (idx a2 s1.2).bind fun x10 => (idx a2 s1.2).bind fun x11 => (if (decide (0 < (s1.1.length : Int))) = true then (idx s1.1 (IntKind.i64.wrap ((s1.1.length : Int) - 1))).bind fun x13 => (idx s1.1 (IntKind.i64.wrap ((s1.1.length : Int) - 1))).bind fun x14 => some (decide ((IntKind.i64.wrap (x13.Start + x14.Count)) = (IntKind.i64.wrap (x9 * a1)))) else some false).bind fun c15 => ((if c15 = true then (idx s1.1 (IntKind.i64.wrap ((s1.1.length : Int) - 1))).bind fun x21 => (idx s1.1 (IntKind.i64.wrap ((s1.1.length : Int) - 1))).bind fun x22 => some (Fl.go (setI s1.1 (IntKind.i64.wrap ((s1.1.length : Int) - 1)) (⟨x22.Start, IntKind.i64.wrap (x21.Count + (IntKind.i64.wrap ((min a0 (IntKind.i64.wrap ((IntKind.i64.wrap (x10 * a1)) + a1))) - (IntKind.i64.wrap (x11 * a1)))))⟩ : api_Extent))) else (app 16 s1.1 [(⟨IntKind.i64.wrap (x9 * a1), IntKind.i64.wrap ((min a0 (IntKind.i64.wrap ((IntKind.i64.wrap (x10 * a1)) + a1))) - (IntKind.i64.wrap (x11 * a1)))⟩ : api_Extent)]).bind fun x23 => some (Fl.go x23) : Option (Fl (List api_Extent) (Rd (List api_Extent × Int) (List api_Extent))))).bind fun o17 => o17.then fun s19 => some (Rd.next (s19, IntKind.i64.wrap (s1.2 + 1))) else some (Rd.done (s1.1, s1.2))) bigK ([], 0)).bind fun o3 => o3.then fun s1 => some s1.1
end Go.Proofs.Ytogflgcngfghpaa
end
section
set_option maxHeartbeats 4000000
set_option linter.unusedVariables false
set_option linter.unusedSimpArgs false
namespace Go.Proofs.Ytogflgcngfghpaa
open Go.J
def f_ref44_extents (a0 : List Int) : Option (List api_Extent) :=
 (whileF (σ := List api_Extent × Int) (ρ := List api_Extent) (fun s1 => if (decide (s1.2 < (a0.length : Int))) = true then (if (decide (0 < (s1.1.length : Int))) = true then (idx s1.1 (IntKind.i64.wrap ((s1.1.length : Int) - 1))).bind fun x9 => (idx s1.1 (IntKind.i64.wrap ((s1.1.length : Int) - 1))).bind fun x10 => (idx a0 s1.2).bind fun x11 => some (decide ((IntKind.i64.wrap (x9.Start + x10.Count)) = x11)) else some false).bind fun c12 => ((if c12 = true then (idx s1.1 (IntKind.i64.wrap ((s1.1.length : Int) - 1))).bind fun x18 => (idx s1.1 (IntKind.i64.wrap ((s1.1.length : Int) - 1))).bind fun x19 => some (Fl.go (setI s1.1 (IntKind.i64.wrap ((s1.1.length : Int) - 1)) (⟨x19.Start, IntKind.i64.wrap (x18.Count + 1)⟩ : api_Extent))) else (idx a0 s1.2).bind fun x20 => (app 16 s1.1 [(⟨x20, 1⟩ : api_Extent)]).bind fun x21 => some (Fl.go x21) : Option (Fl (List api_Extent) (Rd (List api_Extent × Int) (List api_Extent))))).bind fun o14 => o14.then fun s16 => some (Rd.next (s16, IntKind.i64.wrap (s1.2 + 1))) else some (Rd.done (s1.1, s1.2))) bigK ([], 0)).bind fun o3 => o3.then fun s1 => some s1.1
end Go.Proofs.Ytogflgcngfghpaa
end
section
set_option maxHeartbeats 4000000
set_option linter.unusedVariables false
set_option linter.unusedSimpArgs false
namespace Go.Proofs.Ytogflgcngfghpaa
open Go.J
def f_ref44_Learn (a0 : api_Walk) (a1 : api_Message) : Option (api_Walk × List api_Message × Int) :=
 (f_ref44_Check a0).bind fun x2 => if (!decide (x2 = 0)) = true then some ((⟨(⟨0, 0, []⟩ : api_Tree), [], 0, [], 0, false⟩ : api_Walk), [], x2) else if a0.Done = true then some ((⟨(⟨0, 0, []⟩ : api_Tree), [], 0, [], 0, false⟩ : api_Walk), [], 12) else if (!decide (a1.Kind = 14)) = true then some ((⟨(⟨0, 0, []⟩ : api_Tree), [], 0, [], 0, false⟩ : api_Walk), [], 1) else (f_ref44_Request a0).bind fun x6 => (if (!decide (a1.Number = x6.Number)) = true then some true else (f_ref15_SameInts a1.Values x6.Values).bind fun x10 => some (!x10)).bind fun c8 => if c8 = true then some ((⟨(⟨0, 0, []⟩ : api_Tree), [], 0, [], 0, false⟩ : api_Walk), [], 22) else (f_ref44_Nodes a0.Pending).bind fun x12 => if (!decide ((a1.Body.length : Int) = (IntKind.i64.wrap (8 * (x12.length : Int))))) = true then some ((⟨(⟨0, 0, []⟩ : api_Tree), [], 0, [], 0, false⟩ : api_Walk), [], 3) else (whileF (σ := List Int × Int) (ρ := api_Walk × List api_Message × Int) (fun s14 => if (decide (s14.2 < (x12.length : Int))) = true then (f_ref44_digest a1.Body s14.2).bind fun x22 => (idx a0.Tree.Levels a0.Level).bind fun x23 => (idx x12 s14.2).bind fun x24 => (idx x23 x24).bind fun x25 => ((if (!decide (x22 = x25)) = true then (idx x12 s14.2).bind fun x31 => (app 8 s14.1 [x31]).bind fun x32 => some (Fl.go x32) else some (Fl.go s14.1) : Option (Fl (List Int) (Rd (List Int × Int) (api_Walk × List api_Message × Int))))).bind fun o27 => o27.then fun s29 => some (Rd.next (s29, IntKind.i64.wrap (s14.2 + 1))) else some (Rd.done (s14.1, s14.2))) bigK ([], 0)).bind fun o16 => o16.then fun s14 => (if (decide (a0.Level = 0)) = true then some true else some (decide ((s14.1.length : Int) = 0))).bind fun c35 => if c35 = true then ((if (decide (a0.Level = 0)) = true then (f_ref11_Extents a0.Tree.Size a0.Tree.Leaf s14.1).bind fun x43 => some (Fl.go (⟨a0.Tree, [], 0, x43, IntKind.i64.wrap (a0.Sent + (x12.length : Int)), true⟩ : api_Walk)) else some (Fl.go (⟨a0.Tree, [], 0, [], IntKind.i64.wrap (a0.Sent + (x12.length : Int)), true⟩ : api_Walk)) : Option (Fl (api_Walk) (api_Walk × List api_Message × Int)))).bind fun o39 => o39.then fun s41 => some (s41, [], 0) else (whileF (σ := List Int × Int) (ρ := api_Walk × List api_Message × Int) (fun s44 => if (decide (s44.2 < (s14.1.length : Int))) = true then (idx s14.1 s44.2).bind fun x52 => (whileF (σ := List Int × Int) (ρ := Rd (List Int × Int) (api_Walk × List api_Message × Int)) (fun s53 => (idx s14.1 s44.2).bind fun x60 => (if (decide (s53.2 ≤ (IntKind.i64.wrap ((IntKind.i64.wrap (2 * x60)) + 1)))) = true then (idx a0.Tree.Levels (IntKind.i64.wrap (a0.Level - 1))).bind fun x63 => some (decide (s53.2 < (x63.length : Int))) else some false).bind fun c61 => if c61 = true then (app 8 s53.1 [s53.2]).bind fun x65 => some (Rd.next (x65, IntKind.i64.wrap (s53.2 + 1))) else some (Rd.done (s53.1, s53.2))) bigK (s44.1, IntKind.i64.wrap (2 * x52))).bind fun o55 => o55.then fun s53 => some (Rd.next (s53.1, IntKind.i64.wrap (s44.2 + 1))) else some (Rd.done (s44.1, s44.2))) bigK ([], 0)).bind fun o46 => o46.then fun s44 => (f_ref44_extents s44.1).bind fun x67 => (f_ref44_Request (⟨a0.Tree, x67, IntKind.i64.wrap (a0.Level - 1), [], IntKind.i64.wrap (a0.Sent + (x12.length : Int)), false⟩ : api_Walk)).bind fun x68 => some ((⟨a0.Tree, x67, IntKind.i64.wrap (a0.Level - 1), [], IntKind.i64.wrap (a0.Sent + (x12.length : Int)), false⟩ : api_Walk), [x68], 0)
end Go.Proofs.Ytogflgcngfghpaa
end
section
set_option maxHeartbeats 1000000
set_option linter.unusedVariables false
set_option linter.unusedSimpArgs false
namespace Go.Proofs.Ytogflgcngfghpaa
open Go.J
/-! ### Checks of walks -/
def levelS (w : api_Walk) : List Int := w.Tree.Levels.getD w.Level.toNat []
theorem orB (b c : Bool) : (if b = true then some true else some c) = some (b || c) := by cases b <;> rfl
theorem andB (b c : Bool) : (if b = true then some c else some false) = some (b && c) := by cases b <;> rfl
theorem dec_pos (n : Nat) : (decide ((0 : Int) < (n : Int))) = !decide ((n : Int) = 0) := by
  by_cases h : n = 0
  · subst h; rfl
  · have h1 : decide ((0 : Int) < (n : Int)) = true := by simp; omega
    have h2 : decide ((n : Int) = 0) = false := by simp; omega
    rw [h1, h2]; rfl
def rngS (w : api_Walk) : Bool := (((decide (w.Level < 0) || decide ((w.Tree.Levels.length : Int) ≤ w.Level)) || (w.Done && !decide (w.Level = 0))) || decide (w.Sent < 0)) || decide (8192 < w.Sent)
def formS (w : api_Walk) : Bool := if w.Done = true then decide ((w.Pending.length : Int) = 0) && decide (checkE w.Found w.Tree.Size = 0)
  else (!decide ((w.Pending.length : Int) = 0) && decide ((w.Found.length : Int) = 0)) && decide (checkE w.Pending ((levelS w).length : Int) = 0)
def wchkS (w : api_Walk) : Int := if checkS w.Tree = 0 then (if rngS w = true then 2 else if formS w = true then 0 else 3) else checkS w.Tree
theorem lv_of_rng {w : api_Walk} (h : rngS w = false) : 0 ≤ w.Level ∧ w.Level.toNat < w.Tree.Levels.length ∧ 0 ≤ w.Sent ∧ w.Sent ≤ 8192 ∧ (w.Done = true → w.Level = 0) := by
  unfold rngS at h
  simp only [Bool.or_eq_false_iff, decide_eq_false_iff_not] at h
  refine ⟨by omega, by omega, by omega, by omega, fun hd => ?_⟩
  have := h.1.1.2
  simpa [hd] using this
theorem idx_lv {w : api_Walk} (l1 : 0 ≤ w.Level) (l2 : w.Level.toNat < w.Tree.Levels.length) : idx w.Tree.Levels w.Level = some (levelS w) := idx_getD l1 l2 []
theorem wcheck_eq {w : api_Walk} (hL : w.Tree.Levels.length ≤ 1000000) (hp : ∀ e ∈ w.Pending, EI e) (hf : ∀ e ∈ w.Found, EI e) : f_compare_Check w = some (wchkS w) := by
  unfold f_compare_Check wchkS
  simp only [hcheck_eq hL, Option.bind_some, orB, andB, dec_pos]
  by_cases h1 : checkS w.Tree = 0
  · rw [if_neg (show ¬ ((!decide (checkS w.Tree = 0)) = true) by simp [h1]), if_pos h1]
    change (if rngS w = true then _ else _) = some (if rngS w = true then _ else _)
    cases hr : rngS w with
    | true => rfl
    | false =>
      obtain ⟨l1, l2, _⟩ := lv_of_rng hr
      simp only [Bool.false_eq_true, if_false, idx_lv l1 l2, Option.bind_some, echeck_eq hp, echeck_eq hf, andB, formS]
      rcases Bool.eq_false_or_eq_true w.Done with hd | hd
      · simp only [hd, if_true, Option.bind_some, Fl.then_go]
        cases (decide ((w.Pending.length : Int) = 0) && decide (checkE w.Found w.Tree.Size = 0)) <;> rfl
      · simp only [hd, Bool.false_eq_true, if_false, Option.bind_some, Fl.then_go]
        cases ((!decide ((w.Pending.length : Int) = 0) && decide ((w.Found.length : Int) = 0)) && decide (checkE w.Pending ((levelS w).length : Int) = 0)) <;> rfl
  · rw [if_pos (show ((!decide (checkS w.Tree = 0)) = true) by simp [h1]), if_neg h1]
theorem refWcheck_eq {w : api_Walk} (hL : w.Tree.Levels.length ≤ 1000000) (hp : ∀ e ∈ w.Pending, EI e) (hf : ∀ e ∈ w.Found, EI e) (hpl : w.Pending.length ≤ lim) (hfl : w.Found.length ≤ lim) : f_ref44_Check w = some (wchkS w) := by
  unfold f_ref44_Check wchkS
  simp only [rcheck_eq hL, Option.bind_some, orB, andB, dec_pos]
  by_cases h1 : checkS w.Tree = 0
  · rw [if_neg (show ¬ ((!decide (checkS w.Tree = 0)) = true) by simp [h1]), if_pos h1]
    change (if rngS w = true then _ else _) = some (if rngS w = true then _ else _)
    cases hr : rngS w with
    | true => rfl
    | false =>
      obtain ⟨l1, l2, _⟩ := lv_of_rng hr
      simp only [Bool.false_eq_true, if_false, idx_lv l1 l2, Option.bind_some, refEcheck_eq hp hpl, refEcheck_eq hf hfl, orB, formS]
      rcases Bool.eq_false_or_eq_true w.Done with hd | hd
      · simp only [hd, if_true]
        cases decide ((w.Pending.length : Int) = 0) <;> cases decide (checkE w.Found w.Tree.Size = 0) <;> rfl
      · simp only [hd, Bool.false_eq_true, if_false]
        cases decide ((w.Pending.length : Int) = 0) <;> cases decide ((w.Found.length : Int) = 0) <;> cases decide (checkE w.Pending ((levelS w).length : Int) = 0) <;> rfl
  · rw [if_pos (show ((!decide (checkS w.Tree = 0)) = true) by simp [h1]), if_neg h1]
/-! ### Copies and requests -/
theorem shp_all : ∀ {L : List (List Int)} {n : Nat}, shp L n = true → L.length ≤ n + 1 ∧ ∀ l ∈ L, l.length ≤ n
  | [], _, h => by simp [shp] at h
  | [l], n, h => by
    simp [shp] at h
    exact ⟨by simp, fun x hx => by simp at hx; subst hx; omega⟩
  | l :: m :: r, n, h => by
    simp [shp] at h
    obtain ⟨i1, i2⟩ := shp_all h.2
    have h3 : (n + 1) / 2 < n ∨ n = 0 := by omega
    refine ⟨?_, fun x hx => ?_⟩
    · simp only [List.length_cons] at i1 ⊢
      rcases h3 with h3 | h3
      · omega
      · subst h3
        have := i2 m (by simp)
        have hm : shp (m :: r) 0 = true := h.2
        exfalso
        have : ∀ (L : List (List Int)), shp L 0 = false := by
          intro L
          induction L with
          | nil => rfl
          | cons a L ih =>
            cases L with
            | nil => simp [shp]
            | cons b L => simp only [shp]; rw [show (0 + 1) / 2 = 0 from rfl, ih]; simp
        rw [this] at hm; cases hm
    · rcases List.mem_cons.1 hx with rfl | hx
      · omega
      · have := i2 x hx; omega
theorem good_levels {t : api_Tree} (h : checkS t = 0) : 1 ≤ t.Size ∧ t.Size ≤ 4096 ∧ 1 ≤ t.Leaf ∧ t.Leaf ≤ 4096 ∧ shp t.Levels (leavesS t.Size t.Leaf) = true ∧ t.Levels.length ≤ 4097 ∧ ∀ l ∈ t.Levels, l.length ≤ 4096 := by
  unfold checkS at h
  split at h
  · cases h
  · split at h
    · cases h
    · split at h
      · rename_i h1 h2 h3
        have hb := leaves_bd (sz := t.Size) (lf := t.Leaf) (by omega) (by omega) (by omega) (by omega)
        obtain ⟨a, b⟩ := shp_all h3
        exact ⟨by omega, by omega, by omega, by omega, h3, by omega, fun l hl => by have := b l hl; omega⟩
      · cases h
theorem copied_eq {t : api_Tree} (h : t.Levels.length ≤ 1000000) (h2 : ∀ l ∈ t.Levels, l.length ≤ 1000000) : f_compare_copied t = some t := by
  unfold f_compare_copied
  have hm : mkC 24 (t.Levels.length : Int) = some () := by unfold mkC; rw [if_pos ⟨by omega, by simp [lim]; omega, by simp [lim]; omega⟩]
  rw [hm]
  simp only [Option.bind_some]
  have := rangeF_inv (ρ := api_Tree) (b := fun i12 (x16 : List Int) (s5 : List (List Int)) => (f_slices_Clone_uint64_uint64 x16).bind fun x18 => (app 24 s5 [x18]).bind fun x19 => some (Rd.next x19)) id (l := t.Levels) (fun pre x suf hp => by
    have hx := h2 x (by rw [hp]; simp)
    have hpl : pre.length ≤ 1000000 := by rw [hp] at h; simp at h; omega
    simp only [id, f_slices_Clone_uint64_uint64]
    rw [app_ok (by simp [lim]; omega) (by simp [lim]; omega)]
    simp only [Option.bind_some, List.nil_append]
    rw [app_ok (by simp [lim]; omega) (by simp [lim]; omega)]
    rfl)
  simp only [id] at this
  rw [this]
  simp [Fl.then_go]
def valuesS (w : api_Walk) : List Int := [w.Tree.Size, w.Tree.Leaf] ++ w.Pending.flatMap fun e => [e.Start, e.Count]
def requestS (w : api_Walk) : api_Message := ⟨13, 0, 0, w.Level, 0, 0, valuesS w, []⟩
theorem values_len (w : api_Walk) : (valuesS w).length = 2 + 2 * w.Pending.length := by
  have : ∀ l : List api_Extent, (l.flatMap fun e => [e.Start, e.Count]).length = 2 * l.length := by
    intro l; induction l with
    | nil => rfl
    | cons e l ih => rw [List.flatMap_cons, List.length_append, ih]; simp; omega
  simp [valuesS, this]; omega
theorem request_eq {w : api_Walk} (h : w.Pending.length ≤ 1000000) : f_compare_walk_request ⟨w⟩ = some (requestS w) := by
  unfold f_compare_walk_request
  have fl : ∀ l : List api_Extent, (l.flatMap fun e => [e.Start, e.Count]).length = 2 * l.length := by
    intro l; induction l with
    | nil => rfl
    | cons e l ih => rw [List.flatMap_cons, List.length_append, ih]; simp; omega
  have := rangeF_inv (ρ := api_Message) (b := fun i10 (x14 : api_Extent) (s3 : List Int) => (app 8 s3 [x14.Start, x14.Count]).bind fun x17 => some (Rd.next x17)) (fun pre => [w.Tree.Size, w.Tree.Leaf] ++ pre.flatMap fun e => [e.Start, e.Count]) (l := w.Pending) (fun pre x suf hp => by
    have hpl : pre.length ≤ 1000000 := by rw [hp] at h; simp at h; omega
    have := fl pre
    rw [app_ok (by rw [List.length_append, this]; simp [lim]; omega) (by rw [List.length_append, this]; simp [lim]; omega)]
    simp)
  simp only [List.flatMap_nil, List.append_nil] at this
  rw [this]
  simp [Fl.then_go, requestS, valuesS]
theorem refRequest_eq {w : api_Walk} (h : w.Pending.length ≤ 1000000) : f_ref44_Request w = some (requestS w) := by
  unfold f_ref44_Request
  have fl : ∀ l : List api_Extent, (l.flatMap fun e => [e.Start, e.Count]).length = 2 * l.length := by
    intro l; induction l with
    | nil => rfl
    | cons e l ih => rw [List.flatMap_cons, List.length_append, ih]; simp; omega
  have h1 := rangeF_inv (ρ := api_Message) (b := fun i10 (x14 : api_Extent) (s3 : List Int) => (app 8 s3 [x14.Start, x14.Count]).bind fun x17 => some (Rd.next x17)) (fun pre => [w.Tree.Size, w.Tree.Leaf] ++ pre.flatMap fun e => [e.Start, e.Count]) (l := w.Pending) (fun pre x suf hp => by
    have hpl : pre.length ≤ 1000000 := by rw [hp] at h; simp at h; omega
    have := fl pre
    rw [app_ok (by rw [List.length_append, this]; simp [lim]; omega) (by rw [List.length_append, this]; simp [lim]; omega)]
    simp)
  have key := while_range (ρ := api_Message) (body := fun (s3 : List Int × Int) => if (decide (s3.2 < (w.Pending.length : Int))) = true then (idx w.Pending s3.2).bind fun x11 => (idx w.Pending s3.2).bind fun x12 => (app 8 s3.1 [x11.Start, x12.Count]).bind fun x13 => some (Rd.next (x13, IntKind.i64.wrap (s3.2 + 1))) else some (Rd.done (s3.1, s3.2)))
    (b := fun i10 (x14 : api_Extent) (s3 : List Int) => (app 8 s3 [x14.Start, x14.Count]).bind fun x17 => some (Rd.next x17)) (fun s i => (s, i)) (l := w.Pending) (by simp [lim]; omega) (fun pre x suf s hp => by
      have hpl : pre.length ≤ 1000000 := by rw [hp] at h; simp at h; omega
      simp only
      rw [if_pos (by rw [hp]; simp; omega), show idx w.Pending (pre.length : Int) = some x by rw [hp, idx_app], w64 (n := (pre.length : Int) + 1) (by omega) (by omega)]
      simp only [Option.bind_some]
      cases app 8 s [x.Start, x.Count] <;> simp [Rd.lift]) (fun i x s s' => by
      cases app 8 s [x.Start, x.Count] <;> simp) (fun s => by simp) [w.Tree.Size, w.Tree.Leaf]
  simp only [List.flatMap_nil, List.append_nil] at h1
  rw [h1] at key
  rw [key]
  simp [Fl.lift, Fl.then_go, requestS, valuesS]
theorem sameInts_eq {a b : List Int} (hl : a.length ≤ lim) : f_ref15_SameInts a b = some (decide (a = b)) := by
  obtain ⟨r, h1, h2⟩ := equal_while (a := a) (b := b) (fun x y => decide (x = y)) (by simp) hl
  have h1 : f_ref15_SameInts a b = some r := h1
  rw [h1]; congr 1; rw [Bool.eq_iff_iff, h2]; simp
theorem eqInt {a b : List Int} (hl : a.length ≤ lim) : f_slices_Equal_int_int a b = some (decide (a = b)) := by
  obtain ⟨r, h1, h2⟩ := equal_model (a := a) (b := b) (fun x y => decide (x = y)) (by simp) hl
  have h1 : f_slices_Equal_int_int a b = some r := h1
  rw [h1]; congr 1; rw [Bool.eq_iff_iff, h2]; simp
theorem eqByte {a b : List Int} (hl : a.length ≤ lim) : f_slices_Equal_byte_byte a b = some (decide (a = b)) := by
  obtain ⟨r, h1, h2⟩ := equal_model (a := a) (b := b) (fun x y => decide (x = y)) (by simp) hl
  have h1 : f_slices_Equal_byte_byte a b = some r := h1
  rw [h1]; congr 1; rw [Bool.eq_iff_iff, h2]; simp
/-! ### Digests out of bytes -/
def U8 (n : Int) : Prop := 0 ≤ n ∧ n < 256
def U64 (n : Int) : Prop := 0 ≤ n ∧ n < 18446744073709551616
def asmH : List Int → Int
  | [] => 0
  | b :: r => b + 256 * asmH r
theorem asm_inj : ∀ {a b : List Int}, a.length = b.length → (∀ x ∈ a, U8 x) → (∀ x ∈ b, U8 x) → asmH a = asmH b → a = b
  | [], [], _, _, _, _ => rfl
  | x :: a, y :: b, hl, ha, hb, h => by
    have h1 := ha x (by simp)
    have h2 := hb y (by simp)
    simp only [asmH] at h
    unfold U8 at h1 h2
    have e1 : x = y := by omega
    have e2 : asmH a = asmH b := by omega
    rw [e1, asm_inj (by simpa using hl) (fun z hz => ha z (by simp [hz])) (fun z hz => hb z (by simp [hz])) e2]
theorem w8 (n : Int) : IntKind.u8.wrap n = n % 256 := by simp [IntKind.wrap, IntKind.bits, IntKind.signed]
theorem wu64 {n : Int} (h : U64 n) : IntKind.u64.wrap n = n := by
  unfold U64 at h
  simp only [IntKind.wrap, IntKind.bits, IntKind.signed]
  simp
  omega
theorem bytes_U8 (d : Int) : ∀ x ∈ bytesS d, U8 x := fun x hx => by
  simp only [bytesS, List.mem_map] at hx
  obtain ⟨i, _, rfl⟩ := hx
  unfold byteS U8
  rw [w8]; omega
theorem bytes_asm {d : Int} (h : U64 d) : asmH (bytesS d) = d := by
  unfold U64 at h
  have e : bytesS d = [d % 256, d / 256 % 256, d / 65536 % 256, d / 16777216 % 256, d / 4294967296 % 256, d / 1099511627776 % 256, d / 281474976710656 % 256, d / 72057594037927936 % 256] := by
    have hf : ∀ n : Int, 0 ≤ n → d.fdiv n = d / n := fun n hn => Int.fdiv_eq_ediv_of_nonneg d hn
    simp only [bytesS, byteS, w8, List.range_succ, List.range_zero, List.nil_append, List.cons_append, List.map_cons, List.map_nil]
    rw [hf _ (by decide), hf _ (by decide), hf _ (by decide), hf _ (by decide), hf _ (by decide), hf _ (by decide), hf _ (by decide), hf _ (by decide)]
    simp
  rw [e]
  simp only [asmH]
  omega
theorem asm_take : ∀ (l : List Int) (k : Nat) (h : k < l.length), asmH (l.take (k + 1)) = asmH (l.take k) + l[k] * 256 ^ k
  | x :: l, 0, h => by simp [asmH]
  | x :: l, k + 1, h => by
    have := asm_take l k (by simpa using h)
    simp only [List.take_succ_cons, asmH, List.getElem_cons_succ, this]
    have e : l[k]'(by simpa using h) * 256 ^ (k + 1) = 256 * (l[k]'(by simpa using h) * 256 ^ k) := by
      rw [Int.pow_succ, ← Int.mul_assoc, Int.mul_comm]
    rw [e]; omega
theorem asm_bd : ∀ {l : List Int}, (∀ x ∈ l, U8 x) → 0 ≤ asmH l ∧ asmH l < 256 ^ l.length
  | [], _ => by simp [asmH]
  | x :: l, h => by
    have h1 := h x (by simp)
    have := asm_bd (fun y hy => h y (List.mem_cons_of_mem x hy))
    simp only [asmH, List.length_cons, Int.pow_succ]
    unfold U8 at h1
    omega
theorem refDig_eq {body : List Int} {i : Nat} (hb : ∀ x ∈ body, U8 x) (hl : 8 * i + 8 ≤ body.length) (hbl : body.length ≤ 1000000) : f_ref44_digest body (i : Int) = some (asmH ((body.drop (8 * i)).take 8)) := by
  unfold f_ref44_digest
  let bs := (body.drop (8 * i)).take 8
  have hbs : bs.length = 8 := by simp [bs]; omega
  have hbu : ∀ x ∈ bs, U8 x := fun x hx => hb x (List.mem_of_mem_drop (List.mem_of_mem_take hx))
  have := while_go (ρ := Int) (body := fun (s1 : Int × Int) => if (decide (s1.2 < 8)) = true then (idx body (IntKind.i64.wrap ((IntKind.i64.wrap (8 * (i : Int))) + s1.2))).bind fun x9 => (shlI .u64 (IntKind.u64.wrap x9) (IntKind.i64.wrap (8 * s1.2))).bind fun x10 => some (Rd.next (IntKind.u64.wrap (s1.1 + x10), IntKind.i64.wrap (s1.2 + 1))) else some (Rd.done (s1.1, s1.2)))
    (fun k => (asmH (bs.take k), (k : Int))) 8 (K := bigK) (by decide) (fun k hk => by
      simp only
      have hk' : k < bs.length := by omega
      rw [if_pos (by simp only [decide_eq_true_eq]; omega), w64 (n := 8 * (i : Int)) (by omega) (by omega), w64 (n := 8 * (i : Int) + (k : Int)) (by omega) (by omega)]
      rw [show 8 * (i : Int) + (k : Int) = ((8 * i + k : Nat) : Int) by omega, idx_get (by omega : 8 * i + k < body.length)]
      simp only [Option.bind_some]
      have ex : body[8 * i + k]'(by omega) = bs[k] := by simp [bs]
      rw [ex]
      have hx := hbu bs[k] (List.getElem_mem _)
      have hx2 := hx
      unfold U8 at hx2
      rw [wu64 (show U64 bs[k] from ⟨hx2.1, by omega⟩), w64 (n := 8 * (k : Int)) (by omega) (by omega)]
      have ht := asm_take bs k hk'
      have hbd := asm_bd (l := bs.take (k + 1)) (fun x hx => hbu x (List.mem_of_mem_take hx))
      have hbd0 := asm_bd (l := bs.take k) (fun x hx => hbu x (List.mem_of_mem_take hx))
      rw [List.length_take, Nat.min_eq_left (by omega)] at hbd hbd0
      have hsh : shlI .u64 bs[k] (8 * (k : Int)) = some (bs[k] * 256 ^ k) := by
        unfold shlI
        rw [if_pos (by omega)]
        have e1 : min (8 * (k : Int)).toNat IntKind.u64.bits = 8 * k := by
          have e : IntKind.u64.bits = 64 := rfl
          rw [e]; omega
        rw [e1, Int.pow_mul, show ((2 : Int) ^ 8) = 256 from rfl]
        congr 1
        refine wu64 ⟨Int.mul_nonneg hx2.1 (Int.pow_nonneg (by decide)), ?_⟩
        have h3 : bs[k] * 256 ^ k < 256 ^ (k + 1) := by omega
        have h4 : (256 : Int) ^ (k + 1) ≤ 18446744073709551616 := by
          match k, hk with
          | 0, _ => decide
          | 1, _ => decide
          | 2, _ => decide
          | 3, _ => decide
          | 4, _ => decide
          | 5, _ => decide
          | 6, _ => decide
          | 7, _ => decide
        omega
      rw [hsh]
      simp only [Option.bind_some]
      have h4 : (256 : Int) ^ (k + 1) ≤ 18446744073709551616 := by
        match k, hk with
        | 0, _ => decide
        | 1, _ => decide
        | 2, _ => decide
        | 3, _ => decide
        | 4, _ => decide
        | 5, _ => decide
        | 6, _ => decide
        | 7, _ => decide
      rw [← ht, wu64 ⟨hbd.1, by omega⟩, w64 (n := (k : Int) + 1) (by omega) (by omega)]
      simp) (s' := (asmH bs, 8)) (by
      simp only
      rw [if_neg (by simp)]
      rw [List.take_of_length_le (by omega)]
      rfl)
  simp only [List.take_zero] at this
  rw [show ((0 : Nat) : Int) = 0 from rfl, show asmH [] = 0 from rfl] at this
  rw [this]
  simp [Fl.then_go, bs]
/-! ### The nodes that differ -/
def diffAt (nodes body level : List Int) (i : Nat) : List Int := if (body.drop (8 * i)).take 8 = bytesS (level.getD (nodes.getD i 0).toNat 0) then [] else [nodes.getD i 0]
def differS (nodes body level : List Int) : List Int := (List.range nodes.length).flatMap (diffAt nodes body level)
theorem diffR_len (nodes body level : List Int) (k : Nat) : ((List.range k).flatMap (diffAt nodes body level)).length ≤ k := by
  induction k with
  | zero => simp
  | succ k ih =>
    rw [List.range_succ, List.flatMap_append, List.length_append]
    have : (diffAt nodes body level k).length ≤ 1 := by unfold diffAt; split <;> simp
    simp only [List.flatMap_cons, List.flatMap_nil, List.append_nil]
    omega
theorem differing_eq {w : api_Walk} {body : List Int} (hlv : 0 ≤ w.Level ∧ w.Level.toNat < w.Tree.Levels.length) (hin : Inside w.Pending) (hn : ∀ n ∈ nodesS w.Pending, 0 ≤ n ∧ n.toNat < (levelS w).length) (hb : body.length = 8 * (nodesS w.Pending).length) (hnl : (nodesS w.Pending).length ≤ 100000) (hs : 0 ≤ w.Sent ∧ w.Sent ≤ 100000) :
    f_compare_walk_differing ⟨w⟩ body = some (differS (nodesS w.Pending) body (levelS w), ⟨{ w with Sent := w.Sent + ((nodesS w.Pending).length : Int) }⟩) := by
  unfold f_compare_walk_differing
  rw [numbers_eq hin]
  simp only [Option.bind_some]
  generalize hnd : nodesS w.Pending = nodes at *
  have := eachN_inv (b := fun (x6 : Int) (s4 : compare_walk × List Int × List Int) => (slc s4.2.1 0 8).bind fun x11 => (f_compare_walk_nodes s4.1).bind fun x12 => (idx x12 x6).bind fun x13 => (f_compare_put x13).bind fun x14 => (f_slices_Equal_byte_byte x11 x14).bind fun x15 => ((if (!x15) = true then (app 8 s4.2.2 [x6]).bind fun x21 => some (Fl.go x21) else some (Fl.go s4.2.2) : Option (Fl (List Int) (Rd (compare_walk × List Int × List Int) Empty)))).bind fun o17 => o17.then fun s19 => (slc s4.2.1 8 (s4.2.1.length : Int)).bind fun x23 => some (Rd.next ((⟨(⟨s4.1.Walk.Tree, s4.1.Walk.Pending, s4.1.Walk.Level, s4.1.Walk.Found, IntKind.i64.wrap (s4.1.Walk.Sent + 1), s4.1.Walk.Done⟩ : api_Walk)⟩ : compare_walk), x23, s19)))
    (fun pre => ((⟨{ w with Sent := w.Sent + (pre.length : Int) }⟩ : compare_walk), body.drop (8 * pre.length), (List.range pre.length).flatMap (diffAt nodes body (levelS w)))) (l := nodes) (fun pre x suf hp => by
      have hx := hn x (by rw [hp]; simp)
      have hpl : pre.length < nodes.length := by rw [hp]; simp
      have hdl : (body.drop (8 * pre.length)).length = body.length - 8 * pre.length := by simp
      simp only
      have s1 := slc_ok (l := body.drop (8 * pre.length)) (lo := 0) (hi := 8) (by omega) (by omega)
      rw [List.drop_zero, show (8 : Nat) - 0 = 8 from rfl] at s1
      rw [show slc (body.drop (8 * pre.length)) 0 8 = _ from s1]
      have s2 := slc_ok (l := body.drop (8 * pre.length)) (lo := 8) (hi := (body.drop (8 * pre.length)).length) (by omega) (Nat.le_refl _)
      rw [List.take_of_length_le (by simp only [List.length_drop]; omega), List.drop_drop] at s2
      rw [show slc (body.drop (8 * pre.length)) 8 ((body.drop (8 * pre.length)).length : Int) = _ from s2]
      have hwn : f_compare_walk_nodes (⟨{ w with Sent := w.Sent + (pre.length : Int) }⟩ : compare_walk) = some (levelS w) := by
        unfold f_compare_walk_nodes
        simp only
        rw [idx_getD hlv.1 hlv.2 []]; rfl
      rw [hwn]
      simp only [Option.bind_some]
      rw [idx_getD hx.1 hx.2 0]
      simp only [Option.bind_some, put_eq]
      rw [eqByte (by simp [lim]; omega)]
      simp only [Option.bind_some]
      have hxe : nodes.getD pre.length 0 = x := by rw [hp]; simp [List.getD_eq_getElem?_getD]
      have hdr := diffR_len nodes body (levelS w) pre.length
      have hd : diffAt nodes body (levelS w) pre.length = if (body.drop (8 * pre.length)).take 8 = bytesS ((levelS w).getD x.toNat 0) then [] else [x] := by unfold diffAt; rw [hxe]
      have er : (List.range (pre ++ [x]).length).flatMap (diffAt nodes body (levelS w)) = (List.range pre.length).flatMap (diffAt nodes body (levelS w)) ++ (if (body.drop (8 * pre.length)).take 8 = bytesS ((levelS w).getD x.toNat 0) then [] else [x]) := by
        rw [List.length_append, List.length_singleton, List.range_succ, List.flatMap_append]
        simp [hd]
      rw [er, w64 (n := w.Sent + (pre.length : Int) + 1) (by omega) (by omega)]
      have e3 : w.Sent + (pre.length : Int) + 1 = w.Sent + ((pre ++ [x]).length : Int) := by simp; omega
      have e4 : 8 * pre.length + 8 = 8 * (pre ++ [x]).length := by simp; omega
      rw [e3, e4]
      by_cases heq : (body.drop (8 * pre.length)).take 8 = bytesS ((levelS w).getD x.toNat 0)
      · simp only [heq, decide_true, Bool.not_true, Bool.false_eq_true, if_false, Option.bind_some, Fl.then_go, if_true, List.append_nil]
      · have e5 : (!decide ((body.drop (8 * pre.length)).take 8 = bytesS ((levelS w).getD x.toNat 0))) = true := by simpa using heq
        rw [if_pos e5, if_neg heq, app_ok (by simp only [List.length_singleton, lim]; omega) (by simp only [List.length_singleton, lim]; omega)]
        simp only [Option.bind_some, Fl.then_go])
  simp only [List.length_nil, List.range_zero, List.flatMap_nil, Nat.mul_zero, List.drop_zero] at this
  rw [show ((⟨{ w with Sent := w.Sent + ((0 : Nat) : Int) }⟩ : compare_walk)) = ⟨w⟩ by simp] at this
  rw [this]
  rfl
end Go.Proofs.Ytogflgcngfghpaa
end
section
set_option maxHeartbeats 1000000
set_option linter.unusedVariables false
set_option linter.unusedSimpArgs false
namespace Go.Proofs.Ytogflgcngfghpaa
open Go.J
def addX (l : List api_Extent) (s c : Int) : List api_Extent :=
  match l.getLast? with
  | none => [⟨s, c⟩]
  | some e => if e.Start + e.Count = s then l.dropLast ++ [⟨e.Start, e.Count + c⟩] else l ++ [⟨s, c⟩]
def joins (l : List api_Extent) (s : Int) : Bool :=
  match l.getLast? with
  | none => false
  | some e => decide (e.Start + e.Count = s)
theorem addX_nil (s c : Int) : addX [] s c = [⟨s, c⟩] := rfl
theorem addX_snoc (l : List api_Extent) (e : api_Extent) (s c : Int) : addX (l ++ [e]) s c = if e.Start + e.Count = s then l ++ [⟨e.Start, e.Count + c⟩] else l ++ [e] ++ [⟨s, c⟩] := by
  unfold addX; simp
theorem joins_snoc (l : List api_Extent) (e : api_Extent) (s : Int) : joins (l ++ [e]) s = decide (e.Start + e.Count = s) := by
  unfold joins; simp
theorem idx_last {p : List api_Extent} {e : api_Extent} (hl : p.length ≤ 1000000) : IntKind.i64.wrap (((p ++ [e]).length : Int) - 1) = (p.length : Int) ∧ idx (p ++ [e]) (p.length : Int) = some e := by
  refine ⟨?_, idx_app p e []⟩
  rw [w64 (by simp <;> omega) (by simp <;> omega)]; simp
theorem addC {l : List api_Extent} {s : Int} (hin : Inside l) (hl : l.length ≤ 1000000) :
    (if (decide (0 < (l.length : Int))) = true then (idx l (IntKind.i64.wrap ((l.length : Int) - 1))).bind fun x1 => (idx l (IntKind.i64.wrap ((l.length : Int) - 1))).bind fun x2 => some (decide ((IntKind.i64.wrap (x1.Start + x2.Count)) = s)) else some false) = some (joins l s) := by
  rcases nil_or_snoc l with rfl | ⟨p, e, rfl⟩
  · rfl
  · have he := hin e (by simp)
    obtain ⟨h1, h2⟩ := idx_last (p := p) (e := e) (by simp at hl; omega)
    rw [if_pos (by simp <;> omega), h1, h2]
    simp only [Option.bind_some]
    rw [w64 (by omega) (by omega), joins_snoc]
theorem addB {β : Type} (F : List api_Extent → Option β) {l : List api_Extent} {s c : Int} (hin : Inside l) (hl : l.length ≤ 1000000) (hc : 0 < c ∧ c ≤ 4096) :
    (if joins l s = true then (idx l (IntKind.i64.wrap ((l.length : Int) - 1))).bind fun x5 => (idx l (IntKind.i64.wrap ((l.length : Int) - 1))).bind fun x6 => F (setI l (IntKind.i64.wrap ((l.length : Int) - 1)) (⟨x6.Start, IntKind.i64.wrap (x5.Count + c)⟩ : api_Extent)) else (app 16 l [(⟨s, c⟩ : api_Extent)]).bind fun x7 => F x7) = F (addX l s c) := by
  rcases nil_or_snoc l with rfl | ⟨p, e, rfl⟩
  · rw [if_neg (by simp [joins]), app_ok (by simp [lim]) (by simp [lim])]; rfl
  · have he := hin e (by simp)
    obtain ⟨h1, h2⟩ := idx_last (p := p) (e := e) (by simp at hl; omega)
    rw [joins_snoc, addX_snoc]
    by_cases hs : e.Start + e.Count = s
    · rw [if_pos (by simpa using hs), if_pos hs, h1, h2]
      simp only [Option.bind_some]
      rw [w64 (by omega) (by omega)]
      congr 1
      simp [setI]
    · rw [if_neg (by simpa using hs), if_neg hs, app_ok (by simp [lim] at hl ⊢; omega) (by simp [lim] at hl ⊢; omega)]; rfl
def foldX (l : List (Int × Int)) : List api_Extent := l.foldl (fun R p => addX R p.1 p.2) []
theorem foldX_snoc (l : List (Int × Int)) (p : Int × Int) : foldX (l ++ [p]) = addX (foldX l) p.1 p.2 := by simp [foldX]
def Chain (l : List (Int × Int)) : Prop := (∀ p ∈ l, 0 ≤ p.1 ∧ 0 < p.2 ∧ p.1 + p.2 ≤ 4096) ∧ l.Pairwise fun p q => p.1 + p.2 ≤ q.1
theorem Chain.sub {l m : List (Int × Int)} (h : Chain l) (hs : m.Sublist l) : Chain m := ⟨fun p hp => h.1 p (hs.subset hp), h.2.sublist hs⟩
theorem cov_snoc (l : List api_Extent) (e : api_Extent) (x : Int) : Cov (l ++ [e]) x ↔ Cov l x ∨ (0 < e.Count ∧ e.Start ≤ x ∧ x < e.Start + e.Count) := by
  simp only [Cov, List.mem_append, List.mem_singleton]
  constructor
  · rintro ⟨f, hf | rfl, h⟩
    · exact .inl ⟨f, hf, h⟩
    · exact .inr h
  · rintro (⟨f, hf, h⟩ | h)
    · exact ⟨f, .inl hf, h⟩
    · exact ⟨e, .inr rfl, h⟩
theorem sep_snoc {l : List api_Extent} {e : api_Extent} (h : Sep l) (he : 0 < e.Count ∧ 0 ≤ e.Start ∧ e.Start + e.Count ≤ 4096) (hb : ∀ f ∈ l, f.Start + f.Count < e.Start) : Sep (l ++ [e]) := by
  refine ⟨fun f hf => ?_, List.pairwise_append.2 ⟨h.2, by simp, fun f hf g hg => ?_⟩⟩
  · rcases List.mem_append.1 hf with hf | hf
    · exact h.1 f hf
    · simp at hf; subst hf; exact he
  · simp at hg; subst hg; exact hb f hf
theorem sep_init {l : List api_Extent} {e : api_Extent} (h : Sep (l ++ [e])) : Sep l ∧ (∀ f ∈ l, f.Start + f.Count < e.Start) ∧ (0 < e.Count ∧ 0 ≤ e.Start ∧ e.Start + e.Count ≤ 4096) := by
  obtain ⟨a, b, c⟩ := List.pairwise_append.1 h.2
  exact ⟨⟨fun f hf => h.1 f (by simp [hf]), a⟩, fun f hf => c f hf e (by simp), h.1 e (by simp)⟩
theorem addX_inv {l : List api_Extent} {s c : Int} (h : Sep l) (hb : ∀ e ∈ l, e.Start + e.Count ≤ s) (h0 : 0 ≤ s) (hc : 0 < c) (he : s + c ≤ 4096) :
    Sep (addX l s c) ∧ (∀ e ∈ addX l s c, e.Start + e.Count ≤ s + c) ∧ (∀ x, Cov (addX l s c) x ↔ Cov l x ∨ (s ≤ x ∧ x < s + c)) := by
  rcases nil_or_snoc l with rfl | ⟨p, e, rfl⟩
  · rw [addX_nil]
    refine ⟨⟨fun e h => ?_, by simp⟩, fun e h => ?_, fun x => ?_⟩
    · simp at h; subst h; exact ⟨hc, h0, he⟩
    · simp at h; subst h; simp
    · simp [Cov, hc]
  · obtain ⟨g1, g2, g3⟩ := sep_init h
    have he2 := hb e (by simp)
    rw [addX_snoc]
    by_cases hs : e.Start + e.Count = s
    · rw [if_pos hs]
      refine ⟨sep_snoc g1 ⟨by simp only; omega, by simp only; omega, by simp only; omega⟩ g2, fun f hf => ?_, fun x => ?_⟩
      · rcases List.mem_append.1 hf with hf | hf
        · have := g2 f hf; omega
        · simp at hf; subst hf; simp only; omega
      · rw [cov_snoc, cov_snoc, or_assoc]
        simp only
        constructor
        · rintro (h | h)
          · exact .inl h
          · right; omega
        · rintro (h | h | h)
          · exact .inl h
          · right; omega
          · right; omega
    · rw [if_neg hs]
      refine ⟨sep_snoc h ⟨hc, h0, he⟩ (fun f hf => ?_), fun f hf => ?_, fun x => ?_⟩
      · rcases List.mem_append.1 hf with hf | hf
        · have := g2 f hf; simp only; omega
        · simp at hf; subst hf; simp only; omega
      · rcases List.mem_append.1 hf with hf | hf
        · have := hb f hf; omega
        · simp at hf; subst hf; simp only; omega
      · rw [cov_snoc (p ++ [e])]
        simp only [hc, true_and]
theorem foldX_inv (L : List (Int × Int)) : ∀ (n : Nat) (l : List (Int × Int)), l.length = n → Chain l → Sep (foldX l) ∧ (∀ x, Cov (foldX l) x ↔ ∃ p ∈ l, p.1 ≤ x ∧ x < p.1 + p.2) ∧ ∀ q : Int, (∀ p ∈ l, p.1 + p.2 ≤ q) → ∀ e ∈ foldX l, e.Start + e.Count ≤ q
  | 0, l, hn, h => by
    obtain rfl : l = [] := List.length_eq_zero_iff.1 hn
    exact ⟨⟨fun e he => by simp [foldX] at he, by simp [foldX]⟩, fun x => by simp [foldX, Cov], fun q hq e he => by simp [foldX] at he⟩
  | n + 1, l, hn, h => by
    rcases nil_or_snoc l with rfl | ⟨m, p, rfl⟩
    · simp at hn
    · obtain ⟨i1, i2, i3⟩ := foldX_inv L n m (by simpa using hn) (h.sub (List.sublist_append_left _ _))
      have hp := h.1 p (by simp)
      have hb := (List.pairwise_append.1 h.2).2.2
      rw [foldX_snoc]
      obtain ⟨a1, a2, a3⟩ := addX_inv i1 (i3 p.1 fun q hq => hb q hq p (by simp)) hp.1 hp.2.1 hp.2.2
      refine ⟨a1, fun x => ?_, fun q hq e he => ?_⟩
      · rw [a3, i2]
        simp only [List.mem_append, List.mem_singleton]
        constructor
        · rintro (⟨r, hr, h⟩ | h)
          · exact ⟨r, .inl hr, h⟩
          · exact ⟨p, .inr rfl, h⟩
        · rintro ⟨r, hr | rfl, h'⟩
          · exact .inl ⟨r, hr, h'⟩
          · exact .inr h'
      · have := a2 e he
        have := hq p (by simp)
        omega
theorem foldX_sep {l : List (Int × Int)} (h : Chain l) : Sep (foldX l) := (foldX_inv [] _ l rfl h).1
theorem foldX_cov {l : List (Int × Int)} (h : Chain l) (x : Int) : Cov (foldX l) x ↔ ∃ p ∈ l, p.1 ≤ x ∧ x < p.1 + p.2 := (foldX_inv [] _ l rfl h).2.1 x
theorem sep_short {l : List api_Extent} (h : Sep l) : l.length ≤ 4096 := by
  have := sep_len (lo := 0) h (fun e he => (h.1 e he).2.1) (by omega) (by omega)
  omega
end Go.Proofs.Ytogflgcngfghpaa
end
section
set_option maxHeartbeats 1000000
set_option linter.unusedVariables false
set_option linter.unusedSimpArgs false
namespace Go.Proofs.Ytogflgcngfghpaa
open Go.J
/-! ### Rising nodes -/
def Rising (l : List Int) : Prop := l.Pairwise (· < ·)
theorem nodes_ge {l : List api_Extent} {lo : Int} (h : ∀ e ∈ l, lo ≤ e.Start) : ∀ n ∈ nodesS l, lo ≤ n := fun n hn => by
  obtain ⟨e, he, hn⟩ := List.mem_flatMap.1 hn
  obtain ⟨k, hk, rfl⟩ := List.mem_map.1 hn
  have := h e he; omega
theorem nodes_rising : ∀ {l : List api_Extent}, Sep l → Rising (nodesS l)
  | [], _ => by simp [nodesS, Rising]
  | e :: l, h => by
    have hi := nodes_rising h.tail
    have hb := (List.pairwise_cons.1 h.2).1
    rw [show nodesS (e :: l) = nodesE e ++ nodesS l by simp [nodesS]]
    refine List.pairwise_append.2 ⟨?_, hi, fun a ha b hb' => ?_⟩
    · unfold nodesE
      refine List.pairwise_map.2 (List.Pairwise.imp (fun {a b} hab => ?_) (List.pairwise_lt_range))
      omega
    · obtain ⟨k, hk, rfl⟩ := List.mem_map.1 ha
      have hk := List.mem_range.1 hk
      have := nodes_ge (lo := e.Start + e.Count + 1) (fun f hf => by have := hb f hf; omega) b hb'
      have := h.1 e (by simp)
      omega
theorem rising_len : ∀ {l : List Int} {lo hi : Int}, Rising l → (∀ n ∈ l, lo ≤ n ∧ n < hi) → lo ≤ hi → (l.length : Int) ≤ hi - lo
  | [], lo, hi, _, _, h => by simp; omega
  | n :: l, lo, hi, h, hb, hl => by
    have hn := hb n (by simp)
    have := rising_len (l := l) (lo := n + 1) (hi := hi) (List.pairwise_cons.1 h).2 (fun m hm => by
      have := (List.pairwise_cons.1 h).1 m hm
      have := hb m (by simp [hm]); omega) (by omega)
    simp only [List.length_cons]; omega
theorem sep_nodes {l : List api_Extent} (h : Sep l) : (nodesS l).length ≤ 4096 := by
  have := rising_len (lo := 0) (hi := 4096) (nodes_rising h) (fun n hn => by
    obtain ⟨e, he, hn⟩ := List.mem_flatMap.1 hn
    obtain ⟨k, hk, rfl⟩ := List.mem_map.1 hn
    have hk := List.mem_range.1 hk
    have := h.1 e he; omega) (by omega)
  omega
theorem differ_sub (nodes body level : List Int) : (differS nodes body level).Sublist nodes := by
  have key : ∀ k, k ≤ nodes.length → ((List.range k).flatMap (diffAt nodes body level)).Sublist (nodes.take k) := by
    intro k
    induction k with
    | zero => intro _; simp
    | succ k ih =>
      intro hk
      rw [List.range_succ, List.flatMap_append, List.take_succ_eq_append_getElem (by omega)]
      refine List.Sublist.append (ih (by omega)) ?_
      simp only [List.flatMap_cons, List.flatMap_nil, List.append_nil]
      unfold diffAt
      split
      · simp
      · rw [List.getD_eq_getElem?_getD, List.getElem?_eq_getElem (by omega)]; simp
  have := key nodes.length (Nat.le_refl _)
  rw [List.take_length] at this
  exact this
theorem one_chain {l : List Int} (h : Rising l) (hb : ∀ n ∈ l, 0 ≤ n ∧ n < 4096) : Chain (l.map fun n => (n, 1)) := by
  refine ⟨fun p hp => ?_, List.pairwise_map.2 (List.Pairwise.imp (fun {a b} hab => ?_) h)⟩
  · obtain ⟨n, hn, rfl⟩ := List.mem_map.1 hp
    have := hb n hn
    simp only; omega
  · simp only; omega
def secs (size leaf : Int) (l : List Int) : List (Int × Int) := l.map fun n => (n * leaf, min leaf (size - n * leaf))
theorem secs_chain {size leaf : Int} {l : List Int} (h : Rising l) (h0 : 1 ≤ leaf) (hs : size ≤ 4096) (hb : ∀ n ∈ l, 0 ≤ n ∧ n * leaf < size) : Chain (secs size leaf l) := by
  refine ⟨fun p hp => ?_, List.pairwise_map.2 (List.Pairwise.imp_of_mem (fun {a b} ha hb' hab => ?_) h)⟩
  · obtain ⟨n, hn, rfl⟩ := List.mem_map.1 hp
    have h1 := hb n hn
    have h2 : 0 ≤ n * leaf := Int.mul_nonneg h1.1 (by omega)
    simp only; omega
  · have h1 : (a + 1) * leaf ≤ b * leaf := Int.mul_le_mul_of_nonneg_right (by omega) (by omega)
    rw [Int.add_mul, Int.one_mul] at h1
    simp only; omega
def belowS (len : Nat) (l : List Int) : List Int := l.flatMap fun n => [2 * n, 2 * n + 1].filter fun x => decide (x < (len : Int))
theorem below_mem {len : Nat} {l : List Int} {x : Int} : x ∈ belowS len l ↔ x < len ∧ ∃ n ∈ l, x = 2 * n ∨ x = 2 * n + 1 := by
  unfold belowS
  simp only [List.mem_flatMap, List.mem_filter, List.mem_cons, List.not_mem_nil, or_false, decide_eq_true_eq]
  constructor
  · rintro ⟨n, hn, h1, h2⟩; exact ⟨h2, n, hn, h1⟩
  · rintro ⟨h2, n, hn, h1⟩; exact ⟨n, hn, h1, h2⟩
theorem below_rising {len : Nat} {l : List Int} (h : Rising l) : Rising (belowS len l) := by
  unfold belowS Rising
  rw [List.pairwise_flatMap]
  refine ⟨fun n hn => List.Pairwise.filter _ (by simp; omega), List.Pairwise.imp (fun {a b} hab => ?_) h⟩
  intro x hx y hy
  simp only [List.mem_filter, List.mem_cons, List.not_mem_nil, or_false, decide_eq_true_eq] at hx hy
  omega
/-! ### What is found -/
theorem find_eq {w : api_Walk} {d : List Int} (hd : Rising d) (h0 : 1 ≤ w.Tree.Leaf) (h4 : w.Tree.Leaf ≤ 4096) (hs : w.Tree.Size ≤ 4096) (hb : ∀ n ∈ d, 0 ≤ n ∧ n * w.Tree.Leaf < w.Tree.Size) (hd2 : d.length ≤ 100000) :
    f_compare_walk_find ⟨w⟩ d = some ⟨{ w with Pending := [], Level := 0, Found := foldX (secs w.Tree.Size w.Tree.Leaf d), Done := true }⟩ := by
  unfold f_compare_walk_find
  have hch := secs_chain hd h0 hs hb
  have := rangeF_inv (ρ := compare_walk) (b := fun i8 (x12 : Int) (s1 : List api_Extent) => (app 16 s1 [(⟨IntKind.i64.wrap (x12 * w.Tree.Leaf), min w.Tree.Leaf (IntKind.i64.wrap (w.Tree.Size - (IntKind.i64.wrap (x12 * w.Tree.Leaf))))⟩ : api_Extent)]).bind fun x14 => some (Rd.next x14)) (fun pre => (secs w.Tree.Size w.Tree.Leaf pre).map fun p => (⟨p.1, p.2⟩ : api_Extent)) (l := d) (fun pre x suf hp => by
    have hx := hb x (by rw [hp]; simp)
    have hm : 0 ≤ x * w.Tree.Leaf := Int.mul_nonneg hx.1 (by omega)
    have hpl : pre.length ≤ 100000 := by rw [hp] at hd2; simp at hd2; omega
    rw [w64 (n := x * w.Tree.Leaf) (by omega) (by omega), w64 (n := w.Tree.Size - x * w.Tree.Leaf) (by omega) (by omega), app_ok (by simp [lim, secs]; omega) (by simp [lim, secs]; omega)]
    simp [secs])
  rw [show (secs w.Tree.Size w.Tree.Leaf []).map (fun p => (⟨p.1, p.2⟩ : api_Extent)) = [] from rfl] at this
  simp only
  rw [this]
  simp only [Option.bind_some, Fl.then_go]
  have hin : Inside ((secs w.Tree.Size w.Tree.Leaf d).map fun p => (⟨p.1, p.2⟩ : api_Extent)) := fun e he => by
    obtain ⟨p, hp, rfl⟩ := List.mem_map.1 he
    have := hch.1 p hp
    simp only; omega
  rw [union_nil hin (by simp [secs]; omega) (foldX_sep hch) (fun x => by
    rw [foldX_cov hch]
    constructor
    · rintro ⟨p, hp, h⟩
      have := hch.1 p hp
      exact ⟨⟨p.1, p.2⟩, List.mem_map.2 ⟨p, hp, rfl⟩, this.2.1, h.1, h.2⟩
    · rintro ⟨e, he, _, h1, h2⟩
      obtain ⟨p, hp, rfl⟩ := List.mem_map.1 he
      exact ⟨p, hp, h1, h2⟩)]
  rfl
theorem refExtents_eq {size leaf : Int} {d : List Int} (hd : Rising d) (h0 : 1 ≤ leaf) (h4 : leaf ≤ 4096) (hs : size ≤ 4096) (hb : ∀ n ∈ d, 0 ≤ n ∧ n * leaf < size) (hd2 : d.length ≤ 100000) :
    f_ref11_Extents size leaf d = some (foldX (secs size leaf d)) := by
  unfold f_ref11_Extents
  have := while_go (ρ := List api_Extent) (body := fun (s1 : List api_Extent × Int) => if (decide (s1.2 < (d.length : Int))) = true then (idx d s1.2).bind fun x9 => (idx d s1.2).bind fun x10 => (idx d s1.2).bind fun x11 => (if (decide (0 < (s1.1.length : Int))) = true then (idx s1.1 (IntKind.i64.wrap ((s1.1.length : Int) - 1))).bind fun x13 => (idx s1.1 (IntKind.i64.wrap ((s1.1.length : Int) - 1))).bind fun x14 => some (decide ((IntKind.i64.wrap (x13.Start + x14.Count)) = (IntKind.i64.wrap (x9 * leaf)))) else some false).bind fun c15 => ((if c15 = true then (idx s1.1 (IntKind.i64.wrap ((s1.1.length : Int) - 1))).bind fun x21 => (idx s1.1 (IntKind.i64.wrap ((s1.1.length : Int) - 1))).bind fun x22 => some (Fl.go (setI s1.1 (IntKind.i64.wrap ((s1.1.length : Int) - 1)) (⟨x22.Start, IntKind.i64.wrap (x21.Count + (IntKind.i64.wrap ((min size (IntKind.i64.wrap ((IntKind.i64.wrap (x10 * leaf)) + leaf))) - (IntKind.i64.wrap (x11 * leaf)))))⟩ : api_Extent))) else (app 16 s1.1 [(⟨IntKind.i64.wrap (x9 * leaf), IntKind.i64.wrap ((min size (IntKind.i64.wrap ((IntKind.i64.wrap (x10 * leaf)) + leaf))) - (IntKind.i64.wrap (x11 * leaf)))⟩ : api_Extent)]).bind fun x23 => some (Fl.go x23) : Option (Fl (List api_Extent) (Rd (List api_Extent × Int) (List api_Extent))))).bind fun o17 => o17.then fun s19 => some (Rd.next (s19, IntKind.i64.wrap (s1.2 + 1))) else some (Rd.done (s1.1, s1.2)))
    (fun k => (foldX (secs size leaf (d.take k)), (k : Int))) d.length (K := bigK) (Nat.lt_of_le_of_lt (by simp [lim]; omega) lim_bigK) (fun k hk => by
      have hx := hb d[k] (List.getElem_mem _)
      have hm : 0 ≤ d[k] * leaf := Int.mul_nonneg hx.1 (by omega)
      have hsep := foldX_sep (secs_chain (List.Pairwise.sublist (List.take_sublist k d) hd) h0 hs (fun n hn => hb n (List.mem_of_mem_take hn)))
      have hsh := sep_short hsep
      simp only
      rw [if_pos (by simp; omega), idx_get hk]
      simp only [Option.bind_some]
      rw [w64 (n := d[k] * leaf) (by omega) (by omega), w64 (n := d[k] * leaf + leaf) (by omega) (by omega), w64 (n := min size (d[k] * leaf + leaf) - d[k] * leaf) (by omega) (by omega)]
      rw [addC hsep.1 (by omega)]
      simp only [Option.bind_some]
      rw [addB (fun x => some (Fl.go x)) hsep.1 (by omega) (by omega)]
      simp only [Option.bind_some, Fl.then_go]
      rw [w64 (n := (k : Int) + 1) (by omega) (by omega)]
      have e : d.take (k + 1) = d.take k ++ [d[k]] := List.take_succ_eq_append_getElem hk
      rw [e]
      rw [show secs size leaf (d.take k ++ [d[k]]) = secs size leaf (d.take k) ++ [(d[k] * leaf, min leaf (size - d[k] * leaf))] by unfold secs; rw [List.map_append]; rfl, foldX_snoc]
      have e2 : min size (d[k] * leaf + leaf) - d[k] * leaf = min leaf (size - d[k] * leaf) := by omega
      rw [e2]
      simp) (s' := (foldX (secs size leaf d), (d.length : Int))) (by
      simp [List.take_of_length_le])
  simp only [List.take_zero] at this
  rw [show foldX (secs size leaf []) = [] from rfl, show ((0 : Nat) : Int) = 0 from rfl] at this
  rw [this]
  simp [Fl.then_go]
theorem refExts_eq {d : List Int} (hd : Rising d) (hb : ∀ n ∈ d, 0 ≤ n ∧ n < 4096) (hd2 : d.length ≤ 100000) : f_ref44_extents d = some (foldX (d.map fun n => (n, 1))) := by
  unfold f_ref44_extents
  have := while_go (ρ := List api_Extent) (body := fun (s1 : List api_Extent × Int) => if (decide (s1.2 < (d.length : Int))) = true then (if (decide (0 < (s1.1.length : Int))) = true then (idx s1.1 (IntKind.i64.wrap ((s1.1.length : Int) - 1))).bind fun x9 => (idx s1.1 (IntKind.i64.wrap ((s1.1.length : Int) - 1))).bind fun x10 => (idx d s1.2).bind fun x11 => some (decide ((IntKind.i64.wrap (x9.Start + x10.Count)) = x11)) else some false).bind fun c12 => ((if c12 = true then (idx s1.1 (IntKind.i64.wrap ((s1.1.length : Int) - 1))).bind fun x18 => (idx s1.1 (IntKind.i64.wrap ((s1.1.length : Int) - 1))).bind fun x19 => some (Fl.go (setI s1.1 (IntKind.i64.wrap ((s1.1.length : Int) - 1)) (⟨x19.Start, IntKind.i64.wrap (x18.Count + 1)⟩ : api_Extent))) else (idx d s1.2).bind fun x20 => (app 16 s1.1 [(⟨x20, 1⟩ : api_Extent)]).bind fun x21 => some (Fl.go x21) : Option (Fl (List api_Extent) (Rd (List api_Extent × Int) (List api_Extent))))).bind fun o14 => o14.then fun s16 => some (Rd.next (s16, IntKind.i64.wrap (s1.2 + 1))) else some (Rd.done (s1.1, s1.2)))
    (fun k => (foldX ((d.take k).map fun n => (n, 1)), (k : Int))) d.length (K := bigK) (Nat.lt_of_le_of_lt (by simp [lim]; omega) lim_bigK) (fun k hk => by
      have hx := hb d[k] (List.getElem_mem _)
      have hsep := foldX_sep (one_chain (List.Pairwise.sublist (List.take_sublist k d) hd) (fun n hn => hb n (List.mem_of_mem_take hn)))
      have hsh := sep_short hsep
      simp only
      rw [if_pos (by simp; omega), idx_get hk]
      simp only [Option.bind_some]
      rw [addC hsep.1 (by omega)]
      simp only [Option.bind_some]
      rw [addB (fun x => some (Fl.go x)) hsep.1 (by omega) (by omega)]
      simp only [Option.bind_some, Fl.then_go]
      rw [w64 (n := (k : Int) + 1) (by omega) (by omega)]
      have e : d.take (k + 1) = d.take k ++ [d[k]] := List.take_succ_eq_append_getElem hk
      rw [e, List.map_append, List.map_singleton, foldX_snoc]
      simp) (s' := (foldX (d.map fun n => (n, 1)), (d.length : Int))) (by
      simp [List.take_of_length_le])
  simp only [List.take_zero] at this
  rw [show foldX (([] : List Int).map fun n => (n, 1)) = [] from rfl, show ((0 : Nat) : Int) = 0 from rfl] at this
  rw [this]
  simp [Fl.then_go]
theorem addOne_eq {l : List api_Extent} {s : Int} (hin : Inside l) (hl : l.length ≤ 1000000) : f_compare_add l s = some (addX l s 1) := by
  unfold f_compare_add
  rw [addC hin hl]
  simp only [Option.bind_some]
  exact addB (fun x => some x) hin hl (by omega)
end Go.Proofs.Ytogflgcngfghpaa
end
section
set_option maxHeartbeats 1000000
set_option linter.unusedVariables false
set_option linter.unusedSimpArgs false
namespace Go.Proofs.Ytogflgcngfghpaa
open Go.J
def oneS (l : List Int) : List (Int × Int) := l.map fun n => (n, 1)
theorem below_snoc (len : Nat) (l : List Int) (n : Int) : belowS len (l ++ [n]) = belowS len l ++ [2 * n, 2 * n + 1].filter fun x => decide (x < (len : Int)) := by
  unfold belowS; rw [List.flatMap_append]; simp only [List.flatMap_cons, List.flatMap_nil, List.append_nil]
theorem pair_filter {len : Nat} {n : Int} : [2 * n, 2 * n + 1].filter (fun x => decide (x < (len : Int))) = if 2 * n + 1 < (len : Int) then [2 * n, 2 * n + 1] else if 2 * n < (len : Int) then [2 * n] else [] := by
  split
  · rename_i h
    simp [h, show 2 * n < (len : Int) by omega]
  · rename_i h
    split
    · rename_i h2
      simp [h, h2]
    · rename_i h2
      simp [h, h2]
theorem below_prefix {len : Nat} {pre : List Int} {x : Int} {suf : List Int} : (belowS len (pre ++ [x])).Sublist (belowS len (pre ++ x :: suf)) := by
  have : pre ++ x :: suf = (pre ++ [x]) ++ suf := by simp
  rw [this]
  unfold belowS
  rw [List.flatMap_append (xs := pre ++ [x])]
  exact List.sublist_append_left _ _
theorem below_bd {len : Nat} {d : List Int} (hl : len ≤ 4096) (hb : ∀ n ∈ d, 0 ≤ n ∧ n < 4096) : ∀ n ∈ belowS len d, 0 ≤ n ∧ n < 4096 := fun n hn => by
  obtain ⟨h1, m, hm, h2⟩ := below_mem.1 hn
  have := hb m hm
  omega
def dBody (i21 : Int) (x25 : Int) (s14 : compare_walk × List api_Extent) : Option (Rd (compare_walk × List api_Extent) (Rd (compare_walk × List api_Extent) (compare_walk))) :=
  (f_compare_walk_nodes (⟨(⟨s14.1.Walk.Tree, [], s14.1.Walk.Level, s14.1.Walk.Found, s14.1.Walk.Sent, s14.1.Walk.Done⟩ : api_Walk)⟩ : compare_walk)).bind fun x27 => ((if (decide (x25 < (x27.length : Int))) = true then (f_compare_add s14.2 x25).bind fun x33 => some (Fl.go ((⟨(⟨s14.1.Walk.Tree, [], s14.1.Walk.Level, s14.1.Walk.Found, s14.1.Walk.Sent, s14.1.Walk.Done⟩ : api_Walk)⟩ : compare_walk), x33)) else some (Fl.go ((⟨(⟨s14.1.Walk.Tree, [], s14.1.Walk.Level, s14.1.Walk.Found, s14.1.Walk.Sent, s14.1.Walk.Done⟩ : api_Walk)⟩ : compare_walk), s14.2)) : Option (Fl (compare_walk × List api_Extent) (Rd (compare_walk × List api_Extent) (Rd (compare_walk × List api_Extent) (compare_walk)))))).bind fun o29 => o29.then fun s31 => some (Rd.next ((⟨(⟨s31.1.Walk.Tree, [], s31.1.Walk.Level, s31.1.Walk.Found, s31.1.Walk.Sent, s31.1.Walk.Done⟩ : api_Walk)⟩ : compare_walk), s31.2))
theorem rangeF_pair {α σ ρ : Type} {body : Int → α → σ → Option (Rd σ ρ)} {a b : α} {s0 s1 s2 : σ} (h1 : body 0 a s0 = some (.next s1)) (h2 : body (0 + 1) b s1 = some (.next s2)) : rangeF body [a, b] 0 s0 = some (.go s2) := by
  simp only [rangeF, h1, h2]
theorem descend_eq {w : api_Walk} {d : List Int} {len : Nat} (hl1 : 1 ≤ w.Level) (hl2 : w.Level ≤ 1000000) (hlv : (w.Level - 1).toNat < w.Tree.Levels.length) (hlen : len = (w.Tree.Levels.getD (w.Level - 1).toNat []).length) (hl : len ≤ 4096) (hr : Rising d) (hb : ∀ n ∈ d, 0 ≤ n ∧ n < 4096) :
    f_compare_walk_descend ⟨w⟩ d = some ⟨{ w with Level := w.Level - 1, Pending := foldX (oneS (belowS len d)) }⟩ := by
  unfold f_compare_walk_descend
  simp only
  rw [w64 (n := w.Level - 1) (by omega) (by omega)]
  let W0 : compare_walk := ⟨⟨w.Tree, [], w.Level - 1, w.Found, w.Sent, w.Done⟩⟩
  have hnodes : f_compare_walk_nodes W0 = some (w.Tree.Levels.getD (w.Level - 1).toNat []) := by
    unfold f_compare_walk_nodes
    simp only [W0]
    rw [idx_getD (by omega) hlv []]; rfl
  have hS : ∀ X : List Int, X.Sublist (belowS len d) → Sep (foldX (oneS X)) ∧ (foldX (oneS X)).length ≤ 1000000 := fun X hX => by
    have h1 := foldX_sep (one_chain (List.Pairwise.sublist hX (below_rising hr)) (fun n hn => below_bd hl hb n (hX.subset hn)))
    exact ⟨h1, by have := sep_short h1; unfold oneS; omega⟩
  have hstep : ∀ (X : List Int) (x : Int) (i : Int), X.Sublist (belowS len d) →
      dBody i x (W0, foldX (oneS X))
        = some (Rd.next (W0, if x < (len : Int) then foldX (oneS (X ++ [x])) else foldX (oneS X)) : Rd (compare_walk × List api_Extent) (Rd (compare_walk × List api_Extent) (compare_walk))) := by
    intro X x i hX
    unfold dBody
    change (f_compare_walk_nodes W0).bind _ = _
    rw [hnodes]
    simp only [Option.bind_some, ← hlen]
    by_cases hx : x < (len : Int)
    · rw [if_pos (by simpa using hx), if_pos hx, addOne_eq (hS X hX).1.1 (hS X hX).2]
      simp only [Option.bind_some, Fl.then_go]
      rw [show oneS (X ++ [x]) = oneS X ++ [(x, 1)] by simp [oneS], foldX_snoc]
    · rw [if_neg (by simpa using hx), if_neg hx]
      simp only [Option.bind_some, Fl.then_go, W0]
  have := rangeF_inv (ρ := compare_walk) (b := fun (i8 : Int) (x12 : Int) (s1 : compare_walk × List api_Extent) => (rangeF (σ := compare_walk × List api_Extent) (ρ := Rd (compare_walk × List api_Extent) (compare_walk)) (fun i21 x25 s14 => (f_compare_walk_nodes (⟨(⟨s14.1.Walk.Tree, [], s14.1.Walk.Level, s14.1.Walk.Found, s14.1.Walk.Sent, s14.1.Walk.Done⟩ : api_Walk)⟩ : compare_walk)).bind fun x27 => ((if (decide (x25 < (x27.length : Int))) = true then (f_compare_add s14.2 x25).bind fun x33 => some (Fl.go ((⟨(⟨s14.1.Walk.Tree, [], s14.1.Walk.Level, s14.1.Walk.Found, s14.1.Walk.Sent, s14.1.Walk.Done⟩ : api_Walk)⟩ : compare_walk), x33)) else some (Fl.go ((⟨(⟨s14.1.Walk.Tree, [], s14.1.Walk.Level, s14.1.Walk.Found, s14.1.Walk.Sent, s14.1.Walk.Done⟩ : api_Walk)⟩ : compare_walk), s14.2)) : Option (Fl (compare_walk × List api_Extent) (Rd (compare_walk × List api_Extent) (Rd (compare_walk × List api_Extent) (compare_walk)))))).bind fun o29 => o29.then fun s31 => some (Rd.next ((⟨(⟨s31.1.Walk.Tree, [], s31.1.Walk.Level, s31.1.Walk.Found, s31.1.Walk.Sent, s31.1.Walk.Done⟩ : api_Walk)⟩ : compare_walk), s31.2))) [IntKind.i64.wrap (2 * x12), IntKind.i64.wrap ((IntKind.i64.wrap (2 * x12)) + 1)] 0 ((⟨(⟨s1.1.Walk.Tree, [], s1.1.Walk.Level, s1.1.Walk.Found, s1.1.Walk.Sent, s1.1.Walk.Done⟩ : api_Walk)⟩ : compare_walk), s1.2)).bind fun o16 => o16.then fun s14 => some (Rd.next ((⟨(⟨s14.1.Walk.Tree, [], s14.1.Walk.Level, s14.1.Walk.Found, s14.1.Walk.Sent, s14.1.Walk.Done⟩ : api_Walk)⟩ : compare_walk), s14.2)))
    (fun pre => (W0, foldX (oneS (belowS len pre)))) (l := d) (fun pre x suf hp => by
      have hx := hb x (by rw [hp]; simp)
      have hsub : (belowS len (pre ++ [x])).Sublist (belowS len d) := by rw [hp]; exact below_prefix
      have hsub0 : (belowS len pre).Sublist (belowS len d) := by
        refine List.Sublist.trans ?_ hsub
        rw [below_snoc]; exact List.sublist_append_left _ _
      simp only
      rw [w64 (n := 2 * x) (by omega) (by omega), w64 (n := 2 * x + 1) (by omega) (by omega)]
      have hin : rangeF dBody [2 * x, 2 * x + 1] 0 (W0, foldX (oneS (belowS len pre))) = some (.go (W0, foldX (oneS (belowS len (pre ++ [x]))))) := by
        rw [below_snoc, pair_filter]
        rw [below_snoc, pair_filter] at hsub
        by_cases h1 : 2 * x < (len : Int)
        · have hsub1 : (belowS len pre ++ [2 * x]).Sublist (belowS len d) := by
            refine List.Sublist.trans (List.Sublist.append_left ?_ _) hsub
            split
            · exact List.Sublist.cons_cons _ (List.nil_sublist _)
            · exact List.Sublist.refl _
          have a1 := hstep (belowS len pre) (2 * x) 0 hsub0
          rw [if_pos h1] at a1
          have a2 := hstep (belowS len pre ++ [2 * x]) (2 * x + 1) (0 + 1) hsub1
          rw [rangeF_pair a1 a2]
          by_cases h2 : 2 * x + 1 < (len : Int)
          · rw [if_pos h2, if_pos h2]; simp
          · rw [if_neg h2, if_neg h2, if_pos h1]
        · have h2 : ¬ 2 * x + 1 < (len : Int) := by omega
          have a1 := hstep (belowS len pre) (2 * x) 0 hsub0
          rw [if_neg h1] at a1
          have a2 := hstep (belowS len pre) (2 * x + 1) (0 + 1) hsub0
          rw [if_neg h2] at a2
          rw [rangeF_pair a1 a2, if_neg h2, if_neg h1, List.append_nil]
      change (rangeF dBody [2 * x, 2 * x + 1] 0 (W0, foldX (oneS (belowS len pre)))).bind _ = _
      rw [hin]
      rfl)
  rw [show foldX (oneS (belowS len [])) = [] from rfl] at this
  rw [show ((⟨(⟨w.Tree, [], w.Level - 1, w.Found, w.Sent, w.Done⟩ : api_Walk)⟩ : compare_walk)) = W0 from rfl]
  rw [this]
  rfl
theorem refBelow_eq {ρ : Type} {L : List (List Int)} {lv : Int} {d : List Int} {len : Nat} (hl1 : 1 ≤ lv) (hl2 : lv ≤ 1000000) (hlv : (lv - 1).toNat < L.length) (hlen : len = (L.getD (lv - 1).toNat []).length) (hl : len ≤ 4096) (hr : Rising d) (hb : ∀ n ∈ d, 0 ≤ n ∧ n < 4096) (hd : d.length ≤ 100000) :
    whileF (σ := List Int × Int) (ρ := ρ) (fun s44 => if (decide (s44.2 < (d.length : Int))) = true then (idx d s44.2).bind fun x52 => (whileF (σ := List Int × Int) (ρ := Rd (List Int × Int) ρ) (fun s53 => (idx d s44.2).bind fun x60 => (if (decide (s53.2 ≤ (IntKind.i64.wrap ((IntKind.i64.wrap (2 * x60)) + 1)))) = true then (idx L (IntKind.i64.wrap (lv - 1))).bind fun x63 => some (decide (s53.2 < (x63.length : Int))) else some false).bind fun c61 => if c61 = true then (app 8 s53.1 [s53.2]).bind fun x65 => some (Rd.next (x65, IntKind.i64.wrap (s53.2 + 1))) else some (Rd.done (s53.1, s53.2))) bigK (s44.1, IntKind.i64.wrap (2 * x52))).bind fun o55 => o55.then fun s53 => some (Rd.next (s53.1, IntKind.i64.wrap (s44.2 + 1))) else some (Rd.done (s44.1, s44.2))) bigK ([], 0) = some (.go (belowS len d, (d.length : Int))) := by
  have := while_go (ρ := ρ) (body := fun (s44 : List Int × Int) => if (decide (s44.2 < (d.length : Int))) = true then (idx d s44.2).bind fun x52 => (whileF (σ := List Int × Int) (ρ := Rd (List Int × Int) ρ) (fun s53 => (idx d s44.2).bind fun x60 => (if (decide (s53.2 ≤ (IntKind.i64.wrap ((IntKind.i64.wrap (2 * x60)) + 1)))) = true then (idx L (IntKind.i64.wrap (lv - 1))).bind fun x63 => some (decide (s53.2 < (x63.length : Int))) else some false).bind fun c61 => if c61 = true then (app 8 s53.1 [s53.2]).bind fun x65 => some (Rd.next (x65, IntKind.i64.wrap (s53.2 + 1))) else some (Rd.done (s53.1, s53.2))) bigK (s44.1, IntKind.i64.wrap (2 * x52))).bind fun o55 => o55.then fun s53 => some (Rd.next (s53.1, IntKind.i64.wrap (s44.2 + 1))) else some (Rd.done (s44.1, s44.2)))
    (fun k => (belowS len (d.take k), (k : Int))) d.length (K := bigK) (Nat.lt_of_le_of_lt (by simp [lim]; omega) lim_bigK) (fun k hk => by
      have hx := hb d[k] (List.getElem_mem _)
      have hbl := rising_len (lo := 0) (hi := 4096) (below_rising (len := len) (List.Pairwise.sublist (List.take_sublist k d) hr)) (below_bd hl fun n hn => hb n (List.mem_of_mem_take hn)) (by omega)
      simp only
      rw [if_pos (by simp; omega), idx_get hk]
      simp only [Option.bind_some]
      rw [w64 (n := 2 * d[k]) (by omega) (by omega), w64 (n := 2 * d[k] + 1) (by omega) (by omega), w64 (n := lv - 1) (by omega) (by omega), idx_getD (by omega) hlv []]
      simp only [Option.bind_some, ← hlen]
      have e : d.take (k + 1) = d.take k ++ [d[k]] := List.take_succ_eq_append_getElem hk
      rw [e, below_snoc, pair_filter]
      generalize d[k] = n at *
      generalize hB : belowS len (d.take k) = B at *
      have hin := while_go (ρ := Rd (List Int × Int) ρ) (body := fun (s53 : List Int × Int) => (if (decide (s53.2 ≤ 2 * n + 1)) = true then some (decide (s53.2 < (len : Int))) else some false).bind fun c61 => if c61 = true then (app 8 s53.1 [s53.2]).bind fun x65 => some (Rd.next (x65, IntKind.i64.wrap (s53.2 + 1))) else some (Rd.done (s53.1, s53.2)))
        (fun i => (B ++ [2 * n, 2 * n + 1].take i, 2 * n + (i : Int))) (if 2 * n + 1 < (len : Int) then 2 else if 2 * n < (len : Int) then 1 else 0) (K := bigK) (Nat.lt_of_le_of_lt (by split <;> (try split) <;> decide) lim_bigK) (fun i hi => by
          have hi2 : i < 2 := by
            revert hi
            split
            · exact id
            · split <;> omega
          have hlt : 2 * n + (i : Int) < (len : Int) := by
            revert hi
            split
            · omega
            · split <;> omega
          have hle : 2 * n + (i : Int) ≤ 2 * n + 1 := by omega
          simp only [hlt, hle, decide_true, if_true, Option.bind_some]
          rw [app_ok (by simp [lim]; omega) (by simp [lim]; omega), w64 (n := 2 * n + (i : Int) + 1) (by omega) (by omega)]
          have hi3 : i = 0 ∨ i = 1 := by omega
          rcases hi3 with rfl | rfl
          · simp
          · simp [Int.add_assoc]) (s' := (B ++ (if 2 * n + 1 < (len : Int) then [2 * n, 2 * n + 1] else if 2 * n < (len : Int) then [2 * n] else []), 2 * n + ((if 2 * n + 1 < (len : Int) then 2 else if 2 * n < (len : Int) then 1 else 0 : Nat) : Int))) (by
          split
          · rename_i h1
            have h2 : ¬ 2 * n + 2 ≤ 2 * n + 1 := by omega
            simp [h2]
          · rename_i h1
            split
            · rename_i h2
              simp [h1]
            · rename_i h2
              simp [h2])
      simp only [List.take_zero, List.append_nil] at hin
      rw [show 2 * n + ((0 : Nat) : Int) = 2 * n by omega] at hin
      rw [hin]
      simp only [Option.bind_some, Fl.then_go]
      rw [w64 (n := (k : Int) + 1) (by omega) (by omega)]
      simp) (s' := (belowS len d, (d.length : Int))) (by
      simp [List.take_of_length_le])
  simp only [List.take_zero] at this
  exact this
end Go.Proofs.Ytogflgcngfghpaa
end
section
set_option maxHeartbeats 1000000
set_option linter.unusedVariables false
set_option linter.unusedSimpArgs false
namespace Go.Proofs.Ytogflgcngfghpaa
open Go.J
theorem refDiffer_eq {ρ : Type} {L : List (List Int)} {lv : Int} {nodes body level : List Int} (hlv : 0 ≤ lv ∧ lv.toNat < L.length) (hle : level = L.getD lv.toNat []) (hn : ∀ n ∈ nodes, 0 ≤ n ∧ n.toNat < level.length) (hb : body.length = 8 * nodes.length) (hnl : nodes.length ≤ 100000) (hu : ∀ x ∈ body, U8 x) (hv : ∀ x ∈ level, U64 x) :
    whileF (σ := List Int × Int) (ρ := ρ) (fun s14 => if (decide (s14.2 < (nodes.length : Int))) = true then (f_ref44_digest body s14.2).bind fun x22 => (idx L lv).bind fun x23 => (idx nodes s14.2).bind fun x24 => (idx x23 x24).bind fun x25 => ((if (!decide (x22 = x25)) = true then (idx nodes s14.2).bind fun x31 => (app 8 s14.1 [x31]).bind fun x32 => some (Fl.go x32) else some (Fl.go s14.1) : Option (Fl (List Int) (Rd (List Int × Int) ρ)))).bind fun o27 => o27.then fun s29 => some (Rd.next (s29, IntKind.i64.wrap (s14.2 + 1))) else some (Rd.done (s14.1, s14.2))) bigK ([], 0) = some (.go (differS nodes body level, (nodes.length : Int))) := by
  have := while_go (ρ := ρ) (body := fun (s14 : List Int × Int) => if (decide (s14.2 < (nodes.length : Int))) = true then (f_ref44_digest body s14.2).bind fun x22 => (idx L lv).bind fun x23 => (idx nodes s14.2).bind fun x24 => (idx x23 x24).bind fun x25 => ((if (!decide (x22 = x25)) = true then (idx nodes s14.2).bind fun x31 => (app 8 s14.1 [x31]).bind fun x32 => some (Fl.go x32) else some (Fl.go s14.1) : Option (Fl (List Int) (Rd (List Int × Int) ρ)))).bind fun o27 => o27.then fun s29 => some (Rd.next (s29, IntKind.i64.wrap (s14.2 + 1))) else some (Rd.done (s14.1, s14.2)))
    (fun k => ((List.range k).flatMap (diffAt nodes body level), (k : Int))) nodes.length (K := bigK) (Nat.lt_of_le_of_lt (by simp [lim]; omega) lim_bigK) (fun k hk => by
      have hx := hn nodes[k] (List.getElem_mem _)
      have hdr := diffR_len nodes body level k
      simp only
      rw [if_pos (by simp; omega), refDig_eq hu (by omega) (by omega), idx_getD hlv.1 hlv.2 [], ← hle, idx_get hk]
      simp only [Option.bind_some]
      rw [idx_getD hx.1 hx.2 0]
      simp only [Option.bind_some]
      have hxe : nodes.getD k 0 = nodes[k] := by simp [List.getD_eq_getElem?_getD, hk]
      have hvv : U64 (level.getD nodes[k].toNat 0) := by
        rw [List.getD_eq_getElem?_getD, List.getElem?_eq_getElem hx.2]
        exact hv _ (List.getElem_mem _)
      have hcl : ((body.drop (8 * k)).take 8).length = 8 := by simp; omega
      have hiff : asmH ((body.drop (8 * k)).take 8) = level.getD nodes[k].toNat 0 ↔ (body.drop (8 * k)).take 8 = bytesS (level.getD nodes[k].toNat 0) := by
        constructor
        · intro h
          refine asm_inj (by rw [hcl, bytes_len]) (fun x hx => hu x (List.mem_of_mem_drop (List.mem_of_mem_take hx))) (bytes_U8 _) ?_
          rw [h, bytes_asm hvv]
        · intro h
          rw [h, bytes_asm hvv]
      have er : (List.range (k + 1)).flatMap (diffAt nodes body level) = (List.range k).flatMap (diffAt nodes body level) ++ (if (body.drop (8 * k)).take 8 = bytesS (level.getD nodes[k].toNat 0) then [] else [nodes[k]]) := by
        rw [List.range_succ, List.flatMap_append]
        simp only [List.flatMap_cons, List.flatMap_nil, List.append_nil]
        unfold diffAt
        rw [hxe]
      rw [er, w64 (n := (k : Int) + 1) (by omega) (by omega)]
      by_cases heq : (body.drop (8 * k)).take 8 = bytesS (level.getD nodes[k].toNat 0)
      · rw [if_neg (by simp only [hiff.2 heq, decide_true, Bool.not_true]; decide), if_pos heq]
        simp only [Option.bind_some, Fl.then_go, List.append_nil]
        simp
      · rw [if_pos (by simp only [Bool.not_eq_true', decide_eq_false_iff_not]; exact fun h => heq (hiff.1 h)), if_neg heq, app_ok (by simp only [List.length_singleton, lim]; omega) (by simp only [List.length_singleton, lim]; omega)]
        simp only [Option.bind_some, Fl.then_go]
        simp) (s' := (differS nodes body level, (nodes.length : Int))) (by
      simp [differS])
  exact this
structure WOK (w : api_Walk) : Prop where
  lv : w.Tree.Levels.length ≤ 1000000
  p : ∀ e ∈ w.Pending, EI e
  f : ∀ e ∈ w.Found, EI e
  pl : w.Pending.length ≤ 1000000
  fl : w.Found.length ≤ 1000000
  u : ∀ l ∈ w.Tree.Levels, ∀ x ∈ l, U64 x
theorem check_good {w : api_Walk} (h : wchkS w = 0) : checkS w.Tree = 0 ∧ rngS w = false ∧ formS w = true := by
  unfold wchkS at h
  split at h
  · rename_i h1
    split at h
    · cases h
    · rename_i h2
      split at h
      · rename_i h3
        exact ⟨h1, by simpa using h2, h3⟩
      · cases h
  · rename_i h1; exact absurd h h1
theorem check_open {w : api_Walk} (h : wchkS w = 0) (hd : w.Done = false) : w.Found = [] ∧ w.Pending ≠ [] ∧ checkE w.Pending ((levelS w).length : Int) = 0 := by
  have := (check_good h).2.2
  unfold formS at this
  rw [hd] at this
  simp only [Bool.false_eq_true, if_false, Bool.and_eq_true, Bool.not_eq_true', decide_eq_false_iff_not, decide_eq_true_eq] at this
  obtain ⟨⟨h1, h2⟩, h3⟩ := this
  refine ⟨List.length_eq_zero_iff.1 (by omega), fun e => by rw [e] at h1; exact h1 rfl, h3⟩
theorem shp_head0 : ∀ {L : List (List Int)} {n : Nat}, shp L n = true → (L.getD 0 []).length = n
  | [], _, h => by simp [shp] at h
  | [l], n, h => by simp [shp] at h; simp; omega
  | l :: m :: r, n, h => by simp [shp] at h; simp [h]
theorem leaf_lt {size leaf n : Int} (h1 : 1 ≤ size) (h3 : 1 ≤ leaf) (hn : 0 ≤ n) (h : n.toNat < leavesS size leaf) : n * leaf < size := by
  unfold leavesS at h
  have h2 : n + 1 ≤ (size + leaf - 1) / leaf := by omega
  have := (Int.le_ediv_iff_mul_le (by omega)).1 h2
  rw [Int.add_mul] at this
  omega
def w0 : api_Walk := ⟨⟨0, 0, []⟩, [], 0, [], 0, false⟩
def stepD (w : api_Walk) (m : api_Message) : List Int := differS (nodesS w.Pending) m.Body (levelS w)
def sentD (w : api_Walk) : Int := w.Sent + ((nodesS w.Pending).length : Int)
def downS (w : api_Walk) (d : List Int) : api_Walk := ⟨w.Tree, foldX (oneS (belowS (w.Tree.Levels.getD (w.Level - 1).toNat []).length d)), w.Level - 1, [], sentD w, false⟩
def moveS (w : api_Walk) (d : List Int) : api_Walk × List api_Message × Int :=
  if w.Level = 0 then (⟨w.Tree, [], 0, foldX (secs w.Tree.Size w.Tree.Leaf d), sentD w, true⟩, [], 0)
  else if d = [] then (⟨w.Tree, [], 0, [], sentD w, true⟩, [], 0)
  else (downS w d, [requestS (downS w d)], 0)
def learnS (w : api_Walk) (m : api_Message) : api_Walk × List api_Message × Int :=
  if wchkS w ≠ 0 then (w0, [], wchkS w) else if w.Done = true then (w0, [], 12) else if m.Kind ≠ 14 then (w0, [], 1) else
  if m.Number ≠ w.Level ∨ m.Values ≠ valuesS w then (w0, [], 22) else if m.Body.length ≠ 8 * (nodesS w.Pending).length then (w0, [], 3) else moveS w (stepD w m)
/-- What holds of a walk that is open and passes the check. -/
structure Open (w : api_Walk) : Prop where
  good : checkS w.Tree = 0
  lv : 0 ≤ w.Level ∧ w.Level.toNat < w.Tree.Levels.length
  lb : w.Level ≤ 5000
  sent : 0 ≤ w.Sent ∧ w.Sent ≤ 8192
  found : w.Found = []
  done : w.Done = false
  pend : w.Pending ≠ []
  sep : Sep w.Pending
  nodes : ∀ n ∈ nodesS w.Pending, 0 ≤ n ∧ n.toNat < (levelS w).length
  len : (levelS w).length ≤ 4096
theorem Open.of {w : api_Walk} (h : wchkS w = 0) (hd : w.Done = false) : Open w := by
  obtain ⟨h1, h2, h3⟩ := check_good h
  obtain ⟨l1, l2, l3, l4, _⟩ := lv_of_rng h2
  obtain ⟨f1, f2, f3⟩ := check_open h hd
  obtain ⟨_, _, _, _, _, g6, g7⟩ := good_levels h1
  have hc := inside_of_check f3
  refine ⟨h1, ⟨l1, l2⟩, by omega, ⟨l3, l4⟩, f1, hd, f2, sep_of_check f3, nodes_in hc.1 hc.2, ?_⟩
  unfold levelS
  rw [List.getD_eq_getElem?_getD, List.getElem?_eq_getElem l2]
  exact g7 _ (List.getElem_mem _)
theorem Open.rise {w : api_Walk} (h : Open w) (m : api_Message) : Rising (stepD w m) ∧ (∀ n ∈ stepD w m, 0 ≤ n ∧ n.toNat < (levelS w).length) ∧ (stepD w m).length ≤ 4096 := by
  have hs := differ_sub (nodesS w.Pending) m.Body (levelS w)
  refine ⟨List.Pairwise.sublist hs (nodes_rising h.sep), fun n hn => h.nodes n (hs.subset hn), ?_⟩
  have := hs.length_le
  have := sep_nodes h.sep
  unfold stepD; omega
theorem Open.leaf {w : api_Walk} (h : Open w) (h0 : w.Level = 0) {n : Int} (hn : 0 ≤ n ∧ n.toNat < (levelS w).length) : 0 ≤ n ∧ n * w.Tree.Leaf < w.Tree.Size := by
  obtain ⟨g1, g2, g3, g4, g5, _⟩ := good_levels h.good
  have := shp_head0 g5
  unfold levelS at hn
  rw [h0] at hn
  have e : (0 : Int).toNat = 0 := rfl
  rw [e, this] at hn
  exact ⟨hn.1, leaf_lt g1 g3 hn.1 hn.2⟩
theorem Open.below {w : api_Walk} (h : Open w) (h0 : w.Level ≠ 0) : (w.Level - 1).toNat < w.Tree.Levels.length ∧ (w.Tree.Levels.getD (w.Level - 1).toNat []).length ≤ 4096 := by
  obtain ⟨g1, g2, g3, g4, g5, g6, g7⟩ := good_levels h.good
  have h1 := h.lv
  have h2 : (w.Level - 1).toNat < w.Tree.Levels.length := by omega
  refine ⟨h2, ?_⟩
  rw [List.getD_eq_getElem?_getD, List.getElem?_eq_getElem h2]
  exact g7 _ (List.getElem_mem _)
theorem below_sep {w : api_Walk} (h : Open w) (m : api_Message) (h0 : w.Level ≠ 0) : Sep (downS w (stepD w m)).Pending := by
  obtain ⟨r1, r2, r3⟩ := h.rise m
  have hl := h.len
  exact foldX_sep (one_chain (below_rising r1) (below_bd (h.below h0).2 fun n hn => by have := r2 n hn; omega))
theorem learn_eq {w : api_Walk} {m : api_Message} (hw : WOK w) (hv : m.Values.length ≤ lim) (hu : ∀ x ∈ m.Body, U8 x) : f_compare_Learn w m = some (learnS w m) := by
  unfold f_compare_Learn learnS
  rw [wcheck_eq hw.lv hw.p hw.f]
  simp only [Option.bind_some]
  by_cases h1 : wchkS w = 0
  · rw [if_neg (show ¬ ((!decide (wchkS w = 0)) = true) by simp [h1]), if_neg (show ¬ (wchkS w ≠ 0) by simp [h1])]
    obtain ⟨h2, h3, h4⟩ := check_good h1
    obtain ⟨_, _, _, _, _, g6, g7⟩ := good_levels h2
    rw [copied_eq (by omega) (fun l hl => by have := g7 l hl; omega)]
    simp only [Option.bind_some]
    rw [show (⟨w.Tree, w.Pending, w.Level, w.Found, w.Sent, w.Done⟩ : api_Walk) = w from rfl, request_eq hw.pl]
    simp only [Option.bind_some]
    rcases Bool.eq_false_or_eq_true w.Done with hd | hd
    · simp only [hd, if_true]; rfl
    · simp only [hd, Bool.false_eq_true, if_false]
      have ho := Open.of h1 hd
      by_cases h5 : m.Kind = 14
      · rw [if_neg (show ¬ ((!decide (m.Kind = 14)) = true) by simp [h5]), if_neg (show ¬ (m.Kind ≠ 14) by simp [h5])]
        rw [eqInt hv]
        simp only [Option.bind_some]
        have e1 : (if (!decide (m.Number = (requestS w).Number)) = true then some true else some (!decide (m.Values = (requestS w).Values))) = some (decide (m.Number ≠ w.Level ∨ m.Values ≠ valuesS w)) := by
          rw [show (requestS w).Number = w.Level from rfl, show (requestS w).Values = valuesS w from rfl]
          by_cases a : m.Number = w.Level <;> by_cases b : m.Values = valuesS w <;> simp [a, b]
        rw [e1]
        simp only [Option.bind_some]
        by_cases h6 : m.Number ≠ w.Level ∨ m.Values ≠ valuesS w
        · rw [if_pos (show decide (m.Number ≠ w.Level ∨ m.Values ≠ valuesS w) = true by simpa using h6), if_pos h6]; rfl
        · rw [if_neg (show ¬ (decide (m.Number ≠ w.Level ∨ m.Values ≠ valuesS w) = true) by simpa using h6), if_neg h6, count_eq ho.sep]
          simp only [Option.bind_some]
          have hnl := sep_nodes ho.sep
          rw [w64 (n := 8 * ((nodesS w.Pending).length : Int)) (by omega) (by omega)]
          by_cases h7 : m.Body.length = 8 * (nodesS w.Pending).length
          · rw [if_neg (show ¬ ((!decide ((m.Body.length : Int) = 8 * ((nodesS w.Pending).length : Int))) = true) by simp; omega), if_neg (show ¬ (m.Body.length ≠ 8 * (nodesS w.Pending).length) by simp [h7])]
            rw [differing_eq ho.lv ho.sep.1 ho.nodes h7 (by omega) ⟨ho.sent.1, by have := ho.sent.2; omega⟩]
            simp only [Option.bind_some]
            have hr := ho.rise m
            have hll := ho.len
            rw [show differS (nodesS w.Pending) m.Body (levelS w) = stepD w m from rfl]
            unfold moveS
            by_cases h8 : w.Level = 0
            · rw [if_pos (by simpa using h8), if_pos h8]
              obtain ⟨q1, q2, q3, q4, _⟩ := good_levels h2
              rw [find_eq (w := { w with Sent := w.Sent + ((nodesS w.Pending).length : Int) }) hr.1 (by exact q3) (by exact q4) (by exact q2) (fun n hn => ho.leaf h8 (hr.2.1 n hn)) (by omega)]
              rfl
            · rw [if_neg (by simpa using h8), if_neg h8]
              by_cases h9 : stepD w m = []
              · rw [if_pos (by simp [h9]), if_pos h9]
                simp only [f_compare_walk_finish, Option.bind_some, Fl.then_go]
                rw [ho.found]; rfl
              · have h10 : (stepD w m).length ≠ 0 := fun e => h9 (List.length_eq_zero_iff.1 e)
                rw [if_neg (by simpa using h9), if_neg h9]
                have hl0 := ho.lv
                have hlb := ho.lb
                rw [descend_eq (w := { w with Sent := w.Sent + ((nodesS w.Pending).length : Int) }) (by show 1 ≤ w.Level; omega) (by show w.Level ≤ 1000000; omega) (ho.below h8).1 rfl (ho.below h8).2 hr.1 (fun n hn => by have := hr.2.1 n hn; omega)]
                simp only [Option.bind_some]
                have e2 : ({ w with Level := w.Level - 1, Pending := foldX (oneS (belowS (w.Tree.Levels.getD (w.Level - 1).toNat []).length (stepD w m))), Sent := w.Sent + ((nodesS w.Pending).length : Int) } : api_Walk) = downS w (stepD w m) := by
                  unfold downS sentD
                  rw [ho.found, hd]
                rw [e2, request_eq (by have := sep_short (below_sep ho m h8); omega)]
                rfl
          · rw [if_pos (show (!decide ((m.Body.length : Int) = 8 * ((nodesS w.Pending).length : Int))) = true by simp; omega), if_pos (show m.Body.length ≠ 8 * (nodesS w.Pending).length from h7)]; rfl
      · rw [if_pos (show (!decide (m.Kind = 14)) = true by simp [h5]), if_pos (show m.Kind ≠ 14 from h5)]; rfl
  · rw [if_pos (show (!decide (wchkS w = 0)) = true by simp [h1]), if_pos (show wchkS w ≠ 0 from h1)]; rfl
theorem refLearn_eq {w : api_Walk} {m : api_Message} (hw : WOK w) (hv : m.Values.length ≤ lim) (hu : ∀ x ∈ m.Body, U8 x) : f_ref44_Learn w m = some (learnS w m) := by
  unfold f_ref44_Learn learnS
  rw [refWcheck_eq hw.lv hw.p hw.f (by have := hw.pl; simp [lim]; omega) (by have := hw.fl; simp [lim]; omega)]
  simp only [Option.bind_some]
  by_cases h1 : wchkS w = 0
  · rw [if_neg (show ¬ ((!decide (wchkS w = 0)) = true) by simp [h1]), if_neg (show ¬ (wchkS w ≠ 0) by simp [h1])]
    obtain ⟨h2, h3, h4⟩ := check_good h1
    obtain ⟨_, _, _, _, _, g6, g7⟩ := good_levels h2
    rcases Bool.eq_false_or_eq_true w.Done with hd | hd
    · simp only [hd, if_true]; rfl
    · simp only [hd, Bool.false_eq_true, if_false]
      have ho := Open.of h1 hd
      by_cases h5 : m.Kind = 14
      · rw [if_neg (show ¬ ((!decide (m.Kind = 14)) = true) by simp [h5]), if_neg (show ¬ (m.Kind ≠ 14) by simp [h5])]
        rw [refRequest_eq hw.pl]
        simp only [Option.bind_some]
        rw [sameInts_eq hv]
        simp only [Option.bind_some]
        have e1 : (if (!decide (m.Number = (requestS w).Number)) = true then some true else some (!decide (m.Values = (requestS w).Values))) = some (decide (m.Number ≠ w.Level ∨ m.Values ≠ valuesS w)) := by
          rw [show (requestS w).Number = w.Level from rfl, show (requestS w).Values = valuesS w from rfl]
          by_cases a : m.Number = w.Level <;> by_cases b : m.Values = valuesS w <;> simp [a, b]
        rw [e1]
        simp only [Option.bind_some]
        by_cases h6 : m.Number ≠ w.Level ∨ m.Values ≠ valuesS w
        · rw [if_pos (show decide (m.Number ≠ w.Level ∨ m.Values ≠ valuesS w) = true by simpa using h6), if_pos h6]; rfl
        · rw [if_neg (show ¬ (decide (m.Number ≠ w.Level ∨ m.Values ≠ valuesS w) = true) by simpa using h6), if_neg h6, refNodes_eq ho.sep.1 (by have := sep_short ho.sep; omega)]
          simp only [Option.bind_some]
          have hnl := sep_nodes ho.sep
          rw [w64 (n := 8 * ((nodesS w.Pending).length : Int)) (by omega) (by omega)]
          by_cases h7 : m.Body.length = 8 * (nodesS w.Pending).length
          · rw [if_neg (show ¬ ((!decide ((m.Body.length : Int) = 8 * ((nodesS w.Pending).length : Int))) = true) by simp; omega), if_neg (show ¬ (m.Body.length ≠ 8 * (nodesS w.Pending).length) by simp [h7])]
            have hlm : levelS w ∈ w.Tree.Levels := by
              unfold levelS
              rw [List.getD_eq_getElem?_getD, List.getElem?_eq_getElem ho.lv.2]
              exact List.getElem_mem _
            rw [refDiffer_eq (level := levelS w) ho.lv rfl ho.nodes h7 (by omega) hu (fun x hx => hw.u _ hlm x hx)]
            simp only [Option.bind_some, Fl.then_go]
            have hr := ho.rise m
            have hll := ho.len
            rw [show differS (nodesS w.Pending) m.Body (levelS w) = stepD w m from rfl]
            have hse := ho.sent
            rw [w64 (n := w.Sent + ((nodesS w.Pending).length : Int)) (by omega) (by omega)]
            rw [show w.Sent + ((nodesS w.Pending).length : Int) = sentD w from rfl]
            unfold moveS
            by_cases h8 : w.Level = 0
            · have e8 : decide (w.Level = 0) = true := by simpa using h8
              simp only [e8, if_true, Option.bind_some]
              obtain ⟨q1, q2, q3, q4, _⟩ := good_levels h2
              rw [refExtents_eq hr.1 (by exact q3) (by exact q4) (by exact q2) (fun n hn => ho.leaf h8 (hr.2.1 n hn)) (by omega)]
              simp only [Option.bind_some, Fl.then_go, if_pos h8]
            · have e8 : decide (w.Level = 0) = false := by simpa using h8
              simp only [e8, Bool.false_eq_true, if_false, Option.bind_some, if_neg h8]
              by_cases h9 : stepD w m = []
              · have e9 : decide (((stepD w m).length : Int) = 0) = true := by simp [h9]
                simp only [e9, if_true, Option.bind_some, Fl.then_go, if_pos h9]
              · have h10 : (stepD w m).length ≠ 0 := fun e => h9 (List.length_eq_zero_iff.1 e)
                have e9 : decide (((stepD w m).length : Int) = 0) = false := by simpa using h9
                simp only [e9, Bool.false_eq_true, if_false, if_neg h9]
                have hl0 := ho.lv
                have hlb := ho.lb
                rw [refBelow_eq (L := w.Tree.Levels) (lv := w.Level) (by omega) (by omega) (ho.below h8).1 rfl (ho.below h8).2 hr.1 (fun n hn => by have := hr.2.1 n hn; omega) (by omega)]
                simp only [Option.bind_some, Fl.then_go]
                have hbb := below_bd (ho.below h8).2 (d := stepD w m) (fun n hn => by have := hr.2.1 n hn; omega)
                have hbr := below_rising (len := (w.Tree.Levels.getD (w.Level - 1).toNat []).length) hr.1
                have hbl := rising_len (lo := 0) (hi := 4096) hbr hbb (by omega)
                rw [refExts_eq hbr hbb (by omega)]
                simp only [Option.bind_some]
                rw [w64 (n := w.Level - 1) (by omega) (by omega)]
                rw [show (⟨w.Tree, foldX ((belowS (w.Tree.Levels.getD (w.Level - 1).toNat []).length (stepD w m)).map fun n => (n, 1)), w.Level - 1, [], sentD w, false⟩ : api_Walk) = downS w (stepD w m) from rfl]
                rw [refRequest_eq (by have := sep_short (below_sep ho m h8); omega)]
                rfl
          · rw [if_pos (show (!decide ((m.Body.length : Int) = 8 * ((nodesS w.Pending).length : Int))) = true by simp; omega), if_pos (show m.Body.length ≠ 8 * (nodesS w.Pending).length from h7)]; rfl
      · rw [if_pos (show (!decide (m.Kind = 14)) = true by simp [h5]), if_pos (show m.Kind ≠ 14 from h5)]; rfl
  · rw [if_pos (show (!decide (wchkS w = 0)) = true by simp [h1]), if_pos (show wchkS w ≠ 0 from h1)]; rfl
end Go.Proofs.Ytogflgcngfghpaa
end
section
set_option maxHeartbeats 1000000
set_option linter.unusedVariables false
set_option linter.unusedSimpArgs false
namespace Go.Proofs.Ytogflgcngfghpaa
open Go.J
theorem shp_zero_no : ∀ (L : List (List Int)), shp L 0 = false
  | [] => rfl
  | [a] => by simp [shp]
  | a :: b :: L => by
    simp only [shp]
    rw [show (0 + 1) / 2 = 0 from rfl, shp_zero_no (b :: L)]; simp
/-- The length of level i. -/
def lvLen (t : api_Tree) (i : Nat) : Nat := (t.Levels.getD i []).length
theorem shp_lv : ∀ (L : List (List Int)) (n k : Nat), shp L n = true → n ≤ 2 ^ k → ∀ i, i < L.length → i ≤ k ∧ (L.getD i []).length ≤ 2 ^ (k - i)
  | [], _, _, h, _, i, hi => by simp at hi
  | [l], n, k, h, hn, i, hi => by
    simp [shp] at h
    simp at hi; subst hi
    refine ⟨Nat.zero_le _, ?_⟩
    simp; omega
  | l :: m :: r, n, k, h, hn, i, hi => by
    have hs : shp (m :: r) ((n + 1) / 2) = true := by simp [shp] at h; exact h.2
    have hl : l.length = n ∧ n ≠ 1 := by simp [shp] at h; exact h.1
    have h0 : n ≠ 0 := fun e => by
      subst e
      rw [show (0 + 1) / 2 = 0 from rfl, shp_zero_no] at hs; cases hs
    cases k with
    | zero => simp at hn; omega
    | succ k =>
      have hn2 : (n + 1) / 2 ≤ 2 ^ k := by rw [Nat.pow_succ] at hn; omega
      cases i with
      | zero => exact ⟨Nat.zero_le _, by simp; omega⟩
      | succ i =>
        have := shp_lv (m :: r) ((n + 1) / 2) k hs hn2 i (by simpa using hi)
        refine ⟨by omega, ?_⟩
        rw [show k + 1 - (i + 1) = k - i by omega]
        simpa using this.2
theorem shp_same : ∀ (L M : List (List Int)) (n : Nat), shp L n = true → shp M n = true → L.length = M.length ∧ ∀ i, (L.getD i []).length = (M.getD i []).length
  | [], _, _, h, _ => by simp [shp] at h
  | _ :: _, [], _, _, h => by simp [shp] at h
  | [l], [m], n, h, h2 => by
    simp [shp] at h h2
    refine ⟨rfl, fun i => ?_⟩
    cases i <;> simp; omega
  | [l], m :: m2 :: M, n, h, h2 => by simp [shp] at h h2; omega
  | l :: l2 :: L, [m], n, h, h2 => by simp [shp] at h h2; omega
  | l :: l2 :: L, m :: m2 :: M, n, h, h2 => by
    simp only [shp, Bool.and_eq_true, beq_iff_eq] at h h2
    obtain ⟨e1, e2⟩ := shp_same (l2 :: L) (m2 :: M) ((n + 1) / 2) h.2 h2.2
    refine ⟨by simpa using e1, fun i => ?_⟩
    cases i with
    | zero => simp; omega
    | succ i => simpa using e2 i
theorem shp_half : ∀ (L : List (List Int)) (n : Nat), shp L n = true → ∀ i, i + 1 < L.length → (L.getD (i + 1) []).length = ((L.getD i []).length + 1) / 2 ∧ 2 ≤ (L.getD i []).length
  | [], _, h, i, hi => by simp at hi
  | [l], _, h, i, hi => by simp at hi
  | l :: m :: r, n, h, i, hi => by
    have hs : shp (m :: r) ((n + 1) / 2) = true := by simp [shp] at h; exact h.2
    have hl : l.length = n ∧ n ≠ 1 := by simp [shp] at h; exact h.1
    cases i with
    | zero =>
      have := shp_head0 hs
      have h0 : n ≠ 0 := fun e => by
        subst e
        rw [show (0 + 1) / 2 = 0 from rfl, shp_zero_no] at hs; cases hs
      simp at this ⊢
      omega
    | succ i =>
      have := shp_half (m :: r) ((n + 1) / 2) hs i (by simpa using hi)
      simpa using this
theorem shp_top : ∀ (L : List (List Int)) (n : Nat), shp L n = true → 1 ≤ L.length ∧ (L.getD (L.length - 1) []).length = 1
  | [], _, h => by simp [shp] at h
  | [l], n, h => by simp [shp] at h; simp; omega
  | l :: m :: r, n, h => by
    have hs : shp (m :: r) ((n + 1) / 2) = true := by simp [shp] at h; exact h.2
    have := shp_top (m :: r) ((n + 1) / 2) hs
    refine ⟨by simp, ?_⟩
    simpa using this.2
theorem check_of_chk {size : Int} : ∀ {l : List api_Extent} {nx : Int}, Sep l → (∀ e ∈ l, nx ≤ e.Start) → (∀ e ∈ l, e.Start + e.Count ≤ size) → chkE size l nx = 0
  | [], _, _, _, _ => rfl
  | e :: l, nx, h, hn, hs => by
    have he := h.1 e (by simp)
    have h1 := hn e (by simp)
    have h2 := hs e (by simp)
    rw [chkE, if_neg (by omega), if_neg (by omega), if_neg (by omega)]
    exact check_of_chk h.tail (fun x hx => by have := (List.pairwise_cons.1 h.2).1 x hx; omega) (fun x hx => hs x (by simp [hx]))
theorem check_of_sep {l : List api_Extent} {size : Int} (h : Sep l) (h0 : 0 ≤ size) (h1 : size ≤ 4096) (hs : ∀ e ∈ l, e.Start + e.Count ≤ size) : checkE l size = 0 := by
  unfold checkE
  rw [if_neg (by omega)]
  exact check_of_chk h (fun e he => (h.1 e he).2.1) hs
theorem ends_of_nodes {l : List api_Extent} {len : Nat} (h : Sep l) (hn : ∀ n ∈ nodesS l, 0 ≤ n ∧ n.toNat < len) : ∀ e ∈ l, e.Start + e.Count ≤ (len : Int) := fun e he => by
  have h1 := h.1 e he
  have : e.Start + ((e.Count.toNat - 1 : Nat) : Int) ∈ nodesS l := List.mem_flatMap.2 ⟨e, he, List.mem_map.2 ⟨e.Count.toNat - 1, List.mem_range.2 (by omega), rfl⟩⟩
  have := hn _ this
  omega
theorem nodes_mem {l : List api_Extent} {n : Int} : n ∈ nodesS l ↔ Cov l n := by
  constructor
  · intro hn
    obtain ⟨e, he, hn⟩ := List.mem_flatMap.1 hn
    obtain ⟨k, hk, rfl⟩ := List.mem_map.1 hn
    have hk := List.mem_range.1 hk
    exact ⟨e, he, by omega, by omega, by omega⟩
  · rintro ⟨e, he, h0, h1, h2⟩
    refine List.mem_flatMap.2 ⟨e, he, List.mem_map.2 ⟨(n - e.Start).toNat, List.mem_range.2 (by omega), ?_⟩⟩
    omega
/-- Two rising lists of the same nodes are the same. -/
theorem rising_eq : ∀ {l m : List Int}, Rising l → Rising m → (∀ x, x ∈ l ↔ x ∈ m) → l = m
  | [], [], _, _, _ => rfl
  | [], b :: m, _, _, h => by have := (h b).2 (by simp); simp at this
  | a :: l, [], _, _, h => by have := (h a).1 (by simp); simp at this
  | a :: l, b :: m, hl, hm, h => by
    have h1 := List.pairwise_cons.1 hl
    have h2 := List.pairwise_cons.1 hm
    have e : a = b := by
      have x1 : a = b ∨ a ∈ m := by simpa using (h a).1 (by simp)
      have x2 : b = a ∨ b ∈ l := by simpa using (h b).2 (by simp)
      rcases x1 with x1 | x1
      · exact x1
      · rcases x2 with x2 | x2
        · exact x2.symm
        · have := h2.1 a x1
          have := h1.1 b x2
          omega
    subst e
    congr 1
    refine rising_eq h1.2 h2.2 fun x => ?_
    constructor
    · intro hx
      have y : x = a ∨ x ∈ m := by simpa using (h x).1 (by simp [hx])
      rcases y with y | y
      · have := h1.1 x hx; omega
      · exact y
    · intro hx
      have y : x = a ∨ x ∈ l := by simpa using (h x).2 (by simp [hx])
      rcases y with y | y
      · have := h2.1 x hx; omega
      · exact y
theorem foldX_nodes {l : List Int} (h : Rising l) (hb : ∀ n ∈ l, 0 ≤ n ∧ n < 4096) : nodesS (foldX (oneS l)) = l := by
  have hc : Chain (oneS l) := one_chain h hb
  refine rising_eq (nodes_rising (foldX_sep hc)) h fun x => ?_
  rw [nodes_mem, foldX_cov hc]
  constructor
  · rintro ⟨p, hp, h1, h2⟩
    obtain ⟨n, hn, rfl⟩ := List.mem_map.1 hp
    simp only at h1 h2
    rw [show x = n by omega]; exact hn
  · intro hx
    exact ⟨(x, 1), List.mem_map.2 ⟨x, hx, rfl⟩, by simp only; omega, by simp only; omega⟩
end Go.Proofs.Ytogflgcngfghpaa
end

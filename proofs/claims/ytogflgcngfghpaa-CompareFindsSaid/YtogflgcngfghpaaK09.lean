/- A part of the proof: function 27 No condition. -/
import Derived.Test.YtogflgcngfghpaaK08
section
set_option maxHeartbeats 4000000
set_option linter.unusedVariables false
set_option linter.unusedSimpArgs false
namespace Go.Proofs.Ytogflgcngfghpaa
open Go.J
def f_compare_Begin (a0 : api_Tree) : Option (api_Walk × List api_Message × Int) :=
 (f_hashtree_Check a0).bind fun x2 => if (!decide (x2 = 0)) = true then some ((⟨(⟨0, 0, []⟩ : api_Tree), [], 0, [], 0, false⟩ : api_Walk), [], x2) else (f_compare_copied a0).bind fun x4 => (f_compare_walk_request (⟨(⟨x4, [(⟨0, 1⟩ : api_Extent)], IntKind.i64.wrap ((a0.Levels.length : Int) - 1), [], 0, false⟩ : api_Walk)⟩ : compare_walk)).bind fun x6 => some ((⟨x4, [(⟨0, 1⟩ : api_Extent)], IntKind.i64.wrap ((a0.Levels.length : Int) - 1), [], 0, false⟩ : api_Walk), [x6], 0)
theorem c_compare_Begin {a0 : api_Tree} {r : api_Walk × List api_Message × Int} (h : f_compare_Begin a0 = some r) : Ct Try.prog 27 [r_api_Tree.at a0] [] (fun _ : Unit => Pr.tup [r_api_Walk.at r.1, (Rep.sl r_api_Message 8).at r.2.1, (Rep.int .i64).at r.2.2]) (fun _ => []) := by
 refine Ct.mk Try.func27 rfl Try.ntmps27 (by simp) fun I R => ?_
 refine J.drop0 ?_
 unfold f_compare_Begin at h
 refine J_seq ?_
 refine J_region ?_
 refine JLe0 (T_box (ρ := r_api_Tree) (.mk rfl)) rfl .none ?_
 refine JLa (T_alloc z41 lay_api_Walk) rfl .none fun b1 => ?_
 refine JLp (T_assign rfl) rfl (nofun) .none ?_
 refine JLp (T_assign rfl) rfl (nofun) .none ?_
 refine JL_nil ?_
 refine KJ_nrm_then (KJ_J ?_)
 refine J_seq ?_
 refine J_seq ?_
 refine J_region ?_
 refine JLp (T_load ty24 rfl) rfl (nofun) .none ?_
 replace h := bnd h; obtain ⟨x2, hx2, h⟩ := h
 refine JLe0 (T_call ⟨_, Try.func32, rfl, rfl⟩ (c_hashtree_Check hx2) ⟨(.mk rfl), trivial⟩) rfl .none ?_
 refine JLp (T_assign rfl) rfl (nofun) .none ?_
 refine JL_nil ?_
 refine KJ_nrm_then (KJ_J ?_)
 refine J_seq ?_
 refine J_region ?_
 refine JLp (T_move rfl) rfl (nofun) .none ?_
 refine JLp (T_neq rfl rfl) rfl (nofun) .none ?_
 refine JL_nil ?_
 refine KJ_nrm_then (KJ_J ?_)
 refine J_test rfl (fun hq3 => ?_) (fun hq3 => ?_)
 ·replace h := ift hq3 h
  refine J_seq ?_
  refine J_region ?_
  refine JLp (T_build (s' := (⟨(⟨0, 0, []⟩ : api_Tree), [], 0, [], 0, false⟩ : api_Walk)) bd41 z41 lay_api_Walk .nil) rfl (nofun) .none ?_
  refine JLp (T_move rfl) rfl (nofun) .none ?_
  refine JLn1 (T_store ty41 rfl (.mk rfl) (SetF.self lay_api_Walk)) .none ?_
  refine JLp (T_assign rfl) rfl (nofun) .none ?_
  refine JLp (T_assign rfl) rfl (nofun) .none ?_
  refine JL_nil ?_
  refine KJ_nrm_then (KJ_J ?_)
  refine J_ret ?_
  refine KJ_ret_then ?_
  obtain rfl := inj h
  exact KJ_retnc () [Ent.box b1 r_api_Walk (⟨(⟨0, 0, []⟩ : api_Tree), [], 0, [], 0, false⟩ : api_Walk)] rfl Try.results27 (.cell ty41 rfl (by simp) (.tmp (.nilc rfl) (.tmp (.mk rfl) Rv.nil))) rfl (by simp) rfl
 ·replace h := iff_ hq3 h
  refine J_skip ?_
  refine KJ_nrm_then (KJ_J ?_)
  refine J_seq ?_
  replace h := bnd h; obtain ⟨x4, hx4, h⟩ := h
  refine J_drawR (Ks := []) rfl (by kernel_rfl) fun K hK => ?_
  refine DR.p (.base (t := 1) rfl .nil) (T_load ty24 rfl) .none rfl rfl (nofun) ?_
  refine DR.e (.dep 0 0 rfl rfl rfl .nil) (T_call ⟨_, Try.func43, rfl, rfl⟩ (c_compare_copied hx4) ⟨(.mk rfl), trivial⟩) .none rfl rfl ?_
  refine DR.p (.base (t := 1) rfl .nil) (T_faddri fo24_2 rfl hf_api_Tree_Levels) .none rfl rfl (nofun) ?_
  refine DR.p (.dep 2 0 rfl rfl rfl .nil) (T_load ty22 rfl) .none rfl rfl (nofun) ?_
  refine DR.p (.dep 3 0 rfl rfl rfl .nil) (T_len (ρ := (Rep.sl (Rep.int .u64) 1)) sl22 (.mk rfl)) .none rfl rfl (nofun) ?_
  refine DR.p (.dep 4 0 rfl rfl rfl .nil) (T_sub rfl rfl) .none rfl rfl (nofun) ?_
  refine DR.p .nil (T_build (s' := (⟨0, 1⟩ : api_Extent)) bd62 z62 lay_api_Extent (.cons (π := (Rep.int .i64)) (.mk rfl) rfl (Lay.int _) sf_api_Extent_Start (.cons (π := (Rep.int .i64)) (.mk rfl) rfl (Lay.int _) sf_api_Extent_Count .nil))) .none rfl rfl (nofun) ?_
  refine DR.e (.dep 6 0 rfl rfl rfl .nil) (T_bslice (ρ := r_api_Extent) sl39 lay_api_Extent (.cons (.mk rfl) .nil) rfl (by decide)) .none rfl rfl ?_
  refine DR.tail (by kernel_rfl) (.refl _) rfl ?_
  simp only [List.reverse_cons, List.reverse_nil, List.nil_append, List.cons_append, DT]
  refine JLp (T_build (s' := (⟨x4, [(⟨0, 1⟩ : api_Extent)], IntKind.i64.wrap ((a0.Levels.length : Int) - 1), [], 0, false⟩ : api_Walk)) bd41 z41 lay_api_Walk (.cons (π := r_api_Tree) (.mk rfl) rfl lay_api_Tree sf_api_Walk_Tree (.cons (π := (Rep.int .i64)) (.mk rfl) rfl (Lay.int _) sf_api_Walk_Level (.cons (π := (Rep.sl r_api_Extent 2)) (.mk rfl) rfl (Lay.sl _ _) sf_api_Walk_Pending .nil)))) rfl (nofun) .none ?_
  refine JLp (T_build (s' := (⟨(⟨x4, [(⟨0, 1⟩ : api_Extent)], IntKind.i64.wrap ((a0.Levels.length : Int) - 1), [], 0, false⟩ : api_Walk)⟩ : compare_walk)) bd98 z98 lay_compare_walk (.cons (π := r_api_Walk) (.mk rfl) rfl lay_api_Walk sf_compare_walk_Walk .nil)) rfl (nofun) .none ?_
  refine JLa (T_boxm (.mk rfl) lay_compare_walk) rfl .none fun b5 => ?_
  refine JLp (T_assign rfl) rfl (nofun) .none ?_
  refine JL_nil (KJ_hid hK ?_)
  refine KJ_nrm_then (KJ_J ?_)
  refine J_seq ?_
  refine J.perm F1 ?_
  replace h := bnd h; obtain ⟨x6, hx6, h⟩ := h
  refine J_drawR (Ks := [Ent.box b1 r_api_Walk (⟨(⟨0, 0, []⟩ : api_Tree), [], 0, [], 0, false⟩ : api_Walk)]) rfl (by kernel_rfl) fun K hK => ?_
  refine DR.p (.base (t := 6) rfl .nil) (T_move rfl) .none rfl rfl (nofun) ?_
  refine DR.p (.dep 0 0 rfl rfl rfl .nil) (T_nilchk rfl) .none rfl rfl (nofun) ?_
  refine DR.p (.dep 1 0 rfl rfl rfl .nil) (T_faddr fo98_0 rfl) .none rfl rfl (nofun) ?_
  refine DR.p (.dep 2 0 rfl rfl rfl .nil) (T_loadb ty41 rfl hf_compare_walk_Walk) .none rfl rfl B0 ?_
  refine DR.p (.base (t := 6) rfl .nil) (T_move rfl) .none rfl rfl (nofun) ?_
  refine DR.b (.dep 4 0 rfl rfl rfl .nil) (T_call ⟨_, Try.func44, rfl, rfl⟩ (c_compare_walk_request hx6) ⟨.mk rfl, trivial⟩) .none rfl rfl B0 ?_
  refine DR.e (.dep 5 0 rfl rfl rfl .nil) (T_bslice (ρ := r_api_Message) sl43 lay_api_Message (.cons (.mk rfl) .nil) rfl (by decide)) .none rfl rfl ?_
  refine DR.w (κ := [Ent.box b1 r_api_Walk (⟨(⟨0, 0, []⟩ : api_Tree), [], 0, [], 0, false⟩ : api_Walk)]) (ε := [Ent.box b1 r_api_Walk (⟨x4, [(⟨0, 1⟩ : api_Extent)], IntKind.i64.wrap ((a0.Levels.length : Int) - 1), [], 0, false⟩ : api_Walk)]) (.base (t := 2) rfl (.dep 3 3 rfl rfl rfl .nil)) (T_store ty41 rfl (.mk rfl) (SetF.self lay_api_Walk)) .none ?_
  refine DR.tail (by kernel_rfl) (.refl _) rfl ?_
  simp only [List.reverse_cons, List.reverse_nil, List.nil_append, List.cons_append, DT]
  refine JLp (T_assign rfl) rfl (nofun) .none ?_
  refine JLp (T_assign rfl) rfl (nofun) .none ?_
  refine JL_nil (KJ_hid hK ?_)
  refine KJ_nrm_then (KJ_J ?_)
  refine J_ret ?_
  obtain rfl := inj h
  exact KJ_retnc () [Ent.box b1 r_api_Walk (⟨x4, [(⟨0, 1⟩ : api_Extent)], IntKind.i64.wrap ((a0.Levels.length : Int) - 1), [], 0, false⟩ : api_Walk), Ent.box b5 r_compare_walk (⟨(⟨x4, [(⟨0, 1⟩ : api_Extent)], IntKind.i64.wrap ((a0.Levels.length : Int) - 1), [], 0, false⟩ : api_Walk)⟩ : compare_walk)] rfl Try.results27 (.cell ty41 rfl (by simp) (.tmp (.mk rfl) (.tmp (.mk rfl) Rv.nil))) rfl (by simp) rfl
end Go.Proofs.Ytogflgcngfghpaa
end
section
set_option maxHeartbeats 4000000
set_option linter.unusedVariables false
set_option linter.unusedSimpArgs false
namespace Go.Proofs.Ytogflgcngfghpaa
open Go.J
def f_compare_Run (a0 : api_Tree) (a1 : api_Tree) : Option (List api_Extent × Int × Int) :=
 (f_compare_Begin a0).bind fun x1 => ((if (decide (x1.2.2 = 0)) = true then (f_hashtree_Check a1).bind fun x8 => some (Fl.go x8) else some (Fl.go x1.2.2) : Option (Fl (Int) (List api_Extent × Int × Int)))).bind fun o4 => o4.then fun s6 => (if (decide (s6 = 0)) = true then (if (!decide (a0.Size = a1.Size)) = true then some true else some (!decide (a0.Leaf = a1.Leaf))).bind fun c11 => some c11 else some false).bind fun c9 => ((if c9 = true then some (Fl.go 22) else some (Fl.go s6) : Option (Fl (Int) (List api_Extent × Int × Int)))).bind fun o14 => o14.then fun s16 => (whileF (σ := List api_Message × Int × api_Walk) (ρ := List api_Extent × Int × Int) (fun s18 => (if (decide (s18.2.1 = 0)) = true then some (decide (0 < (s18.1.length : Int))) else some false).bind fun c25 => if c25 = true then (idx s18.1 0).bind fun x29 => (f_compare_Answer a1 x29).bind fun x30 => ((if (decide (x30.2 = 0)) = true then (f_compare_Learn s18.2.2 x30.1).bind fun x36 => some (Fl.go (x36.2.1, x36.2.2, x36.1)) else some (Fl.go (s18.1, x30.2, s18.2.2)) : Option (Fl (List api_Message × Int × api_Walk) (Rd (List api_Message × Int × api_Walk) (List api_Extent × Int × Int))))).bind fun o32 => o32.then fun s34 => some (Rd.next (s34.1, s34.2.1, s34.2.2)) else some (Rd.done (s18.1, s18.2.1, s18.2.2))) bigK (x1.2.1, s16, x1.1)).bind fun o20 => o20.then fun s18 => if (!decide (s18.2.1 = 0)) = true then some ([], 0, s18.2.1) else some (s18.2.2.Found, s18.2.2.Sent, 0)
theorem c_compare_Run {a0 : api_Tree} {a1 : api_Tree} {r : List api_Extent × Int × Int} (h : f_compare_Run a0 a1 = some r) : Ct Try.prog 21 [r_api_Tree.at a0, r_api_Tree.at a1] [] (fun _ : Unit => Pr.tup [(Rep.sl r_api_Extent 2).at r.1, (Rep.int .i64).at r.2.1, (Rep.int .i64).at r.2.2]) (fun _ => []) := by
 refine Ct.mk Try.func21 rfl Try.ntmps21 (by simp) fun I R => ?_
 refine J.drop0 ?_
 unfold f_compare_Run at h
 refine J_seq ?_
 refine J_region ?_
 refine JLe0 (T_box (ρ := r_api_Tree) (.mk rfl)) rfl .none ?_
 refine JLe0 (T_box (ρ := r_api_Tree) (.mk rfl)) rfl .none ?_
 refine JLp (T_assign rfl) rfl (nofun) .none ?_
 refine JLp (T_assign rfl) rfl (nofun) .none ?_
 refine JLp (T_assign rfl) rfl (nofun) .none ?_
 refine JL_nil ?_
 refine KJ_nrm_then (KJ_J ?_)
 refine J_seq ?_
 refine J_region ?_
 refine JLp (T_load ty24 rfl) rfl (nofun) .none ?_
 replace h := bnd h; obtain ⟨x1, hx1, h⟩ := h
 refine JLe0 (T_call ⟨_, Try.func27, rfl, rfl⟩ (c_compare_Begin hx1) ⟨(.mk rfl), trivial⟩) rfl .none ?_
 refine JLp (T_move rfl) rfl (nofun) .none ?_
 refine JLp (T_extract rfl rfl) rfl (nofun) .none ?_
 refine JLp (T_extract rfl rfl) rfl (nofun) .none ?_
 refine JLp (T_extract rfl rfl) rfl (nofun) .none ?_
 refine JLa (T_alloc z41 lay_api_Walk) rfl .none fun b2 => ?_
 refine JLn1 (T_store ty41 rfl (.mk rfl) (SetF.self lay_api_Walk)) .none ?_
 refine JLp (T_assign rfl) rfl (nofun) .none ?_
 refine JLp (T_assign rfl) rfl (nofun) .none ?_
 refine JL_nil ?_
 refine KJ_nrm_then (KJ_J ?_)
 refine J_seq ?_
 refine J_seq ?_
 refine J_region ?_
 refine JLp (T_move rfl) rfl (nofun) .none ?_
 refine JLp (T_eql rfl rfl) rfl (nofun) .none ?_
 refine JL_nil ?_
 refine KJ_nrm_then (KJ_J ?_)
 replace h := bnd h; obtain ⟨o4, ho5, h⟩ := h
 refine J_cuto o4 (fun (s6 : Int) (g7 : Unit) => [(2, (Rep.iptr r_api_Tree).at a0), (3, (Rep.iptr r_api_Tree).at a1), (7, Rep.ptr.at (b2, 0)), (8, (Rep.sl r_api_Message 8).at x1.2.1), (9, (Rep.int .i64).at s6)]) (fun s6 g7 => Ent.box b2 r_api_Walk x1.1 :: R) ?_ ?_
 ·refine J_test rfl (fun hq3 => ?_) (fun hq3 => ?_)
  ·replace ho5 := ift hq3 ho5
   refine J_region ?_
   refine JLp (T_load ty24 rfl) rfl (nofun) .none ?_
   replace ho5 := bnd ho5; obtain ⟨x8, hx8, ho5⟩ := ho5
   refine JLe0 (T_call ⟨_, Try.func32, rfl, rfl⟩ (c_hashtree_Check hx8) ⟨(.mk rfl), trivial⟩) rfl .none ?_
   refine JLp (T_assign rfl) rfl (nofun) .none ?_
   refine JL_nil ?_
   refine KJ_nrm_kq ?_
   exact KJ_ot x8 () (inj ho5) (.cons rfl (.cons rfl (.cons rfl (.cons rfl (.cons rfl (.nil _)))))) rfl
  ·replace ho5 := iff_ hq3 ho5
   refine J_skip ?_
   refine KJ_nrm_kq ?_
   exact KJ_ot x1.2.2 () (inj ho5) (.cons rfl (.cons rfl (.cons rfl (.cons rfl (.cons rfl (.nil _)))))) rfl
 ·intro s6 g7 hs
  subst hs
  replace h := thn h
  refine KJ_nrm_then (KJ_J ?_)
  refine J_seq ?_
  refine J_seq ?_
  refine J_region ?_
  refine JLp (T_move rfl) rfl (nofun) .none ?_
  refine JLp (T_eql rfl rfl) rfl (nofun) .none ?_
  refine JLp (T_move rfl) rfl (nofun) .none ?_
  replace h := bnd h; obtain ⟨c9, hc9, h⟩ := h
  refine JL_at 13 [(3, (Rep.iptr r_api_Tree).at a1), (7, Rep.ptr.at (b2, 0)), (8, (Rep.sl r_api_Message 8).at x1.2.1), (9, (Rep.int .i64).at s6), (36, Rep.bool.at c9)] (Ent.box b2 r_api_Walk x1.1 :: R) ?_ ?_
  ·rcases Bool.eq_false_or_eq_true (decide (s6 = 0)) with hq10 | hq10
   ·replace hc9 := ift hq10 hc9
    refine JLp (T_faddri fo24_0 rfl hf_api_Tree_Size) rfl (nofun) (.y rfl rfl hq10) ?_
    refine JLp (T_load ty3 rfl) rfl (nofun) (.y rfl rfl hq10) ?_
    refine JLp (T_faddri fo24_0 rfl hf_api_Tree_Size) rfl (nofun) (.y rfl rfl hq10) ?_
    refine JLp (T_load ty3 rfl) rfl (nofun) (.y rfl rfl hq10) ?_
    refine JLp (T_neq rfl rfl) rfl (nofun) (.y rfl rfl hq10) ?_
    refine JLp (T_move rfl) rfl (nofun) (.y rfl rfl hq10) ?_
    replace hc9 := bnd hc9; obtain ⟨c11, hc11, hc9⟩ := hc9
    refine JL_at 6 [(3, (Rep.iptr r_api_Tree).at a1), (7, Rep.ptr.at (b2, 0)), (8, (Rep.sl r_api_Message 8).at x1.2.1), (9, (Rep.int .i64).at s6), (23, Rep.bool.at (decide (s6 = 0))), (35, Rep.bool.at c11)] (Ent.box b2 r_api_Walk x1.1 :: R) ?_ ?_
    ·rcases Bool.eq_false_or_eq_true (!decide (a0.Size = a1.Size)) with hq12 | hq12
     ·replace hc11 := ift hq12 hc11
      obtain rfl := inj hc11
      refine JLs rfl rfl hq12 rfl ?_
      refine JLs rfl rfl hq12 rfl ?_
      refine JLs rfl rfl hq12 rfl ?_
      refine JLs rfl rfl hq12 rfl ?_
      refine JLs rfl rfl hq12 rfl ?_
      refine JLp (T_pickT rfl hq12 rfl) rfl (nofun) (.y rfl rfl hq10) ?_
      refine JL_nil ?_
      exact KJ.sub KJ_end (.cons rfl (.cons rfl (.cons rfl (.cons rfl (.cons rfl (.cons rfl (.nil _)))))))
     ·replace hc11 := iff_ hq12 hc11
      refine JLp (T_faddri fo24_1 rfl hf_api_Tree_Leaf) rfl (nofun) (.y rfl rfl hq12) ?_
      refine JLp (T_load ty3 rfl) rfl (nofun) (.y rfl rfl hq12) ?_
      refine JLp (T_faddri fo24_1 rfl hf_api_Tree_Leaf) rfl (nofun) (.y rfl rfl hq12) ?_
      refine JLp (T_load ty3 rfl) rfl (nofun) (.y rfl rfl hq12) ?_
      refine JLp (T_neq rfl rfl) rfl (nofun) (.y rfl rfl hq12) ?_
      obtain rfl := inj hc11
      refine JLp (T_pickF rfl hq12 rfl) rfl (nofun) (.y rfl rfl hq10) ?_
      refine JL_nil ?_
      exact KJ.sub KJ_end (.cons rfl (.cons rfl (.cons rfl (.cons rfl (.cons rfl (.cons rfl (.nil _)))))))
    obtain rfl := inj hc9
    refine JLp (T_pickT rfl hq10 rfl) rfl (nofun) .none ?_
    refine JL_nil ?_
    exact KJ.sub KJ_end (.cons rfl (.cons rfl (.cons rfl (.cons rfl (.cons rfl (.nil _))))))
   ·replace hc9 := iff_ hq10 hc9
    obtain rfl := inj hc9
    refine JLs rfl rfl hq10 rfl ?_
    refine JLs rfl rfl hq10 rfl ?_
    refine JLs rfl rfl hq10 rfl ?_
    refine JLs rfl rfl hq10 rfl ?_
    refine JLs rfl rfl hq10 rfl ?_
    refine JLs rfl rfl hq10 rfl ?_
    refine JLu rfl rfl rfl ?_
    refine JLu rfl rfl rfl ?_
    refine JLu rfl rfl rfl ?_
    refine JLu rfl rfl rfl ?_
    refine JLu rfl rfl rfl ?_
    refine JLs rfl rfl hq10 rfl ?_
    refine JLp (T_pickF rfl hq10 rfl) rfl (nofun) .none ?_
    refine JL_nil ?_
    exact KJ.sub KJ_end (.cons rfl (.cons rfl (.cons rfl (.cons rfl (.cons rfl (.nil _))))))
  refine JL_nil ?_
  refine KJ_nrm_then (KJ_J ?_)
  replace h := bnd h; obtain ⟨o14, ho15, h⟩ := h
  refine J_cuto o14 (fun (s16 : Int) (g17 : Unit) => [(3, (Rep.iptr r_api_Tree).at a1), (7, Rep.ptr.at (b2, 0)), (8, (Rep.sl r_api_Message 8).at x1.2.1), (9, (Rep.int .i64).at s16)]) (fun s16 g17 => Ent.box b2 r_api_Walk x1.1 :: R) ?_ ?_
  ·refine J_test rfl (fun hq13 => ?_) (fun hq13 => ?_)
   ·replace ho15 := ift hq13 ho15
    refine J_region ?_
    refine JLp (T_assign rfl) rfl (nofun) .none ?_
    refine JL_nil ?_
    refine KJ_nrm_kq ?_
    exact KJ_ot 22 () (inj ho15) (.cons rfl (.cons rfl (.cons rfl (.cons rfl (.nil _))))) rfl
   ·replace ho15 := iff_ hq13 ho15
    refine J_skip ?_
    refine KJ_nrm_kq ?_
    exact KJ_ot s6 () (inj ho15) (.cons rfl (.cons rfl (.cons rfl (.cons rfl (.nil _))))) rfl
  ·intro s16 g17 hs
   subst hs
   replace h := thn h
   refine KJ_nrm_then (KJ_J ?_)
   refine J_seq ?_
   replace h := bnd h; obtain ⟨o20, ho21, h⟩ := h
   refine J_cuto o20 (fun (s18 : List api_Message × Int × api_Walk) (g19 : Unit) => [(7, Rep.ptr.at (b2, 0)), (9, (Rep.int .i64).at s18.2.1)]) (fun s18 g19 => Ent.box b2 r_api_Walk s18.2.2 :: R) ?_ ?_
   ·refine J_block ?_
    refine J_while ho21 (fun (s18 : List api_Message × Int × api_Walk) (g19 : Unit) => [(3, (Rep.iptr r_api_Tree).at a1), (7, Rep.ptr.at (b2, 0)), (8, (Rep.sl r_api_Message 8).at s18.1), (9, (Rep.int .i64).at s18.2.1)]) (fun s18 g19 => Ent.box b2 r_api_Walk s18.2.2 :: R) () (.cons rfl (.cons rfl (.cons rfl (.cons rfl (.nil _))))) rfl ?_
    intro s18 g19 st24 hb22 hf23
    refine J_seq ?_
    refine J_seq ?_
    refine J_region ?_
    refine JLp (T_move rfl) rfl (nofun) .none ?_
    refine JLp (T_eql rfl rfl) rfl (nofun) .none ?_
    refine JLp (T_move rfl) rfl (nofun) .none ?_
    replace hb22 := bnd hb22; obtain ⟨c25, hc25, hb22⟩ := hb22
    refine JL_at 4 [(3, (Rep.iptr r_api_Tree).at a1), (7, Rep.ptr.at (b2, 0)), (8, (Rep.sl r_api_Message 8).at s18.1), (9, (Rep.int .i64).at s18.2.1), (43, Rep.bool.at c25)] (Ent.box b2 r_api_Walk s18.2.2 :: R) ?_ ?_
    ·rcases Bool.eq_false_or_eq_true (decide (s18.2.1 = 0)) with hq26 | hq26
     ·replace hc25 := ift hq26 hc25
      refine JLp (T_move rfl) rfl (nofun) (.y rfl rfl hq26) ?_
      refine JLp (T_len (ρ := r_api_Message) sl43 (.mk rfl)) rfl (nofun) (.y rfl rfl hq26) ?_
      refine JLp (T_gtr rfl rfl) rfl (nofun) (.y rfl rfl hq26) ?_
      obtain rfl := inj hc25
      refine JLp (T_pickT rfl hq26 rfl) rfl (nofun) .none ?_
      refine JL_nil ?_
      exact KJ.sub KJ_end (.cons rfl (.cons rfl (.cons rfl (.cons rfl (.cons rfl (.nil _))))))
     ·replace hc25 := iff_ hq26 hc25
      obtain rfl := inj hc25
      refine JLs rfl rfl hq26 rfl ?_
      refine JLs rfl rfl hq26 rfl ?_
      refine JLs rfl rfl hq26 rfl ?_
      refine JLp (T_pickF rfl hq26 rfl) rfl (nofun) .none ?_
      refine JL_nil ?_
      exact KJ.sub KJ_end (.cons rfl (.cons rfl (.cons rfl (.cons rfl (.cons rfl (.nil _))))))
    refine JL_nil ?_
    refine KJ_nrm_then (KJ_J ?_)
    refine J_test rfl (fun hq27 => ?_) (fun hq27 => ?_)
    ·replace hb22 := ift hq27 hb22
     refine J_skip ?_
     refine KJ_nrm_then (KJ_J ?_)
     refine J_block ?_
     refine J_seq ?_
     refine J_region ?_
     refine JLa (T_alloc z28 lay_api_Message) rfl .none fun b28 => ?_
     refine JL_nil ?_
     refine KJ_nrm_then (KJ_J ?_)
     refine J_seq ?_
     replace hb22 := bnd hb22; obtain ⟨x29, hx29, hb22⟩ := hb22
     replace hb22 := bnd hb22; obtain ⟨x30, hx30, hb22⟩ := hb22
     refine J_drawR (Ks := [Ent.box b28 r_api_Message (⟨0, 0, 0, 0, 0, 0, [], []⟩ : api_Message)]) rfl (by kernel_rfl) fun K hK => ?_
     refine DR.p (.base (t := 3) rfl .nil) (T_load ty24 rfl) .none rfl rfl (nofun) ?_
     refine DR.p (.base (t := 8) rfl .nil) (T_move rfl) .none rfl rfl (nofun) ?_
     refine DR.p (.dep 1 0 rfl rfl rfl .nil) (T_ix sl43 (.mk rfl) rfl hx29) .none rfl rfl (nofun) ?_
     refine DR.p (.dep 2 0 rfl rfl rfl .nil) (T_load ty28 rfl) .none rfl rfl (nofun) ?_
     refine DR.e (.dep 0 3 rfl rfl rfl (.dep 3 0 rfl rfl rfl .nil)) (T_call ⟨_, Try.func13, rfl, rfl⟩ (c_compare_Answer hx30) ⟨(.mk rfl), ⟨(.mk rfl), trivial⟩⟩) .none rfl rfl ?_
     refine DR.p (.dep 4 0 rfl rfl rfl .nil) (T_move rfl) .none rfl rfl (nofun) ?_
     refine DR.p (.dep 5 0 rfl rfl rfl .nil) (T_extract rfl rfl) .none rfl rfl (nofun) ?_
     refine DR.p (.dep 5 1 rfl rfl rfl .nil) (T_extract rfl rfl) .none rfl rfl (nofun) ?_
     refine DR.w (κ := [Ent.box b28 r_api_Message (⟨0, 0, 0, 0, 0, 0, [], []⟩ : api_Message)]) (ε := [Ent.box b28 r_api_Message x30.1]) (.base (t := 10) rfl (.dep 6 1 rfl rfl rfl .nil)) (T_store ty28 rfl (.mk rfl) (SetF.self lay_api_Message)) .none ?_
     refine DR.tail (by kernel_rfl) (.refl _) rfl ?_
     simp only [List.reverse_cons, List.reverse_nil, List.nil_append, List.cons_append, DT]
     refine JLp (T_assign rfl) rfl (nofun) .none ?_
     refine JL_nil (KJ_hid hK ?_)
     refine KJ_nrm_then (KJ_J ?_)
     refine J_seq ?_
     refine J_region ?_
     refine JLp (T_move rfl) rfl (nofun) .none ?_
     refine JLp (T_eql rfl rfl) rfl (nofun) .none ?_
     refine JL_nil ?_
     refine KJ_nrm_then (KJ_J ?_)
     replace hb22 := bnd hb22; obtain ⟨o32, ho33, hb22⟩ := hb22
     refine J_cuto o32 (fun (s34 : List api_Message × Int × api_Walk) (g35 : Unit) => [(3, (Rep.iptr r_api_Tree).at a1), (7, Rep.ptr.at (b2, 0)), (8, (Rep.sl r_api_Message 8).at s34.1), (9, (Rep.int .i64).at s34.2.1)]) (fun s34 g35 => Ent.box b28 r_api_Message x30.1 :: Ent.box b2 r_api_Walk s34.2.2 :: R) ?_ ?_
     ·refine J_test rfl (fun hq31 => ?_) (fun hq31 => ?_)
      ·replace ho33 := ift hq31 ho33
       refine J_region ?_
       refine JLp (T_loadw ty41 rfl) rfl B1 .none ?_
       refine JLp (T_loadw ty28 rfl) rfl B0 .none ?_
       replace ho33 := bnd ho33; obtain ⟨x36, hx36, ho33⟩ := ho33
       refine JLe0 (T_call ⟨_, Try.func17, rfl, rfl⟩ (c_compare_Learn hx36) ⟨(.mk rfl), ⟨(.mk rfl), trivial⟩⟩) rfl .none ?_
       refine JLp (T_move rfl) rfl (nofun) .none ?_
       refine JLp (T_extract rfl rfl) rfl (nofun) .none ?_
       refine JLp (T_extract rfl rfl) rfl (nofun) .none ?_
       refine JLp (T_extract rfl rfl) rfl (nofun) .none ?_
       refine JL.perm F1 ?_
       refine JLn1 (T_store ty41 rfl (.mk rfl) (SetF.self lay_api_Walk)) .none ?_
       refine JLp (T_assign rfl) rfl (nofun) .none ?_
       refine JLp (T_assign rfl) rfl (nofun) .none ?_
       refine JL_nil ?_
       refine KJ_nrm_kq ?_
       refine KJ.perm F1 ?_
       exact KJ_ot (x36.2.1, x36.2.2, x36.1) () (inj ho33) (.cons rfl (.cons rfl (.cons rfl (.cons rfl (.nil _))))) rfl
      ·replace ho33 := iff_ hq31 ho33
       refine J_skip ?_
       refine KJ_nrm_kq ?_
       exact KJ_ot (s18.1, x30.2, s18.2.2) () (inj ho33) (.cons rfl (.cons rfl (.cons rfl (.cons rfl (.nil _))))) rfl
     ·intro s34 g35 hs
      subst hs
      replace hb22 := thn hb22
      refine KJ_nrm_blk ?_
      refine KJ_nrm_then ?_
      refine KJ.drop1 ?_
      exact KJ_nx (s34.1, s34.2.1, s34.2.2) () (inj hb22) (.cons rfl (.cons rfl (.cons rfl (.cons rfl (.nil _))))) rfl
    ·replace hb22 := iff_ hq27 hb22
     refine J_exit ?_
     refine KJ_exit_then ?_
     refine KJ_exit_then ?_
     refine KJ_exit_here ?_
     refine KJ_nrm_kq ?_
     obtain rfl := inj hb22
     exact KJ_ot (s18.1, s18.2.1, s18.2.2) () hf23 (.cons rfl (.cons rfl (.nil _))) rfl
   ·intro s18 g19 hs
    subst hs
    replace h := thn h
    refine KJ_nrm_then (KJ_J ?_)
    refine J_seq ?_
    refine J_seq ?_
    refine J_region ?_
    refine JLp (T_move rfl) rfl (nofun) .none ?_
    refine JLp (T_neq rfl rfl) rfl (nofun) .none ?_
    refine JL_nil ?_
    refine KJ_nrm_then (KJ_J ?_)
    refine J_test rfl (fun hq37 => ?_) (fun hq37 => ?_)
    ·replace h := ift hq37 h
     refine J_seq ?_
     refine J_region ?_
     refine JLp (T_move rfl) rfl (nofun) .none ?_
     refine JLp (T_assign rfl) rfl (nofun) .none ?_
     refine JLp (T_assign rfl) rfl (nofun) .none ?_
     refine JLp (T_assign rfl) rfl (nofun) .none ?_
     refine JL_nil ?_
     refine KJ_nrm_then (KJ_J ?_)
     refine J_ret ?_
     refine KJ_ret_then ?_
     obtain rfl := inj h
     refine KJ.drop1 ?_
     exact KJ_retn' Try.results21 (.tmp (.nilc rfl) (.tmp (.mk rfl) (.tmp (.mk rfl) Rv.nil))) rfl (by simp) rfl
    ·replace h := iff_ hq37 h
     refine J_skip ?_
     refine KJ_nrm_then (KJ_J ?_)
     refine J_seq ?_
     refine J_drawR (Ks := []) rfl (by kernel_rfl) fun K hK => ?_
     refine DR.p (.base (t := 7) rfl .nil) (T_faddr fo41_3 rfl) .none rfl rfl (nofun) ?_
     refine DR.p (.dep 0 0 rfl rfl rfl .nil) (T_loadb ty39 rfl hf_api_Walk_Found) .none rfl rfl B0 ?_
     refine DR.p (.base (t := 7) rfl .nil) (T_faddr fo41_4 rfl) .none rfl rfl (nofun) ?_
     refine DR.p (.dep 2 0 rfl rfl rfl .nil) (T_loadb ty3 rfl hf_api_Walk_Sent) .none rfl rfl B0 ?_
     refine DR.p (.dep 1 2 rfl rfl rfl .nil) (T_assign rfl) .none rfl rfl (nofun) ?_
     refine DR.tail (by kernel_rfl) (.refl _) rfl ?_
     simp only [List.reverse_cons, List.reverse_nil, List.nil_append, List.cons_append, DT]
     refine JLp (T_assign rfl) rfl (nofun) .none ?_
     refine JLp (T_assign rfl) rfl (nofun) .none ?_
     refine JL_nil (KJ_hid hK ?_)
     refine KJ_nrm_then (KJ_J ?_)
     refine J_ret ?_
     obtain rfl := inj h
     refine KJ.drop1 ?_
     exact KJ_retn' Try.results21 (.tmp (.mk rfl) (.tmp (.mk rfl) (.tmp (.mk rfl) Rv.nil))) rfl (by simp) rfl
end Go.Proofs.Ytogflgcngfghpaa
end
section
set_option maxHeartbeats 1000000
set_option linter.unusedVariables false
set_option linter.unusedSimpArgs false
namespace Go.Proofs.Ytogflgcngfghpaa
open Go.J
theorem Open.check {w : api_Walk} (h : Open w) : wchkS w = 0 := by
  unfold wchkS
  have h1 : rngS w = false := by
    unfold rngS
    have a := h.lv
    have b := h.sent
    rw [h.done]
    simp; omega
  have h2 : formS w = true := by
    unfold formS
    have hl := h.len
    have hp : w.Pending.length ≠ 0 := fun e => h.pend (List.length_eq_zero_iff.1 e)
    have hc := check_of_sep h.sep (size := ((levelS w).length : Int)) (by omega) (by omega) (ends_of_nodes h.sep h.nodes)
    rw [h.done, h.found, hc]
    simp
    exact h.pend
  rw [if_pos h.good, if_neg (by simp [h1]), if_pos h2]
theorem flat2 : ∀ (l : List api_Extent) (k : Nat) (hk : k < l.length), (l.flatMap fun e => [e.Start, e.Count]).getD (2 * k) 0 = l[k].Start ∧ (l.flatMap fun e => [e.Start, e.Count]).getD (2 * k + 1) 0 = l[k].Count
  | e :: l, 0, _ => by simp
  | e :: l, k + 1, hk => by
    have := flat2 l k (by simpa using hk)
    have e1 : 2 * (k + 1) = 2 * k + 1 + 1 := by omega
    rw [e1]
    simpa [List.flatMap_cons] using this
theorem pairs_values (w : api_Walk) : pairsS (valuesS w) = w.Pending := by
  have hlen := values_len w
  refine List.ext_getElem (by rw [pairs_len]; omega) fun k h1 h2 => ?_
  have := flat2 w.Pending k h2
  simp only [pairsS, List.getElem_map, List.getElem_range]
  have e1 : (valuesS w).getD (2 + 2 * k) 0 = w.Pending[k].Start := by
    rw [← this.1]
    unfold valuesS
    rw [List.getD_eq_getElem?_getD, List.getElem?_append_right (by simp <;> omega), ← List.getD_eq_getElem?_getD]
    congr 1
    simp
  have e2 : (valuesS w).getD (3 + 2 * k) 0 = w.Pending[k].Count := by
    rw [← this.2]
    unfold valuesS
    rw [List.getD_eq_getElem?_getD, List.getElem?_append_right (by simp <;> omega), ← List.getD_eq_getElem?_getD]
    congr 1
    simp; omega
  rw [e1, e2]
/-- The answer to an open walk's request out of another tree of the same shape. -/
def bodyS (t2 : api_Tree) (w : api_Walk) : List Int := (nodesS w.Pending).flatMap fun n => bytesS ((t2.Levels.getD w.Level.toNat []).getD n.toNat 0)
def ansM (t2 : api_Tree) (w : api_Walk) : api_Message := ⟨14, 0, 0, w.Level, 0, 0, valuesS w, bodyS t2 w⟩
structure Twin (t1 t2 : api_Tree) : Prop where
  g1 : checkS t1 = 0
  g2 : checkS t2 = 0
  s : t1.Size = t2.Size
  l : t1.Leaf = t2.Leaf
theorem Twin.shape {t1 t2 : api_Tree} (h : Twin t1 t2) : t1.Levels.length = t2.Levels.length ∧ ∀ i, lvLen t1 i = lvLen t2 i := by
  obtain ⟨_, _, _, _, s1, _⟩ := good_levels h.g1
  obtain ⟨_, _, _, _, s2, _⟩ := good_levels h.g2
  rw [← h.s, ← h.l] at s2
  exact shp_same _ _ _ s1 s2
theorem ans_run {t2 : api_Tree} {w : api_Walk} (h : Open w) (ht : Twin w.Tree t2) : ansS t2 (requestS w) = (ansM t2 w, 0) := by
  obtain ⟨e1, e2⟩ := ht.shape
  have hl := h.lv
  have hlen := values_len w
  unfold ansS
  have hv0 : (requestS w).Values.getD 0 0 = w.Tree.Size := rfl
  have hv1 : (requestS w).Values.getD 1 0 = w.Tree.Leaf := rfl
  have hp : pairsS (requestS w).Values = w.Pending := pairs_values w
  have hlv : (t2.Levels.getD (requestS w).Number.toNat []).length = (levelS w).length := (e2 w.Level.toNat).symm
  have hc : checkE (pairsS (requestS w).Values) ((t2.Levels.getD (requestS w).Number.toNat []).length : Int) = 0 := by
    rw [hp, hlv]
    have := h.len
    exact check_of_sep h.sep (by omega) (by omega) (ends_of_nodes h.sep h.nodes)
  rw [if_neg (by simp [ht.g2]), if_neg (by simp [requestS]), if_neg (by show ¬ ((valuesS w).length < 2 ∨ (valuesS w).length % 2 = 1); omega), if_neg (by rw [hv0, hv1]; simp [ht.s, ht.l]), if_neg (by show ¬ (w.Level < 0 ∨ (t2.Levels.length : Int) ≤ w.Level); omega), if_neg (fun h' => h' hc), hp]
  rfl
theorem learn_run {t2 : api_Tree} {w : api_Walk} (h : Open w) : learnS w (ansM t2 w) = moveS w (stepD w (ansM t2 w)) := by
  unfold learnS
  have hb : (ansM t2 w).Body.length = 8 * (nodesS w.Pending).length := flat8 _ (fun n => bytes_len _) _
  rw [if_neg (by simp [h.check]), if_neg (by simp [h.done]), if_neg (by simp [ansM]), if_neg (by simp [ansM]), if_neg (by rw [hb]; simp)]
/-- What holds of every walk of a run. -/
structure RI (t1 : api_Tree) (w : api_Walk) : Prop where
  tree : w.Tree = t1
  op : Open w
  few : w.Level ≤ 12
  sum : w.Sent + 1 ≤ 2 ^ (12 - w.Level.toNat)
theorem lv_bound {t : api_Tree} (h : checkS t = 0) {i : Nat} (hi : i < t.Levels.length) : i ≤ 12 ∧ lvLen t i ≤ 2 ^ (12 - i) := by
  obtain ⟨g1, g2, g3, g4, s1, _⟩ := good_levels h
  have hb := leaves_bd g1 g2 g3 g4
  exact shp_lv _ _ 12 s1 (by have : (2 : Nat) ^ 12 = 4096 := by decide
                             omega) i hi
theorem RI.down {t1 : api_Tree} {w : api_Walk} (h : RI t1 w) {m : api_Message} (h0 : w.Level ≠ 0) (hd : stepD w m ≠ []) : RI t1 (downS w (stepD w m)) := by
  have ho := h.op
  obtain ⟨r1, r2, r3⟩ := ho.rise m
  have hl := ho.lv
  have hll := ho.len
  have hbl := ho.below h0
  obtain ⟨g1, g2, g3, g4, s1, g6, g7⟩ := good_levels ho.good
  have hhalf := (shp_half _ _ s1 (w.Level - 1).toNat (by omega)).1
  rw [show (w.Level - 1).toNat + 1 = w.Level.toNat by omega] at hhalf
  have hhalf : (levelS w).length = ((w.Tree.Levels.getD (w.Level - 1).toNat []).length + 1) / 2 := hhalf
  have hsep := below_sep ho m h0
  have hpn : nodesS (downS w (stepD w m)).Pending = belowS (w.Tree.Levels.getD (w.Level - 1).toNat []).length (stepD w m) :=
    foldX_nodes (below_rising r1) (below_bd hbl.2 fun n hn => by have := r2 n hn; omega)
  have hlvb := lv_bound ho.good hl.2
  have hnl : (nodesS w.Pending).length ≤ (levelS w).length := by
    have := rising_len (lo := 0) (hi := ((levelS w).length : Int)) (nodes_rising ho.sep) (fun n hn => by have := ho.nodes n hn; omega) (by omega)
    omega
  have hlvb2 : (levelS w).length ≤ 2 ^ (12 - w.Level.toNat) := hlvb.2
  have hpow : (2 : Nat) ^ (12 - (w.Level - 1).toNat) = 2 * 2 ^ (12 - w.Level.toNat) := by
    rw [show 12 - (w.Level - 1).toNat = (12 - w.Level.toNat) + 1 by omega, Nat.pow_succ, Nat.mul_comm]
  have hsum : sentD w + 1 ≤ ((2 ^ (12 - (w.Level - 1).toNat) : Nat) : Int) := by
    have h1 := h.sum
    have h2 : (2 : Int) ^ (12 - w.Level.toNat) = ((2 ^ (12 - w.Level.toNat) : Nat) : Int) := by simp
    rw [h2] at h1
    rw [hpow]
    unfold sentD
    omega
  have hp12 : (2 : Nat) ^ (12 - (w.Level - 1).toNat) ≤ 2 ^ 12 := Nat.pow_le_pow_right (by omega) (by omega)
  have h12 : (2 : Nat) ^ 12 = 4096 := by decide
  refine ⟨h.tree, ⟨ho.good, ⟨by show 0 ≤ w.Level - 1; omega, hbl.1⟩, by have := ho.lb; show w.Level - 1 ≤ 5000; omega, ⟨by have := ho.sent; show 0 ≤ sentD w; unfold sentD; omega, by show sentD w ≤ 8192; omega⟩, rfl, rfl, ?_, hsep, ?_, hbl.2⟩, by have := h.few; show w.Level - 1 ≤ 12; omega, by
    show sentD w + 1 ≤ 2 ^ (12 - (w.Level - 1).toNat)
    have h2 : (2 : Int) ^ (12 - (w.Level - 1).toNat) = ((2 ^ (12 - (w.Level - 1).toNat) : Nat) : Int) := by simp
    rw [h2]; exact hsum⟩
  · intro e
    have : nodesS (downS w (stepD w m)).Pending = [] := by rw [e]; rfl
    rw [hpn] at this
    cases hs : stepD w m with
    | nil => exact hd hs
    | cons n d =>
      have h1 := r2 n (by rw [hs]; simp)
      have : 2 * n ∈ belowS (w.Tree.Levels.getD (w.Level - 1).toNat []).length (stepD w m) := below_mem.2 ⟨by omega, n, by rw [hs]; simp, .inl rfl⟩
      rw [‹belowS _ _ = []›] at this
      simp at this
  · intro n hn
    rw [hpn] at hn
    obtain ⟨h1, k, hk, h2⟩ := below_mem.1 hn
    have := r2 k hk
    refine ⟨by omega, ?_⟩
    show n.toNat < (w.Tree.Levels.getD (w.Level - 1).toNat []).length
    omega
def firstW (t : api_Tree) : api_Walk := ⟨t, [⟨0, 1⟩], (t.Levels.length : Int) - 1, [], 0, false⟩
def beginS (t : api_Tree) : api_Walk × List api_Message × Int := if checkS t ≠ 0 then (w0, [], checkS t) else (firstW t, [requestS (firstW t)], 0)
theorem begin_eq {t : api_Tree} (hL : t.Levels.length ≤ 1000000) : f_compare_Begin t = some (beginS t) := by
  unfold f_compare_Begin beginS
  rw [hcheck_eq hL]
  simp only [Option.bind_some]
  by_cases h : checkS t = 0
  · obtain ⟨_, _, _, _, s1, g6, g7⟩ := good_levels h
    rw [if_neg (show ¬ ((!decide (checkS t = 0)) = true) by simp [h]), if_neg (show ¬ (checkS t ≠ 0) by simp [h]), copied_eq (by omega) (fun l hl => by have := g7 l hl; omega)]
    simp only [Option.bind_some]
    rw [w64 (n := (t.Levels.length : Int) - 1) (by omega) (by omega)]
    rw [show (⟨t, [(⟨0, 1⟩ : api_Extent)], (t.Levels.length : Int) - 1, [], 0, false⟩ : api_Walk) = firstW t from rfl, request_eq (by simp [firstW])]
    rfl
  · rw [if_pos (show ((!decide (checkS t = 0)) = true) by simp [h]), if_pos (show (checkS t ≠ 0) from h)]; rfl
theorem RI.first {t : api_Tree} (h : checkS t = 0) : RI t (firstW t) := by
  obtain ⟨_, _, _, _, s1, g6, g7⟩ := good_levels h
  obtain ⟨t1, t2⟩ := shp_top _ _ s1
  have h12 := lv_bound h (i := t.Levels.length - 1) (by omega)
  have e : ((t.Levels.length : Int) - 1).toNat = t.Levels.length - 1 := by omega
  have hlv : levelS (firstW t) = t.Levels.getD (t.Levels.length - 1) [] := by
    unfold levelS firstW; simp only; rw [e]
  refine ⟨rfl, ⟨h, ⟨by show 0 ≤ (t.Levels.length : Int) - 1; omega, by show ((t.Levels.length : Int) - 1).toNat < t.Levels.length; omega⟩, by show (t.Levels.length : Int) - 1 ≤ 5000; omega, ⟨by simp [firstW], by simp [firstW]⟩, rfl, rfl, by simp [firstW], ⟨fun e he => ?_, by simp [firstW]⟩, fun n hn => ?_, by rw [hlv, t2]; omega⟩, by show (t.Levels.length : Int) - 1 ≤ 12; omega, ?_⟩
  · simp [firstW] at he; subst he; simp
  · rw [hlv, t2]
    simp [firstW, nodesS, nodesE] at hn
    subst hn; simp
  · show (0 : Int) + 1 ≤ 2 ^ (12 - ((t.Levels.length : Int) - 1).toNat)
    have h2 : (2 : Int) ^ (12 - ((t.Levels.length : Int) - 1).toNat) = ((2 ^ (12 - ((t.Levels.length : Int) - 1).toNat) : Nat) : Int) := by simp
    rw [h2]
    have : 0 < (2 : Nat) ^ (12 - ((t.Levels.length : Int) - 1).toNat) := Nat.pow_pos (by omega)
    omega
/-! ### The run -/
/-- The nodes of the walk's level that differ. -/
def dOf (t2 : api_Tree) (w : api_Walk) : List Int := stepD w (ansM t2 w)
def runW (t2 : api_Tree) : Nat → api_Walk → api_Walk
  | 0, w => (moveS w (dOf t2 w)).1
  | k + 1, w => if dOf t2 w = [] then (moveS w (dOf t2 w)).1 else runW t2 k (downS w (dOf t2 w))
def runS (t1 t2 : api_Tree) : List api_Extent × Int × Int :=
  if checkS t1 ≠ 0 then ([], 0, checkS t1) else if checkS t2 ≠ 0 then ([], 0, checkS t2) else if t1.Size ≠ t2.Size ∨ t1.Leaf ≠ t2.Leaf then ([], 0, 22) else
  ((runW t2 (t1.Levels.length - 1) (firstW t1)).Found, (runW t2 (t1.Levels.length - 1) (firstW t1)).Sent, 0)
theorem wok {t1 : api_Tree} {w : api_Walk} (h : RI t1 w) (hu : ∀ l ∈ t1.Levels, ∀ x ∈ l, U64 x) : WOK w := by
  obtain ⟨_, _, _, _, s1, g6, g7⟩ := good_levels h.op.good
  have := sep_short h.op.sep
  exact ⟨by omega, fun e he => EI_of_inside h.op.sep.1 e he, fun e he => by rw [h.op.found] at he; simp at he, by omega, by rw [h.op.found]; simp, by rw [h.tree]; exact hu⟩
theorem values_I64 {t1 : api_Tree} {w : api_Walk} (h : RI t1 w) : ∀ x ∈ (requestS w).Values, I64 x := by
  obtain ⟨g1, g2, g3, g4, _⟩ := good_levels h.op.good
  intro x hx
  have hx : x ∈ valuesS w := hx
  unfold valuesS at hx
  unfold I64
  rcases List.mem_append.1 hx with hx | hx
  · simp at hx; omega
  · obtain ⟨e, he, hx⟩ := List.mem_flatMap.1 hx
    have := h.op.sep.1 e he
    simp at hx; omega
variable {t1 t2 : api_Tree}
theorem prog_step (ht : Twin t1 t2) {w : api_Walk} (h : RI t1 w) (hu : ∀ l ∈ t1.Levels, ∀ x ∈ l, U64 x) (hv : (valuesS w).length ≤ 1000) :
    f_compare_Answer t2 (requestS w) = some (ansM t2 w, 0) ∧ f_compare_Learn w (ansM t2 w) = some (moveS w (dOf t2 w)) ∧ f_ref44_Answer t2 (requestS w) = some (ansM t2 w, 0) ∧ f_ref44_Learn w (ansM t2 w) = some (moveS w (dOf t2 w)) := by
  have ht' : Twin w.Tree t2 := by rw [h.tree]; exact ht
  obtain ⟨_, _, _, _, _, g6, g7⟩ := good_levels ht.g2
  have ha := ans_run h.op ht'
  have hl := learn_run (t2 := t2) h.op
  have hb : ∀ x ∈ (ansM t2 w).Body, U8 x := fun x hx => by
    obtain ⟨n, hn, hx⟩ := List.mem_flatMap.1 hx
    exact bytes_U8 _ x hx
  refine ⟨?_, ?_, ?_, ?_⟩
  · rw [answer_eq (by omega) hv (values_I64 h), ha]
  · rw [learn_eq (wok h hu) (by show (valuesS w).length ≤ lim; simp only [lim]; omega) hb, hl]; rfl
  · rw [refAnswer_eq (by omega) hv (values_I64 h), ha]
  · rw [refLearn_eq (wok h hu) (by show (valuesS w).length ≤ lim; simp only [lim]; omega) hb, hl]; rfl
theorem len_le_nodes : ∀ {l : List api_Extent}, Inside l → l.length ≤ (nodesS l).length
  | [], _ => by simp
  | e :: l, h => by
    have := len_le_nodes (l := l) fun x hx => h x (by simp [hx])
    have he := h e (by simp)
    rw [show nodesS (e :: l) = nodesE e ++ nodesS l by simp [nodesS], List.length_append, List.length_cons]
    have : (nodesE e).length = e.Count.toNat := by simp [nodesE]
    omega
theorem values_few {t1 : api_Tree} {w : api_Walk} (h : RI t1 w) (hf : ∀ l ∈ t1.Levels, l.length ≤ 100) : (valuesS w).length ≤ 1000 := by
  have h1 := len_le_nodes h.op.sep.1
  have h2 := rising_len (lo := 0) (hi := ((levelS w).length : Int)) (nodes_rising h.op.sep) (fun n hn => by have := h.op.nodes n hn; omega) (by omega)
  have h3 : (levelS w).length ≤ 100 := by
    unfold levelS
    rw [List.getD_eq_getElem?_getD, List.getElem?_eq_getElem h.op.lv.2]
    have hf' : ∀ l ∈ w.Tree.Levels, l.length ≤ 100 := by rw [h.tree]; exact hf
    exact hf' _ (List.getElem_mem _)
  rw [values_len]; omega
theorem prog_loop (ht : Twin t1 t2) (hu : ∀ l ∈ t1.Levels, ∀ x ∈ l, U64 x) (hf : ∀ l ∈ t1.Levels, l.length ≤ 100) : ∀ (k : Nat) (w : api_Walk) (K : Nat), RI t1 w → w.Level = (k : Int) → k + 2 ≤ K →
    whileF (σ := List api_Message × Int × api_Walk) (ρ := List api_Extent × Int × Int) (fun s18 => (if (decide (s18.2.1 = 0)) = true then some (decide (0 < (s18.1.length : Int))) else some false).bind fun c25 => if c25 = true then (idx s18.1 0).bind fun x29 => (f_compare_Answer t2 x29).bind fun x30 => ((if (decide (x30.2 = 0)) = true then (f_compare_Learn s18.2.2 x30.1).bind fun x36 => some (Fl.go (x36.2.1, x36.2.2, x36.1)) else some (Fl.go (s18.1, x30.2, s18.2.2)) : Option (Fl (List api_Message × Int × api_Walk) (Rd (List api_Message × Int × api_Walk) (List api_Extent × Int × Int))))).bind fun o32 => o32.then fun s34 => some (Rd.next (s34.1, s34.2.1, s34.2.2)) else some (Rd.done (s18.1, s18.2.1, s18.2.2))) K ([requestS w], 0, w) = some (.go ([], 0, runW t2 k w))
  | k, w, K + 2, h, hk, hK => by
    obtain ⟨a1, a2, _, _⟩ := prog_step ht h hu (values_few h hf)
    have e0 : (decide ((0 : Int) < (([requestS w] : List api_Message).length : Int))) = true := by simp
    rw [whileF]
    simp only [decide_true, if_true, Option.bind_some, e0, idx_zero, a1, a2, Fl.then_go]
    unfold moveS
    cases k with
    | zero =>
      rw [if_pos (by omega)]
      rw [whileF]
      simp [runW, moveS, hk]
    | succ k =>
      have h0 : w.Level ≠ 0 := by omega
      rw [if_neg h0]
      by_cases hd : dOf t2 w = []
      · rw [if_pos hd]
        rw [whileF]
        simp [runW, moveS, hd, h0]
      · rw [if_neg hd]
        simp only
        rw [prog_loop ht hu hf k (downS w (dOf t2 w)) (K + 1) (h.down h0 hd) (by show w.Level - 1 = (k : Int); omega) (by omega)]
        simp [runW, hd]
theorem bigK_far : 20000 ≤ bigK := by decide
theorem run_eq (hu : ∀ l ∈ t1.Levels, ∀ x ∈ l, U64 x) (hf : ∀ l ∈ t1.Levels, l.length ≤ 100) (hL : t1.Levels.length ≤ 1000000) (hL2 : t2.Levels.length ≤ 1000000) : f_compare_Run t1 t2 = some (runS t1 t2) := by
  unfold f_compare_Run runS
  rw [begin_eq hL, hcheck_eq hL2]
  simp only [Option.bind_some]
  unfold beginS
  by_cases h1 : checkS t1 = 0
  · rw [if_neg (show ¬ (checkS t1 ≠ 0) by simp [h1]), if_neg (show ¬ (checkS t1 ≠ 0) by simp [h1])]
    simp only [decide_true, if_true, Option.bind_some, Fl.then_go]
    by_cases h2 : checkS t2 = 0
    · rw [if_neg (show ¬ (checkS t2 ≠ 0) by simp [h2])]
      simp only [h2, decide_true, if_true]
      have e1 : (if (!decide (t1.Size = t2.Size)) = true then some true else some (!decide (t1.Leaf = t2.Leaf))) = some (decide (t1.Size ≠ t2.Size ∨ t1.Leaf ≠ t2.Leaf)) := by
        by_cases a : t1.Size = t2.Size <;> by_cases b : t1.Leaf = t2.Leaf <;> simp [a, b]
      rw [e1]
      simp only [Option.bind_some]
      by_cases h3 : t1.Size ≠ t2.Size ∨ t1.Leaf ≠ t2.Leaf
      · rw [if_pos h3]
        have e2 : decide (t1.Size ≠ t2.Size ∨ t1.Leaf ≠ t2.Leaf) = true := by simpa using h3
        rw [e2]
        simp only [if_true, Option.bind_some, Fl.then_go]
        rw [show bigK = (bigK - 1) + 1 by have := bigK_far; omega, whileF]
        simp [Fl.then_go]
      · rw [if_neg h3]
        have e2 : decide (t1.Size ≠ t2.Size ∨ t1.Leaf ≠ t2.Leaf) = false := by simpa using h3
        rw [e2]
        simp only [Bool.false_eq_true, if_false, Option.bind_some, Fl.then_go]
        have ht : Twin t1 t2 := ⟨h1, h2, Decidable.not_not.1 fun e => h3 (.inl e), Decidable.not_not.1 fun e => h3 (.inr e)⟩
        obtain ⟨_, _, _, _, s1, g6, _⟩ := good_levels h1
        have := (shp_top _ _ s1).1
        rw [prog_loop ht hu hf (t1.Levels.length - 1) (firstW t1) bigK (RI.first h1) (by show (t1.Levels.length : Int) - 1 = _; omega) (by have := bigK_far; omega)]
        simp [Fl.then_go]
    · rw [if_pos (show checkS t2 ≠ 0 from h2)]
      have e2 : decide (checkS t2 = 0) = false := by simpa using h2
      simp only [e2, Bool.false_eq_true, if_false, Option.bind_some, Fl.then_go]
      rw [show bigK = (bigK - 1) + 1 by have := bigK_far; omega, whileF]
      simp [Fl.then_go, h2]
  · rw [if_pos (show checkS t1 ≠ 0 from h1), if_pos (show checkS t1 ≠ 0 from h1)]
    have e2 : decide (checkS t1 = 0) = false := by simpa using h1
    simp only [e2, Bool.false_eq_true, if_false, Option.bind_some, Fl.then_go]
    rw [show bigK = (bigK - 1) + 1 by have := bigK_far; omega, whileF]
    simp [Fl.then_go, h1]
end Go.Proofs.Ytogflgcngfghpaa
end
section
set_option maxHeartbeats 4000000
set_option linter.unusedVariables false
set_option linter.unusedSimpArgs false
namespace Go.Proofs.Ytogflgcngfghpaa
open Go.J
def f_compare_Bound (a0 : Int) (a1 : Int) (a2 : Int) : Option (Int × Int) :=
 (if (decide (a0 < 1)) = true then some true else some (decide (4096 < a0))).bind fun c1 => if c1 = true then some (0, 2) else (if (decide (a1 < 1)) = true then some true else some (decide (4096 < a1))).bind fun c4 => if c4 = true then some (0, 1) else (quoI .i64 (IntKind.i64.wrap ((IntKind.i64.wrap (a0 + a1)) - 1)) a1).bind fun x7 => (if (decide (a2 < 0)) = true then some true else some (decide (x7 < a2))).bind fun c8 => if c8 = true then some (0, 2) else (whileF (σ := Int × Int) (ρ := Int × Int) (fun s11 => if (decide (1 < s11.1)) = true then some (Rd.next (IntKind.i64.wrap (Int.tdiv (IntKind.i64.wrap (s11.1 + 1)) 2), IntKind.i64.wrap (s11.2 + (min s11.1 (IntKind.i64.wrap (2 * (min a2 (IntKind.i64.wrap (Int.tdiv (IntKind.i64.wrap (s11.1 + 1)) 2))))))))) else some (Rd.done (s11.1, s11.2))) bigK (x7, 1)).bind fun o13 => o13.then fun s11 => some (s11.2, 0)
theorem c_compare_Bound {a0 : Int} {a1 : Int} {a2 : Int} {r : Int × Int} (h : f_compare_Bound a0 a1 a2 = some r) : Ct Try.prog 23 [(Rep.int .i64).at a0, (Rep.int .i64).at a1, (Rep.int .i64).at a2] [] (fun _ : Unit => Pr.tup [(Rep.int .i64).at r.1, (Rep.int .i64).at r.2]) (fun _ => []) := by
 refine Ct.mk Try.func23 rfl Try.ntmps23 (by simp) fun I R => ?_
 refine J.drop0 ?_
 unfold f_compare_Bound at h
 refine J_seq ?_
 refine J_region ?_
 refine JLp (T_assign rfl) rfl (nofun) .none ?_
 refine JLp (T_assign rfl) rfl (nofun) .none ?_
 refine JL_nil ?_
 refine KJ_nrm_then (KJ_J ?_)
 refine J_seq ?_
 refine J_seq ?_
 refine J_region ?_
 refine JLp (T_move rfl) rfl (nofun) .none ?_
 refine JLp (T_lss rfl rfl) rfl (nofun) .none ?_
 refine JLp (T_move rfl) rfl (nofun) .none ?_
 replace h := bnd h; obtain ⟨c1, hc1, h⟩ := h
 refine JL_at 3 [(0, (Rep.int .i64).at a0), (1, (Rep.int .i64).at a1), (2, (Rep.int .i64).at a2), (16, Rep.bool.at c1)] (R) ?_ ?_
 ·rcases Bool.eq_false_or_eq_true (decide (a0 < 1)) with hq2 | hq2
  ·replace hc1 := ift hq2 hc1
   obtain rfl := inj hc1
   refine JLs rfl rfl hq2 rfl ?_
   refine JLs rfl rfl hq2 rfl ?_
   refine JLp (T_pickT rfl hq2 rfl) rfl (nofun) .none ?_
   refine JL_nil ?_
   exact KJ.sub KJ_end (.cons rfl (.cons rfl (.cons rfl (.cons rfl (.nil _)))))
  ·replace hc1 := iff_ hq2 hc1
   refine JLp (T_move rfl) rfl (nofun) (.y rfl rfl hq2) ?_
   refine JLp (T_gtr rfl rfl) rfl (nofun) (.y rfl rfl hq2) ?_
   obtain rfl := inj hc1
   refine JLp (T_pickF rfl hq2 rfl) rfl (nofun) .none ?_
   refine JL_nil ?_
   exact KJ.sub KJ_end (.cons rfl (.cons rfl (.cons rfl (.cons rfl (.nil _)))))
 refine JL_nil ?_
 refine KJ_nrm_then (KJ_J ?_)
 refine J_test rfl (fun hq3 => ?_) (fun hq3 => ?_)
 ·replace h := ift hq3 h
  refine J_seq ?_
  refine J_region ?_
  refine JLp (T_assign rfl) rfl (nofun) .none ?_
  refine JLp (T_assign rfl) rfl (nofun) .none ?_
  refine JL_nil ?_
  refine KJ_nrm_then (KJ_J ?_)
  refine J_ret ?_
  refine KJ_ret_then ?_
  obtain rfl := inj h
  exact KJ_retn' Try.results23 (.tmp (.mk rfl) (.tmp (.mk rfl) Rv.nil)) rfl (by simp) rfl
 ·replace h := iff_ hq3 h
  refine J_skip ?_
  refine KJ_nrm_then (KJ_J ?_)
  refine J_seq ?_
  refine J_seq ?_
  refine J_region ?_
  refine JLp (T_move rfl) rfl (nofun) .none ?_
  refine JLp (T_lss rfl rfl) rfl (nofun) .none ?_
  refine JLp (T_move rfl) rfl (nofun) .none ?_
  replace h := bnd h; obtain ⟨c4, hc4, h⟩ := h
  refine JL_at 3 [(0, (Rep.int .i64).at a0), (1, (Rep.int .i64).at a1), (2, (Rep.int .i64).at a2), (22, Rep.bool.at c4)] (R) ?_ ?_
  ·rcases Bool.eq_false_or_eq_true (decide (a1 < 1)) with hq5 | hq5
   ·replace hc4 := ift hq5 hc4
    obtain rfl := inj hc4
    refine JLs rfl rfl hq5 rfl ?_
    refine JLs rfl rfl hq5 rfl ?_
    refine JLp (T_pickT rfl hq5 rfl) rfl (nofun) .none ?_
    refine JL_nil ?_
    exact KJ.sub KJ_end (.cons rfl (.cons rfl (.cons rfl (.cons rfl (.nil _)))))
   ·replace hc4 := iff_ hq5 hc4
    refine JLp (T_move rfl) rfl (nofun) (.y rfl rfl hq5) ?_
    refine JLp (T_gtr rfl rfl) rfl (nofun) (.y rfl rfl hq5) ?_
    obtain rfl := inj hc4
    refine JLp (T_pickF rfl hq5 rfl) rfl (nofun) .none ?_
    refine JL_nil ?_
    exact KJ.sub KJ_end (.cons rfl (.cons rfl (.cons rfl (.cons rfl (.nil _)))))
  refine JL_nil ?_
  refine KJ_nrm_then (KJ_J ?_)
  refine J_test rfl (fun hq6 => ?_) (fun hq6 => ?_)
  ·replace h := ift hq6 h
   refine J_seq ?_
   refine J_region ?_
   refine JLp (T_assign rfl) rfl (nofun) .none ?_
   refine JLp (T_assign rfl) rfl (nofun) .none ?_
   refine JL_nil ?_
   refine KJ_nrm_then (KJ_J ?_)
   refine J_ret ?_
   refine KJ_ret_then ?_
   obtain rfl := inj h
   exact KJ_retn' Try.results23 (.tmp (.mk rfl) (.tmp (.mk rfl) Rv.nil)) rfl (by simp) rfl
  ·replace h := iff_ hq6 h
   refine J_skip ?_
   refine KJ_nrm_then (KJ_J ?_)
   refine J_seq ?_
   refine J_region ?_
   refine JLp (T_move rfl) rfl (nofun) .none ?_
   refine JLp (T_move rfl) rfl (nofun) .none ?_
   refine JLp (T_add rfl rfl) rfl (nofun) .none ?_
   refine JLp (T_sub rfl rfl) rfl (nofun) .none ?_
   refine JLp (T_move rfl) rfl (nofun) .none ?_
   replace h := bnd h; obtain ⟨x7, hx7, h⟩ := h
   refine JLp (T_quoI rfl rfl hx7) rfl (nofun) .none ?_
   refine JLp (T_assign rfl) rfl (nofun) .none ?_
   refine JL_nil ?_
   refine KJ_nrm_then (KJ_J ?_)
   refine J_seq ?_
   refine J_seq ?_
   refine J_region ?_
   refine JLp (T_move rfl) rfl (nofun) .none ?_
   refine JLp (T_lss rfl rfl) rfl (nofun) .none ?_
   refine JLp (T_move rfl) rfl (nofun) .none ?_
   replace h := bnd h; obtain ⟨c8, hc8, h⟩ := h
   refine JL_at 4 [(2, (Rep.int .i64).at a2), (8, (Rep.int .i64).at x7), (35, Rep.bool.at c8)] (R) ?_ ?_
   ·rcases Bool.eq_false_or_eq_true (decide (a2 < 0)) with hq9 | hq9
    ·replace hc8 := ift hq9 hc8
     obtain rfl := inj hc8
     refine JLs rfl rfl hq9 rfl ?_
     refine JLs rfl rfl hq9 rfl ?_
     refine JLs rfl rfl hq9 rfl ?_
     refine JLp (T_pickT rfl hq9 rfl) rfl (nofun) .none ?_
     refine JL_nil ?_
     exact KJ.sub KJ_end (.cons rfl (.cons rfl (.cons rfl (.nil _))))
    ·replace hc8 := iff_ hq9 hc8
     refine JLp (T_move rfl) rfl (nofun) (.y rfl rfl hq9) ?_
     refine JLp (T_move rfl) rfl (nofun) (.y rfl rfl hq9) ?_
     refine JLp (T_gtr rfl rfl) rfl (nofun) (.y rfl rfl hq9) ?_
     obtain rfl := inj hc8
     refine JLp (T_pickF rfl hq9 rfl) rfl (nofun) .none ?_
     refine JL_nil ?_
     exact KJ.sub KJ_end (.cons rfl (.cons rfl (.cons rfl (.nil _))))
   refine JL_nil ?_
   refine KJ_nrm_then (KJ_J ?_)
   refine J_test rfl (fun hq10 => ?_) (fun hq10 => ?_)
   ·replace h := ift hq10 h
    refine J_seq ?_
    refine J_region ?_
    refine JLp (T_assign rfl) rfl (nofun) .none ?_
    refine JLp (T_assign rfl) rfl (nofun) .none ?_
    refine JL_nil ?_
    refine KJ_nrm_then (KJ_J ?_)
    refine J_ret ?_
    refine KJ_ret_then ?_
    obtain rfl := inj h
    exact KJ_retn' Try.results23 (.tmp (.mk rfl) (.tmp (.mk rfl) Rv.nil)) rfl (by simp) rfl
   ·replace h := iff_ hq10 h
    refine J_skip ?_
    refine KJ_nrm_then (KJ_J ?_)
    refine J_seq ?_
    refine J_region ?_
    refine JLp (T_assign rfl) rfl (nofun) .none ?_
    refine JL_nil ?_
    refine KJ_nrm_then (KJ_J ?_)
    refine J_seq ?_
    replace h := bnd h; obtain ⟨o13, ho14, h⟩ := h
    refine J_cuto o13 (fun (s11 : Int × Int) (g12 : Unit) => [(9, (Rep.int .i64).at s11.2)]) (fun s11 g12 => R) ?_ ?_
    ·refine J_block ?_
     refine J_while ho14 (fun (s11 : Int × Int) (g12 : Unit) => [(2, (Rep.int .i64).at a2), (8, (Rep.int .i64).at s11.1), (9, (Rep.int .i64).at s11.2)]) (fun s11 g12 => R) () (.cons rfl (.cons rfl (.cons rfl (.nil _)))) rfl ?_
     intro s11 g12 st17 hb15 hf16
     refine J_seq ?_
     refine J_seq ?_
     refine J_region ?_
     refine JLp (T_move rfl) rfl (nofun) .none ?_
     refine JLp (T_gtr rfl rfl) rfl (nofun) .none ?_
     refine JL_nil ?_
     refine KJ_nrm_then (KJ_J ?_)
     refine J_test rfl (fun hq18 => ?_) (fun hq18 => ?_)
     ·replace hb15 := ift hq18 hb15
      refine J_skip ?_
      refine KJ_nrm_then (KJ_J ?_)
      refine J_block ?_
      refine J_seq ?_
      refine J_region ?_
      refine JLp (T_move rfl) rfl (nofun) .none ?_
      refine JLp (T_add rfl rfl) rfl (nofun) .none ?_
      refine JLp (T_quo rfl rfl (by decide)) rfl (nofun) .none ?_
      refine JLp (T_assign rfl) rfl (nofun) .none ?_
      refine JL_nil ?_
      refine KJ_nrm_then (KJ_J ?_)
      refine J_seq ?_
      refine J_region ?_
      refine JLp (T_move rfl) rfl (nofun) .none ?_
      refine JLp (T_move rfl) rfl (nofun) .none ?_
      refine JLp (T_move rfl) rfl (nofun) .none ?_
      refine JLp (T_move rfl) rfl (nofun) .none ?_
      refine JLp (T_min rfl rfl) rfl (nofun) .none ?_
      refine JLp (T_mul rfl rfl) rfl (nofun) .none ?_
      refine JLp (T_min rfl rfl) rfl (nofun) .none ?_
      refine JLp (T_add rfl rfl) rfl (nofun) .none ?_
      refine JLp (T_assign rfl) rfl (nofun) .none ?_
      refine JL_nil ?_
      refine KJ_nrm_then (KJ_J ?_)
      refine J_region ?_
      refine JLp (T_move rfl) rfl (nofun) .none ?_
      refine JLp (T_assign rfl) rfl (nofun) .none ?_
      refine JL_nil ?_
      refine KJ_nrm_blk ?_
      refine KJ_nrm_then ?_
      exact KJ_nx (IntKind.i64.wrap (Int.tdiv (IntKind.i64.wrap (s11.1 + 1)) 2), IntKind.i64.wrap (s11.2 + (min s11.1 (IntKind.i64.wrap (2 * (min a2 (IntKind.i64.wrap (Int.tdiv (IntKind.i64.wrap (s11.1 + 1)) 2)))))))) () (inj hb15) (.cons rfl (.cons rfl (.cons rfl (.nil _)))) rfl
     ·replace hb15 := iff_ hq18 hb15
      refine J_exit ?_
      refine KJ_exit_then ?_
      refine KJ_exit_then ?_
      refine KJ_exit_here ?_
      refine KJ_nrm_kq ?_
      obtain rfl := inj hb15
      exact KJ_ot (s11.1, s11.2) () hf16 (.cons rfl (.nil _)) rfl
    ·intro s11 g12 hs
     subst hs
     replace h := thn h
     refine KJ_nrm_then (KJ_J ?_)
     refine J_seq ?_
     refine J_region ?_
     refine JLp (T_move rfl) rfl (nofun) .none ?_
     refine JLp (T_assign rfl) rfl (nofun) .none ?_
     refine JLp (T_assign rfl) rfl (nofun) .none ?_
     refine JL_nil ?_
     refine KJ_nrm_then (KJ_J ?_)
     refine J_ret ?_
     obtain rfl := inj h
     exact KJ_retn' Try.results23 (.tmp (.mk rfl) (.tmp (.mk rfl) Rv.nil)) rfl (by simp) rfl
end Go.Proofs.Ytogflgcngfghpaa
end
section
set_option maxHeartbeats 1000000
set_option linter.unusedVariables false
set_option linter.unusedSimpArgs false
namespace Go.Proofs.Ytogflgcngfghpaa
open Go.J
theorem runW_found (t2 : api_Tree) {t1 : api_Tree} : ∀ (k : Nat) (w : api_Walk), RI t1 w → w.Level = (k : Int) → (runW t2 k w).Found.length ≤ 4096
  | 0, w, h, _ => (move_found h)
  | k + 1, w, h, hk => by
    rw [runW]
    split
    · exact move_found h
    · rename_i hd
      exact runW_found t2 k _ (h.down (by omega) hd) (by show w.Level - 1 = (k : Int); omega)
where
  move_found {w : api_Walk} (h : RI t1 w) : (moveS w (dOf t2 w)).1.Found.length ≤ 4096 := by
    have ho := h.op
    obtain ⟨r1, r2, r3⟩ := ho.rise (ansM t2 w)
    obtain ⟨q1, q2, q3, q4, _⟩ := good_levels ho.good
    unfold moveS
    split
    · rename_i h8
      exact sep_short (foldX_sep (secs_chain r1 q3 q2 (fun n hn => ho.leaf h8 (r2 n hn))))
    · split
      · simp
      · simp [downS]
theorem runS_found (t1 t2 : api_Tree) : (runS t1 t2).1.length ≤ 4096 := by
  unfold runS
  split
  · simp
  split
  · simp
  split
  · simp
  rename_i h1 h2 h3
  have h1 : checkS t1 = 0 := Decidable.not_not.1 h1
  obtain ⟨_, _, _, _, s1, g6, _⟩ := good_levels h1
  have := (shp_top _ _ s1).1
  exact runW_found t2 _ _ (RI.first h1) (by show (t1.Levels.length : Int) - 1 = _; omega)
end Go.Proofs.Ytogflgcngfghpaa
end
section
set_option maxHeartbeats 4000000
set_option linter.unusedVariables false
set_option linter.unusedSimpArgs false
namespace Go.Proofs.Ytogflgcngfghpaa
open Go.J
def f_slices_Chunk_api_Sector_api_Sector_1 (a1 : List (List Int)) (a2 : Int) : Option (List (List (List Int))) :=
 Option.map Prod.fst (α := List (List (List Int)) × Unit) (thenP (whileW (σ := Int) (ρ := Unit) (β := List (List Int)) (fun s1 => if (decide (s1 < (a1.length : Int))) = true then (slc a1 s1 (a1.length : Int)).bind fun x14 => (slc a1 s1 (IntKind.i64.wrap (s1 + (min a2 (x14.length : Int))))).bind fun x15 => emitP x15 (some ([], Rd.next (IntKind.i64.wrap (s1 + a2)))) else some ([], Rd.done s1)) bigK 0) fun s1 => some ([], ()))
theorem c_slices_Chunk_api_Sector_api_Sector_1 {a1 : List (List Int)} {a2 : Int} {xs : List (List (List Int))} (h : f_slices_Chunk_api_Sector_api_Sector_1 a1 a2 = some xs) : ItFn Try.prog 87 [(Rep.iptr (Rep.sl (Rep.arr (Rep.int .u8) 1 8) 8)).at a1, (Rep.iptr (Rep.int .i64)).at a2] (Rep.sl (Rep.arr (Rep.int .u8) 1 8) 8) xs := by
 refine ItFn.mk Try.func87 rfl rfl Try.ntmps87 (by simp) fun l S D hR I O R hS => ?_
 unfold f_slices_Chunk_api_Sector_api_Sector_1 at h
 replace h := Option.map_eq_some_iff.1 h
 obtain ⟨⟨ys, u⟩, h, rfl⟩ := h
 replace hS : S (ys ++ []) O := by simpa using hS
 refine J_seq ?_
 refine J_region ?_
 refine JLp (T_assign rfl) rfl (nofun) .none ?_
 refine JL_nil ?_
 refine KJ_nrm_then (KJ_J ?_)
 replace h := thenP_some h
 obtain ⟨z5, o3, ho4, tl6, rfl, h⟩ := h
 rw [List.append_assoc] at hS
 refine J_cutw (out := o3) S (tl6 ++ []) (fun (s1 : Int) => []) (fun s1 C => (C ++ R)) ?_ ?_
 ·refine J_block ?_
  refine J_whileW ho4 (tl6 ++ []) S hS (fun (s1 : Int) => [(0, Pr.yield l), (1, (Rep.iptr (Rep.sl (Rep.arr (Rep.int .u8) 1 8) 8)).at a1), (2, (Rep.iptr (Rep.int .i64)).at a2), (4, (Rep.int .i64).at s1)]) (fun s1 C => (C ++ R)) (.cons rfl (.cons rfl (.cons rfl (.cons rfl (.nil _))))) rfl ?_
  ·intro s1 C10 st9 y11 zv12 hb7 hf8 hS
   refine J_seq ?_
   refine J_seq ?_
   refine J_region ?_
   refine JLp (T_move rfl) rfl (nofun) .none ?_
   refine JLp (T_load ty64 rfl) rfl (nofun) .none ?_
   refine JLp (T_len (ρ := (Rep.arr (Rep.int .u8) 1 8)) sl64 (.mk rfl)) rfl (nofun) .none ?_
   refine JLp (T_lss rfl rfl) rfl (nofun) .none ?_
   refine JL_nil ?_
   refine KJ_nrm_then (KJ_J ?_)
   refine J_test rfl (fun hq13 => ?_) (fun hq13 => ?_)
   ·replace hb7 := ift hq13 hb7
    refine J_skip ?_
    refine KJ_nrm_then (KJ_J ?_)
    refine J_seq ?_
    refine J_block ?_
    refine J_seq ?_
    replace hb7 := bnd hb7; obtain ⟨x14, hx14, hb7⟩ := hb7
    refine J_drawR (Ks := []) rfl (by kernel_rfl) fun K hK => ?_
    refine DR.p (.base (t := 2) rfl .nil) (T_load ty3 rfl) .none rfl rfl (nofun) ?_
    refine DR.p (.base (t := 1) rfl .nil) (T_load ty64 rfl) .none rfl rfl (nofun) ?_
    refine DR.p (.base (t := 4) rfl .nil) (T_move rfl) .none rfl rfl (nofun) ?_
    refine DR.p (.dep 1 1 rfl rfl rfl (.dep 2 0 rfl rfl rfl .nil)) (T_slice_l sl64 (.mk rfl) rfl hx14) .none rfl rfl (nofun) ?_
    refine DR.p (.dep 3 0 rfl rfl rfl .nil) (T_len (ρ := (Rep.arr (Rep.int .u8) 1 8)) sl64 (.mk rfl)) .none rfl rfl (nofun) ?_
    refine DR.tail (by kernel_rfl) (.refl _) rfl ?_
    simp only [List.reverse_cons, List.reverse_nil, List.nil_append, List.cons_append, DT]
    refine JLp (T_min rfl rfl) rfl (nofun) .none ?_
    refine JLp (T_assign rfl) rfl (nofun) .none ?_
    refine JL_nil (KJ_hid hK ?_)
    refine KJ_nrm_then (KJ_J ?_)
    refine J_seq ?_
    refine J_region ?_
    refine JLp (T_move rfl) rfl (nofun) .none ?_
    refine JLp (T_load ty64 rfl) rfl (nofun) .none ?_
    refine JLp (T_move rfl) rfl (nofun) .none ?_
    refine JLp (T_move rfl) rfl (nofun) .none ?_
    refine JLp (T_move rfl) rfl (nofun) .none ?_
    refine JLp (T_add rfl rfl) rfl (nofun) .none ?_
    refine JLp (T_move rfl) rfl (nofun) .none ?_
    refine JLp (T_move rfl) rfl (nofun) .none ?_
    refine JLp (T_add rfl rfl) rfl (nofun) .none ?_
    replace hb7 := bnd hb7; obtain ⟨x15, hx15, hb7⟩ := hb7
    refine JLp (T_slice_lhm sl64 (.mk rfl) rfl rfl rfl hx15) rfl (nofun) .none ?_
    replace hb7 := emitP_some hb7
    obtain ⟨ys16, rfl, hb7⟩ := hb7
    refine JLe (κ := C10) (T_yield (v := x15) (rest := ys16 ++ zv12) hR hS rfl (.mk rfl)) rfl .none fun q19 => ?_
    obtain ⟨⟨b17, C18⟩, hq191, hq192⟩ := q19
    refine JLp (T_not rfl) rfl (nofun) .none ?_
    refine JL_nil ?_
    refine KJ_nrm_then (KJ_J ?_)
    refine J_test rfl (fun hq20 => ?_) (fun hq20 => ?_)
    ·refine J_ret ?_
     refine KJ_ret_blk ?_
     refine KJ_ret_then ?_
     refine KJ_ret_then ?_
     refine KJ_ret_blk ?_
     refine KJ_ret_kq ?_
     exact KJ_reti rfl Try.results87 (.inr (hq192 (by simpa using hq20)))
    ·have hS := hq191 (by simpa using hq20)
     refine J_skip ?_
     refine KJ_nrm_blk ?_
     refine KJ_nrm_then (KJ_J ?_)
     refine J_region ?_
     refine JLp (T_move rfl) rfl (nofun) .none ?_
     refine JLp (T_load ty3 rfl) rfl (nofun) .none ?_
     refine JLp (T_add rfl rfl) rfl (nofun) .none ?_
     refine JLp (T_assign rfl) rfl (nofun) .none ?_
     refine JL_nil ?_
     refine KJ_nrm_then ?_
     obtain ⟨rfl, rfl⟩ := injP hb7
     exact KJ_nxw (IntKind.i64.wrap (s1 + a2)) rfl hS (.cons rfl (.cons rfl (.cons rfl (.cons rfl (.nil _))))) rfl
   ·replace hb7 := iff_ hq13 hb7
    refine J_exit ?_
    refine KJ_exit_then ?_
    refine KJ_exit_then ?_
    refine KJ_exit_here ?_
    obtain ⟨rfl, rfl⟩ := injP hb7
    obtain ⟨hz, hgo⟩ : zv12 = _ ∧ _ = _ := hf8
    rw [hz] at hS
    exact KJ_otw s1 hgo hS (.nil _) rfl
 ·intro s1 C21 hs hS
  subst hs
  replace h : _ = some _ := h
  refine KJ_end_body ?_
  obtain ⟨rfl, _⟩ := injP h
  exact KJ_reti rfl Try.results87 (.inl hS)
end Go.Proofs.Ytogflgcngfghpaa
end
section
set_option maxHeartbeats 4000000
set_option linter.unusedVariables false
set_option linter.unusedSimpArgs false
namespace Go.Proofs.Ytogflgcngfghpaa
open Go.J
def f_slices_Chunk_api_Sector_api_Sector (a0 : List (List Int)) (a1 : Int) : Option (List (List (List Int))) :=
 ((if (decide (a1 < 1)) = true then none else some (Fl.go ()) : Option (Fl (Unit) (List (List (List Int)))))).bind fun o2 => o2.then fun s4 => (f_slices_Chunk_api_Sector_api_Sector_1 a0 a1).bind fun x6 => some x6
theorem c_slices_Chunk_api_Sector_api_Sector {a0 : List (List Int)} {a1 : Int} {r : List (List (List Int))} (h : f_slices_Chunk_api_Sector_api_Sector a0 a1 = some r) : Ct Try.prog 77 [(Rep.sl (Rep.arr (Rep.int .u8) 1 8) 8).at a0, (Rep.int .i64).at a1] [] (fun _ : Unit => (Rep.iter Try.prog (Rep.sl (Rep.arr (Rep.int .u8) 1 8) 8)).at r) (fun _ => []) := by
 refine Ct.mk Try.func77 rfl Try.ntmps77 (by simp) fun I R => ?_
 refine J.drop0 ?_
 unfold f_slices_Chunk_api_Sector_api_Sector at h
 refine J_seq ?_
 refine J_region ?_
 refine JLe0 (T_box (ρ := (Rep.sl (Rep.arr (Rep.int .u8) 1 8) 8)) (.mk rfl)) rfl .none ?_
 refine JLe0 (T_box (ρ := (Rep.int .i64)) (.mk rfl)) rfl .none ?_
 refine JLp (T_assign rfl) rfl (nofun) .none ?_
 refine JL_nil ?_
 refine KJ_nrm_then (KJ_J ?_)
 refine J_seq ?_
 refine J_seq ?_
 refine J_region ?_
 refine JLp (T_load ty3 rfl) rfl (nofun) .none ?_
 refine JLp (T_lss rfl rfl) rfl (nofun) .none ?_
 refine JL_nil ?_
 refine KJ_nrm_then (KJ_J ?_)
 replace h := bnd h; obtain ⟨o2, ho3, h⟩ := h
 refine J_cuto o2 (fun (s4 : Unit) (g5 : Unit) => [(2, (Rep.iptr (Rep.sl (Rep.arr (Rep.int .u8) 1 8) 8)).at a0), (3, (Rep.iptr (Rep.int .i64)).at a1)]) (fun s4 g5 => R) ?_ ?_
 ·refine J_test rfl (fun hq1 => ?_) (fun hq1 => ?_)
  ·replace ho3 := ift hq1 ho3
   cases ho3
  ·replace ho3 := iff_ hq1 ho3
   refine J_skip ?_
   refine KJ_nrm_kq ?_
   exact KJ_ot () () (inj ho3) (.cons rfl (.cons rfl (.nil _))) rfl
 ·intro s4 g5 hs
  subst hs
  replace h := thn h
  refine KJ_nrm_then (KJ_J ?_)
  refine J_seq ?_
  refine J_region ?_
  replace h := bnd h; obtain ⟨x6, hx6, h⟩ := h
  refine JLp (T_mkit (c_slices_Chunk_api_Sector_api_Sector_1 hx6) ⟨.mk rfl, ⟨.mk rfl, trivial⟩⟩) rfl (nofun) .none ?_
  refine JLp (T_assign rfl) rfl (nofun) .none ?_
  refine JL_nil ?_
  refine KJ_nrm_then (KJ_J ?_)
  refine J_ret ?_
  obtain rfl := inj h
  exact KJ_ret1' Try.results77 (.tmp (.mk rfl) Rv.nil) rfl rfl
end Go.Proofs.Ytogflgcngfghpaa
end
section
set_option maxHeartbeats 4000000
set_option linter.unusedVariables false
set_option linter.unusedSimpArgs false
namespace Go.Proofs.Ytogflgcngfghpaa
open Go.J
def f_checksum_Sectors_1 (a1 : List (List Int)) : Option (List Int) :=
 Option.map Prod.fst (α := List Int × Unit) (thenP (rangeW (σ := Unit) (ρ := Unit) (β := Int) (fun i13 x17 s1 => thenP (capN 8 (countW (σ := Unit) (ρ := Rd (Unit) (Unit)) (β := Int) (fun i32 s20 => (idx x17 i32).bind fun x36 => emitP x36 (some ([], Rd.next ()))) ((8 : Int) - 0).toNat 0 ())) fun s20 => some ([], Rd.next ())) a1 0 ()) fun s1 => some ([], ()))
theorem c_checksum_Sectors_1 {a1 : List (List Int)} {xs : List Int} (h : f_checksum_Sectors_1 a1 = some xs) : ItFn Try.prog 89 [(Rep.iptr (Rep.sl (Rep.arr (Rep.int .u8) 1 8) 8)).at a1] (Rep.int .u8) xs := by
 refine ItFn.mk Try.func89 rfl rfl Try.ntmps89 (by simp) fun l S D hR I O R hS => ?_
 unfold f_checksum_Sectors_1 at h
 replace h := Option.map_eq_some_iff.1 h
 obtain ⟨⟨ys, u⟩, h, rfl⟩ := h
 replace hS : S (ys ++ []) O := by simpa using hS
 refine J_seq ?_
 refine J_region ?_
 refine JLp (T_load ty64 rfl) rfl (nofun) .none ?_
 refine JLp (T_len (ρ := (Rep.arr (Rep.int .u8) 1 8)) sl64 (.mk rfl)) rfl (nofun) .none ?_
 refine JLp (T_move rfl) rfl (nofun) .none ?_
 refine JL_nil ?_
 refine KJ_nrm_then (KJ_J ?_)
 replace h := thenP_some h
 obtain ⟨z5, o3, ho4, tl6, rfl, h⟩ := h
 rw [List.append_assoc] at hS
 refine J_cutw (out := o3) S (tl6 ++ []) (fun (s1 : Unit) => []) (fun s1 C => (C ++ R)) ?_ ?_
 ·refine J_block ?_
  refine J_lim (ρ := (Rep.arr (Rep.int .u8) 1 8)) (n := 8) (l := a1) (x := .tmp 7) (.mk rfl) fun hl => ?_
  refine J_rangeW ho4 (tl6 ++ []) S hS hl (fun i13 (s1 : Unit) => [(0, Pr.yield l), (7, (Rep.sl (Rep.arr (Rep.int .u8) 1 8) 8).at a1), (8, (Rep.int .i64).at (a1.length : Int)), (9, (Rep.int .i64).at i13)]) (fun i13 s1 C => (C ++ R)) (.cons rfl (.cons rfl (.cons rfl (.cons rfl (.nil _))))) rfl ?_ ?_
  ·intro s1 C10 hgo hS
   refine J_seq (J_region (JLp (T_lss rfl rfl) rfl (nofun) .none (JL_nil (KJ_nrm_then (KJ_J ?_)))))
   refine J_seq (J_test rfl (fun hp => absurd (of_decide_eq_true hp) (by omega)) (fun _ => J_exit (KJ_exit_then (KJ_exit_then (KJ_exit_here ?_)))))
   exact KJ_otw s1 hgo hS (.nil _) rfl
  ·intro i13 x17 s1 C10 st9 y11 zv12 hi14 hj15 hx18 hw16 hb7 hf8 hS
   refine J_seq (J_region (JLp (T_lss rfl rfl) rfl (nofun) .none (JL_nil (KJ_nrm_then (KJ_J ?_)))))
   refine J_seq (J_test rfl (fun _ => J_skip (KJ_nrm_then (KJ_J ?_))) (fun hp => absurd hj15 (of_decide_eq_false hp)))
   refine J_seq ?_
   refine J_block ?_
   refine J_seq ?_
   refine J_region ?_
   refine JLp (T_ix sl64 (.mk rfl) rfl hx18) rfl (nofun) .none ?_
   refine JLp (T_load ty76 rfl) rfl (nofun) .none ?_
   refine JLa (T_alloc z76 (Lay.arr (Lay.int _))) rfl .none fun b19 => ?_
   refine JLn1 (T_store ty76 rfl (.mk rfl) (SetF.self (Lay.arr (Lay.int _)))) .none ?_
   refine JL_nil ?_
   refine KJ_nrm_then (KJ_J ?_)
   refine J_seq ?_
   refine J_region ?_
   refine JLp (T_loadw ty76 rfl) rfl B0 .none ?_
   refine JLp (T_move rfl) rfl (nofun) .none ?_
   refine JL_nil ?_
   refine KJ_nrm_then (KJ_J ?_)
   replace hb7 := thenP_some hb7
   obtain ⟨z24, o22, ho23, tl25, rfl, hb7⟩ := hb7
   rw [List.append_assoc] at hS
   refine J_cutw (out := o22) S (tl25 ++ zv12) (fun (s20 : Unit) => [(0, Pr.yield l), (7, (Rep.sl (Rep.arr (Rep.int .u8) 1 8) 8).at a1), (8, (Rep.int .i64).at (a1.length : Int)), (9, (Rep.int .i64).at i13)]) (fun s20 C => Ent.box b19 (Rep.arr (Rep.int .u8) 1 8) x17 :: (C ++ R)) ?_ ?_
   ·have ho23c := capN_some ho23
    refine J_block ?_
    refine J_countW (n := 8) ho23c.2 (tl25 ++ zv12) S hS (by decide) ho23c.1 (fun i32 (s20 : Unit) => [(0, Pr.yield l), (7, (Rep.sl (Rep.arr (Rep.int .u8) 1 8) 8).at a1), (8, (Rep.int .i64).at (a1.length : Int)), (9, (Rep.int .i64).at i13), (13, (Rep.arr (Rep.int .u8) 1 8).at x17), (14, (Rep.int .i64).at i32)]) (fun i32 s20 C => Ent.box b19 (Rep.arr (Rep.int .u8) 1 8) x17 :: (C ++ R)) (.cons rfl (.cons rfl (.cons rfl (.cons rfl (.cons rfl (.cons rfl (.nil _))))))) rfl ?_ ?_
    ·intro i32 s20 C29 hi hgo hS
     refine J_seq (J_region (JLp (T_lss rfl rfl) rfl (nofun) .none (JL_nil (KJ_nrm_then (KJ_J ?_)))))
     refine J_seq (J_test rfl (fun hp => absurd (of_decide_eq_true hp) (by omega)) (fun _ => J_exit (KJ_exit_then (KJ_exit_then (KJ_exit_here ?_)))))
     exact KJ_otw s20 hgo hS (.cons rfl (.cons rfl (.cons rfl (.cons rfl (.nil _))))) rfl
    ·intro i32 s20 C29 st28 y30 zv31 hi33 hj34 hw35 hb26 hf27 hS
     refine J_seq (J_region (JLp (T_lss rfl rfl) rfl (nofun) .none (JL_nil (KJ_nrm_then (KJ_J ?_)))))
     refine J_seq (J_test rfl (fun _ => J_skip (KJ_nrm_then (KJ_J ?_))) (fun hp => absurd hj34 (of_decide_eq_false hp)))
     refine J_seq ?_
     refine J_block ?_
     refine J_seq ?_
     refine J_region ?_
     replace hb26 := bnd hb26; obtain ⟨x36, hx36, hb26⟩ := hb26
     refine JLp (T_index ty5 ar76 rfl rfl hx36) rfl (nofun) .none ?_
     refine JLp (T_assign rfl) rfl (nofun) .none ?_
     refine JL_nil ?_
     refine KJ_nrm_then (KJ_J ?_)
     refine J_seq ?_
     refine J_region ?_
     refine JLp (T_move rfl) rfl (nofun) .none ?_
     refine JLp (T_move rfl) rfl (nofun) .none ?_
     replace hb26 := emitP_some hb26
     obtain ⟨ys37, rfl, hb26⟩ := hb26
     refine JL.perm (List.perm_append_comm_assoc [Ent.box b19 (Rep.arr (Rep.int .u8) 1 8) x17] C29 R) ?_
     refine JLe (κ := C29) (T_yield (v := x36) (rest := ys37 ++ zv31) hR hS rfl (.mk rfl)) rfl .none fun q40 => ?_
     obtain ⟨⟨b38, C39⟩, hq401, hq402⟩ := q40
     refine JL.perm (List.perm_append_comm_assoc C39 [Ent.box b19 (Rep.arr (Rep.int .u8) 1 8) x17] R) ?_
     refine JLp (T_not rfl) rfl (nofun) .none ?_
     refine JL_nil ?_
     refine KJ_nrm_then (KJ_J ?_)
     refine J_test rfl (fun hq41 => ?_) (fun hq41 => ?_)
     ·refine J_ret ?_
      refine KJ_ret_blk ?_
      refine KJ_ret_then ?_
      refine KJ_ret_then ?_
      refine KJ_ret_blk ?_
      refine KJ_ret_kq ?_
      refine KJ_ret_blk ?_
      refine KJ_ret_then ?_
      refine KJ_ret_then ?_
      refine KJ_ret_blk ?_
      refine KJ_ret_kq ?_
      refine KJ.drop1 ?_
      exact KJ_reti rfl Try.results89 (.inr (hq402 (by simpa using hq41)))
     ·have hS := hq401 (by simpa using hq41)
      refine J_skip ?_
      refine KJ_nrm_blk ?_
      refine KJ_nrm_then (KJ_J ?_)
      refine J_region ?_
      refine JLp (T_addw rfl rfl hw35) rfl (nofun) .none ?_
      refine JLp (T_move rfl) rfl (nofun) .none ?_
      refine JL_nil ?_
      refine KJ_nrm_then ?_
      obtain ⟨rfl, rfl⟩ := injP hb26
      exact KJ_nxw () rfl hS (.cons rfl (.cons rfl (.cons rfl (.cons rfl (.cons rfl (.cons rfl (.nil _))))))) rfl
   ·intro s20 C42 hs hS
    subst hs
    replace hb7 : _ = some _ := hb7
    refine KJ_nrm_blk ?_
    refine KJ_nrm_then (KJ_J ?_)
    refine J_region ?_
    refine JLp (T_addw rfl rfl hw16) rfl (nofun) .none ?_
    refine JLp (T_move rfl) rfl (nofun) .none ?_
    refine JL_nil ?_
    refine KJ_nrm_then ?_
    refine KJ.drop1 ?_
    obtain ⟨rfl, rfl⟩ := injP hb7
    exact KJ_nxw () rfl hS (.cons rfl (.cons rfl (.cons rfl (.cons rfl (.nil _))))) rfl
 ·intro s1 C43 hs hS
  subst hs
  replace h : _ = some _ := h
  refine KJ_end_body ?_
  obtain ⟨rfl, _⟩ := injP h
  exact KJ_reti rfl Try.results89 (.inl hS)
end Go.Proofs.Ytogflgcngfghpaa
end
section
set_option maxHeartbeats 4000000
set_option linter.unusedVariables false
set_option linter.unusedSimpArgs false
namespace Go.Proofs.Ytogflgcngfghpaa
open Go.J
def f_checksum_Sectors (a0 : List (List Int)) : Option (Int) :=
 (f_checksum_Sectors_1 a0).bind fun x1 => (f_checksum_digest x1).bind fun x2 => some x2
theorem c_checksum_Sectors {a0 : List (List Int)} {r : Int} (h : f_checksum_Sectors a0 = some r) : Ct Try.prog 78 [(Rep.sl (Rep.arr (Rep.int .u8) 1 8) 8).at a0] [] (fun _ : Unit => (Rep.int .u64).at r) (fun _ => []) := by
 refine Ct.mk Try.func78 rfl Try.ntmps78 (by simp) fun I R => ?_
 refine J.drop0 ?_
 unfold f_checksum_Sectors at h
 refine J_seq ?_
 refine J_region ?_
 refine JLe0 (T_box (ρ := (Rep.sl (Rep.arr (Rep.int .u8) 1 8) 8)) (.mk rfl)) rfl .none ?_
 refine JLp (T_assign rfl) rfl (nofun) .none ?_
 refine JL_nil ?_
 refine KJ_nrm_then (KJ_J ?_)
 refine J_seq ?_
 refine J_region ?_
 replace h := bnd h; obtain ⟨x1, hx1, h⟩ := h
 refine JLp (T_mkit (c_checksum_Sectors_1 hx1) ⟨.mk rfl, trivial⟩) rfl (nofun) .none ?_
 replace h := bnd h; obtain ⟨x2, hx2, h⟩ := h
 refine JLe0 (T_call ⟨_, Try.func88, rfl, rfl⟩ (c_checksum_digest hx2) ⟨(.mk rfl), trivial⟩) rfl .none ?_
 refine JLp (T_assign rfl) rfl (nofun) .none ?_
 refine JL_nil ?_
 refine KJ_nrm_then (KJ_J ?_)
 refine J_ret ?_
 obtain rfl := inj h
 exact KJ_ret1' Try.results78 (.tmp (.mk rfl) Rv.nil) rfl rfl
end Go.Proofs.Ytogflgcngfghpaa
end
section
set_option maxHeartbeats 4000000
set_option linter.unusedVariables false
set_option linter.unusedSimpArgs false
namespace Go.Proofs.Ytogflgcngfghpaa
open Go.J
def f_hashtree_Build (a0 : List (List Int)) (a1 : Int) : Option (api_Tree × Int) :=
 (f_hashtree_limits (a0.length : Int) a1).bind fun x2 => if (!decide (x2 = 0)) = true then some ((⟨0, 0, []⟩ : api_Tree), x2) else (f_slices_Chunk_api_Sector_api_Sector a0 a1).bind fun x5 => (eachN (σ := List Int) (fun x8 s6 => (f_checksum_Sectors x8).bind fun x13 => (app 8 s6 [x13]).bind fun x14 => some (Rd.next x14)) x5 []).bind fun so9 => (f_hashtree_above (a0.length : Int) a1 so9).bind fun x17 => some (x17, 0)
theorem c_hashtree_Build {a0 : List (List Int)} {a1 : Int} {r : api_Tree × Int} (h : f_hashtree_Build a0 a1 = some r) : Ct Try.prog 59 [(Rep.sl (Rep.arr (Rep.int .u8) 1 8) 8).at a0, (Rep.int .i64).at a1] [] (fun _ : Unit => Pr.tup [r_api_Tree.at r.1, (Rep.int .i64).at r.2]) (fun _ => []) := by
 refine Ct.mkM Try.func59 rfl Try.ntmps59 (by simp) fun I R => ?_
 refine J.drop0 ?_
 unfold f_hashtree_Build at h
 refine J_seq ?_
 refine J_region ?_
 refine JLa (T_alloc z24 lay_api_Tree) rfl .none fun b1 => ?_
 refine JLp (T_assign rfl) rfl (nofun) .none ?_
 refine JL_nil ?_
 refine KJ_nrm_then (KJ_J ?_)
 refine J_seq ?_
 refine J_seq ?_
 refine J_region ?_
 refine JLp (T_move rfl) rfl (nofun) .none ?_
 refine JLp (T_len (ρ := (Rep.arr (Rep.int .u8) 1 8)) sl64 (.mk rfl)) rfl (nofun) .none ?_
 refine JLp (T_move rfl) rfl (nofun) .none ?_
 replace h := bnd h; obtain ⟨x2, hx2, h⟩ := h
 refine JLe0 (T_call ⟨_, Try.func64, rfl, rfl⟩ (c_hashtree_limits hx2) ⟨(.mk rfl), ⟨(.mk rfl), trivial⟩⟩) rfl .none ?_
 refine JLp (T_assign rfl) rfl (nofun) .none ?_
 refine JL_nil ?_
 refine KJ_nrm_then (KJ_J ?_)
 refine J_seq ?_
 refine J_region ?_
 refine JLp (T_move rfl) rfl (nofun) .none ?_
 refine JLp (T_neq rfl rfl) rfl (nofun) .none ?_
 refine JL_nil ?_
 refine KJ_nrm_then (KJ_J ?_)
 refine J_test rfl (fun hq3 => ?_) (fun hq3 => ?_)
 ·replace h := ift hq3 h
  refine J_seq ?_
  refine J_region ?_
  refine JLp (T_build (s' := (⟨0, 0, []⟩ : api_Tree)) bd24 z24 lay_api_Tree .nil) rfl (nofun) .none ?_
  refine JLp (T_move rfl) rfl (nofun) .none ?_
  refine JLn1 (T_store ty24 rfl (.mk rfl) (SetF.self lay_api_Tree)) .none ?_
  refine JLp (T_assign rfl) rfl (nofun) .none ?_
  refine JL_nil ?_
  refine KJ_nrm_then (KJ_J ?_)
  refine J_ret ?_
  refine KJ_ret_then ?_
  obtain rfl := inj h
  exact KJ_retMn (M := []) (J := [Ent.box b1 r_api_Tree (⟨0, 0, []⟩ : api_Tree)]) () marks.nil rfl Try.results59 (.cell ty24 rfl (by simp) (.tmp (.mk rfl) Rv.nil)) rfl (by simp)
 ·replace h := iff_ hq3 h
  refine J_skip ?_
  refine KJ_nrm_then (KJ_J ?_)
  refine J_seq ?_
  refine J_region ?_
  refine JLa (T_alloc zv67 Lay.slv) rfl .none fun b4 => ?_
  refine JL_nil ?_
  refine KJ_nrm_then (KJ_J ?_)
  refine J_seq ?_
  refine J_seq ?_
  refine J_region ?_
  refine JLp (T_move rfl) rfl (nofun) .none ?_
  refine JLp (T_move rfl) rfl (nofun) .none ?_
  replace h := bnd h; obtain ⟨x5, hx5, h⟩ := h
  refine JLe0 (T_call ⟨_, Try.func77, rfl, rfl⟩ (c_slices_Chunk_api_Sector_api_Sector hx5) ⟨(.mk rfl), ⟨(.mk rfl), trivial⟩⟩) rfl .none ?_
  refine JL_nil ?_
  refine KJ_nrm_then (KJ_J ?_)
  refine J_rownil 73 1 (Rep.int .u64) ?_
  replace h := bnd h; obtain ⟨so9, ho10, h⟩ := h
  refine J_rforN ho10 [(0, (Rep.sl (Rep.arr (Rep.int .u8) 1 8) 8).at a0), (1, (Rep.int .i64).at a1), (4, Rep.ptr.at (b1, 0)), (7, Rep.ptr.at (b4, 0)), (19, (Rep.iter Try.prog (Rep.sl (Rep.arr (Rep.int .u8) 1 8) 8)).at x5)] (fun x8 (gx : Unit) => [(0, (Rep.sl (Rep.arr (Rep.int .u8) 1 8) 8).at a0), (1, (Rep.int .i64).at a1), (4, Rep.ptr.at (b1, 0)), (7, Rep.ptr.at (b4, 0)), (19, (Rep.iter Try.prog (Rep.sl (Rep.arr (Rep.int .u8) 1 8) 8)).at x5), (8, (Rep.sl (Rep.arr (Rep.int .u8) 1 8) 8).at x8)]) (fun x8 gx => []) (fun (s6 : List Int) (g7 : Value) => [Ent.row g7 73 1 (Rep.int .u64) s6, Ent.box b4 Rep.slv g7, Ent.box b1 r_api_Tree (⟨0, 0, []⟩ : api_Tree)]) (.slice none 0 0) rfl (.mk rfl) (.cons rfl (.cons rfl (.cons rfl (.cons rfl (.cons rfl (.nil _)))))) rfl rfl ?_ ?_ ?_
  ·intro l I1 R1 x8 s6 g7
   refine J_region ?_
   refine JLp (T_assign rfl) rfl (nofun) .none ?_
   refine JL_nil ?_
   exact KJ_rfa () (.cons rfl (.cons rfl (.cons rfl (.cons rfl (.cons rfl (.cons rfl (.nil _))))))) rfl
  ·intro l I1 R1 x8 gx s6 g7 st12 hb11
   refine J_block ?_
   replace hb11 := bnd hb11; obtain ⟨x13, hx13, hb11⟩ := hb11
   refine J_drawR (Ks := []) rfl (by kernel_rfl) fun K hK => ?_
   refine DR.p (.base (t := 7) rfl .nil) (T_loadw tv67 rfl) .none rfl rfl B1 ?_
   refine DR.p (.base (t := 8) rfl .nil) (T_move rfl) .none rfl rfl (nofun) ?_
   refine DR.e (.dep 1 0 rfl rfl rfl .nil) (T_call ⟨_, Try.func78, rfl, rfl⟩ (c_checksum_Sectors hx13) ⟨(.mk rfl), trivial⟩) .none rfl rfl ?_
   refine DR.e (.dep 2 0 rfl rfl rfl .nil) (T_bslice (ρ := (Rep.int .u64)) sl67 (Lay.int _) (.cons (.mk rfl) .nil) rfl (by decide)) .none rfl rfl ?_
   refine DR.tail (by kernel_rfl) (.refl _) rfl ?_
   simp only [List.reverse_cons, List.reverse_nil, List.nil_append, List.cons_append, DT]
   replace hb11 := bnd hb11; obtain ⟨x14, hx14, hb11⟩ := hb11
   refine JLe1 (T_append sl67 ⟨_, (Lay.int _)⟩ (.mk rfl) (.mk rfl) hx14) rfl .none fun g15 => ?_
   refine JL.perm F1 ?_
   refine JLn1 (T_store tv67 rfl (.mk rfl) (SetF.self Lay.slv)) .none ?_
   refine JL_nil (KJ_hid hK ?_)
   refine KJ_nrm_blk ?_
   refine KJ.perm F2 ?_
   refine KJ.perm F1 ?_
   refine KJ.perm F2 ?_
   exact KJ_rq x14 g15 (inj hb11) rfl
  ·intro r16 g7
   refine KJ_nrm_then (KJ_J ?_)
   refine J_seq ?_
   refine J_region ?_
   refine JLp (T_move rfl) rfl (nofun) .none ?_
   refine JLp (T_len (ρ := (Rep.arr (Rep.int .u8) 1 8)) sl64 (.mk rfl)) rfl (nofun) .none ?_
   refine JLp (T_move rfl) rfl (nofun) .none ?_
   refine JLp (T_loadw tv67 rfl) rfl B2 .none ?_
   replace h := bnd h; obtain ⟨x17, hx17, h⟩ := h
   refine JL.perm F2 ?_
   refine JL.perm F2 ?_
   refine JL_closeT 29 so9 (fun I h => Clp.sl h) rfl ?_
   refine JLe0 (T_call ⟨_, Try.func66, rfl, rfl⟩ (c_hashtree_above hx17) ⟨(.mk rfl), ⟨(.mk rfl), ⟨(.mk rfl), trivial⟩⟩⟩) rfl .none ?_
   refine JL.perm F2 ?_
   refine JLn1 (T_store ty24 rfl (.mk rfl) (SetF.self lay_api_Tree)) .none ?_
   refine JLp (T_assign rfl) rfl (nofun) .none ?_
   refine JL_nil ?_
   refine KJ_nrm_then (KJ_J ?_)
   refine J_ret ?_
   refine KJ.perm F1 ?_
   refine KJ.perm F1 ?_
   refine KJ.perm F2 ?_
   obtain rfl := inj h
   exact KJ_retMn (M := [Ent.mark r16]) (J := [Ent.box b1 r_api_Tree x17, Ent.box b4 (Rep.sl (Rep.int .u64) 1) so9]) () (marks.cons marks.nil) rfl Try.results59 (.cell ty24 rfl (by simp) (.tmp (.mk rfl) Rv.nil)) rfl (by simp)
end Go.Proofs.Ytogflgcngfghpaa
end
section
set_option maxHeartbeats 4000000
set_option linter.unusedVariables false
set_option linter.unusedSimpArgs false
namespace Go.Proofs.Ytogflgcngfghpaa
open Go.J
def f_law44_trees (a0 : List (List Int)) (a1 : List (List Int)) (a2 : Int) : Option (api_Tree × api_Tree × Bool) :=
 (if (decide (100 < (a0.length : Int))) = true then some true else some (!decide ((a0.length : Int) = (a1.length : Int)))).bind fun c3 => if c3 = true then some ((⟨0, 0, []⟩ : api_Tree), (⟨0, 0, []⟩ : api_Tree), false) else (f_hashtree_Build a0 (IntKind.i64.wrap ((IntKind.i64.wrap (Int.tmod a2 12)) + 1))).bind fun x6 => (f_hashtree_Build a1 (IntKind.i64.wrap ((IntKind.i64.wrap (Int.tmod a2 12)) + 1))).bind fun x8 => (if (decide (x6.2 = 0)) = true then some (decide (x8.2 = 0)) else some false).bind fun c10 => some (x6.1, x8.1, c10)
theorem c_law44_trees {a0 : List (List Int)} {a1 : List (List Int)} {a2 : Int} {r : api_Tree × api_Tree × Bool} (h : f_law44_trees a0 a1 a2 = some r) : Ct Try.prog 26 [(Rep.sl (Rep.arr (Rep.int .u8) 1 8) 8).at a0, (Rep.sl (Rep.arr (Rep.int .u8) 1 8) 8).at a1, (Rep.int .u8).at a2] [] (fun _ : Unit => Pr.tup [r_api_Tree.at r.1, r_api_Tree.at r.2.1, Rep.bool.at r.2.2]) (fun _ => []) := by
 refine Ct.mk Try.func26 rfl Try.ntmps26 (by simp) fun I R => ?_
 refine J.drop0 ?_
 unfold f_law44_trees at h
 refine J_seq ?_
 refine J_region ?_
 refine JLa (T_alloc z24 lay_api_Tree) rfl .none fun b1 => ?_
 refine JLa (T_alloc z24 lay_api_Tree) rfl .none fun b2 => ?_
 refine JLp (T_assign rfl) rfl (nofun) .none ?_
 refine JL_nil ?_
 refine KJ_nrm_then (KJ_J ?_)
 refine J_seq ?_
 refine J_seq ?_
 refine J_region ?_
 refine JLp (T_move rfl) rfl (nofun) .none ?_
 refine JLp (T_len (ρ := (Rep.arr (Rep.int .u8) 1 8)) sl64 (.mk rfl)) rfl (nofun) .none ?_
 refine JLp (T_gtr rfl rfl) rfl (nofun) .none ?_
 refine JLp (T_move rfl) rfl (nofun) .none ?_
 replace h := bnd h; obtain ⟨c3, hc3, h⟩ := h
 refine JL_at 6 [(0, (Rep.sl (Rep.arr (Rep.int .u8) 1 8) 8).at a0), (1, (Rep.sl (Rep.arr (Rep.int .u8) 1 8) 8).at a1), (2, (Rep.int .u8).at a2), (6, Rep.ptr.at (b1, 0)), (7, Rep.ptr.at (b2, 0)), (23, Rep.bool.at c3)] (Ent.box b2 r_api_Tree (⟨0, 0, []⟩ : api_Tree) :: Ent.box b1 r_api_Tree (⟨0, 0, []⟩ : api_Tree) :: R) ?_ ?_
 ·rcases Bool.eq_false_or_eq_true (decide (100 < (a0.length : Int))) with hq4 | hq4
  ·replace hc3 := ift hq4 hc3
   obtain rfl := inj hc3
   refine JLs rfl rfl hq4 rfl ?_
   refine JLs rfl rfl hq4 rfl ?_
   refine JLs rfl rfl hq4 rfl ?_
   refine JLs rfl rfl hq4 rfl ?_
   refine JLs rfl rfl hq4 rfl ?_
   refine JLp (T_pickT rfl hq4 rfl) rfl (nofun) .none ?_
   refine JL_nil ?_
   exact KJ.sub KJ_end (.cons rfl (.cons rfl (.cons rfl (.cons rfl (.cons rfl (.cons rfl (.nil _)))))))
  ·replace hc3 := iff_ hq4 hc3
   refine JLp (T_move rfl) rfl (nofun) (.y rfl rfl hq4) ?_
   refine JLp (T_len (ρ := (Rep.arr (Rep.int .u8) 1 8)) sl64 (.mk rfl)) rfl (nofun) (.y rfl rfl hq4) ?_
   refine JLp (T_move rfl) rfl (nofun) (.y rfl rfl hq4) ?_
   refine JLp (T_len (ρ := (Rep.arr (Rep.int .u8) 1 8)) sl64 (.mk rfl)) rfl (nofun) (.y rfl rfl hq4) ?_
   refine JLp (T_neq rfl rfl) rfl (nofun) (.y rfl rfl hq4) ?_
   obtain rfl := inj hc3
   refine JLp (T_pickF rfl hq4 rfl) rfl (nofun) .none ?_
   refine JL_nil ?_
   exact KJ.sub KJ_end (.cons rfl (.cons rfl (.cons rfl (.cons rfl (.cons rfl (.cons rfl (.nil _)))))))
 refine JL_nil ?_
 refine KJ_nrm_then (KJ_J ?_)
 refine J_test rfl (fun hq5 => ?_) (fun hq5 => ?_)
 ·replace h := ift hq5 h
  refine J_seq ?_
  refine J_region ?_
  refine JLp (T_build (s' := (⟨0, 0, []⟩ : api_Tree)) bd24 z24 lay_api_Tree .nil) rfl (nofun) .none ?_
  refine JLp (T_build (s' := (⟨0, 0, []⟩ : api_Tree)) bd24 z24 lay_api_Tree .nil) rfl (nofun) .none ?_
  refine JL.perm F1 ?_
  refine JLn1 (T_store ty24 rfl (.mk rfl) (SetF.self lay_api_Tree)) .none ?_
  refine JL.perm F1 ?_
  refine JLn1 (T_store ty24 rfl (.mk rfl) (SetF.self lay_api_Tree)) .none ?_
  refine JLp (T_assign rfl) rfl (nofun) .none ?_
  refine JL_nil ?_
  refine KJ_nrm_then (KJ_J ?_)
  refine J_ret ?_
  refine KJ_ret_then ?_
  obtain rfl := inj h
  exact KJ_retnc () [Ent.box b2 r_api_Tree (⟨0, 0, []⟩ : api_Tree), Ent.box b1 r_api_Tree (⟨0, 0, []⟩ : api_Tree)] rfl Try.results26 (.cell ty24 rfl (by simp) (.cell ty24 rfl (by simp) (.tmp (.mk rfl) Rv.nil))) rfl (by simp) rfl
 ·replace h := iff_ hq5 h
  refine J_skip ?_
  refine KJ_nrm_then (KJ_J ?_)
  refine J_seq ?_
  refine J_region ?_
  refine JLp (T_move rfl) rfl (nofun) .none ?_
  refine JLp (T_rem rfl rfl (by decide)) rfl (nofun) .none ?_
  refine JLp (T_conv rfl Try.underlying5 Try.underlying3) rfl (nofun) .none ?_
  refine JLp (T_add rfl rfl) rfl (nofun) .none ?_
  refine JLp (T_assign rfl) rfl (nofun) .none ?_
  refine JL_nil ?_
  refine KJ_nrm_then (KJ_J ?_)
  refine J_seq ?_
  refine J_region ?_
  refine JLp (T_move rfl) rfl (nofun) .none ?_
  refine JLp (T_move rfl) rfl (nofun) .none ?_
  replace h := bnd h; obtain ⟨x6, hx6, h⟩ := h
  refine JLe0 (T_call ⟨_, Try.func59, rfl, rfl⟩ (c_hashtree_Build hx6) ⟨(.mk rfl), ⟨(.mk rfl), trivial⟩⟩) rfl .none ?_
  refine JLp (T_move rfl) rfl (nofun) .none ?_
  refine JLp (T_extract rfl rfl) rfl (nofun) .none ?_
  refine JLp (T_extract rfl rfl) rfl (nofun) .none ?_
  refine JLa (T_alloc z24 lay_api_Tree) rfl .none fun b7 => ?_
  refine JLn1 (T_store ty24 rfl (.mk rfl) (SetF.self lay_api_Tree)) .none ?_
  refine JLp (T_assign rfl) rfl (nofun) .none ?_
  refine JL_nil ?_
  refine KJ_nrm_then (KJ_J ?_)
  refine J_seq ?_
  refine J_region ?_
  refine JLp (T_move rfl) rfl (nofun) .none ?_
  refine JLp (T_move rfl) rfl (nofun) .none ?_
  replace h := bnd h; obtain ⟨x8, hx8, h⟩ := h
  refine JLe0 (T_call ⟨_, Try.func59, rfl, rfl⟩ (c_hashtree_Build hx8) ⟨(.mk rfl), ⟨(.mk rfl), trivial⟩⟩) rfl .none ?_
  refine JLp (T_move rfl) rfl (nofun) .none ?_
  refine JLp (T_extract rfl rfl) rfl (nofun) .none ?_
  refine JLp (T_extract rfl rfl) rfl (nofun) .none ?_
  refine JLa (T_alloc z24 lay_api_Tree) rfl .none fun b9 => ?_
  refine JLn1 (T_store ty24 rfl (.mk rfl) (SetF.self lay_api_Tree)) .none ?_
  refine JLp (T_assign rfl) rfl (nofun) .none ?_
  refine JL_nil ?_
  refine KJ_nrm_then (KJ_J ?_)
  refine J_seq ?_
  refine J.perm F2 ?_
  refine J.perm F3 ?_
  replace h := bnd h; obtain ⟨c10, hc10, h⟩ := h
  refine J_cutN [(6, Rep.ptr.at (b1, 0)), (7, Rep.ptr.at (b2, 0)), (8, Rep.bool.at c10)] (Ent.box b2 r_api_Tree x8.1 :: Ent.box b1 r_api_Tree x6.1 :: Ent.box b9 r_api_Tree x8.1 :: Ent.box b7 r_api_Tree x6.1 :: R) ?_ ?_
  ·rcases Bool.eq_false_or_eq_true (decide (x6.2 = 0)) with hqc10 | hqc10
   ·replace hc10 := ift hqc10 hc10
    obtain rfl := inj hc10
    refine J_drawR (Ks := [Ent.box b1 r_api_Tree (⟨0, 0, []⟩ : api_Tree), Ent.box b2 r_api_Tree (⟨0, 0, []⟩ : api_Tree)]) rfl (by kernel_rfl) fun K hK => ?_
    refine DR.p (.base (t := 10) rfl .nil) (T_loadw ty24 rfl) .none rfl rfl B1 ?_
    refine DR.p (.base (t := 12) rfl .nil) (T_loadw ty24 rfl) .none rfl rfl B0 ?_
    refine DR.p (.base (t := 11) rfl .nil) (T_move rfl) .none rfl rfl (nofun) ?_
    refine DR.p (.dep 2 0 rfl rfl rfl .nil) (T_eql rfl rfl) .none rfl rfl (nofun) ?_
    refine DR.p (.dep 3 0 rfl rfl rfl .nil) (T_move rfl) .none rfl rfl (nofun) ?_
    refine DR.p (.base (t := 13) rfl (.dep 4 0 rfl rfl rfl .nil)) (T_move rfl) (.y rfl rfl hqc10) rfl rfl (nofun) ?_
    refine DR.p (.dep 5 0 rfl rfl rfl (.dep 4 1 rfl rfl rfl .nil)) (T_eql rfl rfl) (.y rfl rfl hqc10) rfl rfl (nofun) ?_
    refine DR.p (.dep 4 2 rfl rfl rfl (.dep 6 0 rfl rfl rfl .nil)) (T_pickT rfl hqc10 rfl) .none rfl rfl (nofun) ?_
    refine DR.w (κ := [Ent.box b1 r_api_Tree (⟨0, 0, []⟩ : api_Tree)]) (ε := [Ent.box b1 r_api_Tree x6.1]) (.base (t := 6) rfl (.dep 0 7 rfl rfl rfl .nil)) (T_store ty24 rfl (.mk rfl) (SetF.self lay_api_Tree)) .none ?_
    refine DR.w (κ := [Ent.box b2 r_api_Tree (⟨0, 0, []⟩ : api_Tree)]) (ε := [Ent.box b2 r_api_Tree x8.1]) (.base (t := 7) rfl (.dep 1 7 rfl rfl rfl .nil)) (T_store ty24 rfl (.mk rfl) (SetF.self lay_api_Tree)) .none ?_
    refine DR.tail (by kernel_rfl) (.refl _) rfl ?_
    simp only [List.reverse_cons, List.reverse_nil, List.nil_append, List.cons_append, DT]
    refine JLp (T_assign rfl) rfl (nofun) .none ?_
    refine JL_nil (KJ_hid hK ?_)
    exact KJ.sub KJ_end (.cons rfl (.cons rfl (.cons rfl (.nil _))))
   ·replace hc10 := iff_ hqc10 hc10
    obtain rfl := inj hc10
    refine J_drawR (Ks := [Ent.box b1 r_api_Tree (⟨0, 0, []⟩ : api_Tree), Ent.box b2 r_api_Tree (⟨0, 0, []⟩ : api_Tree)]) rfl (by kernel_rfl) fun K hK => ?_
    refine DR.p (.base (t := 10) rfl .nil) (T_loadw ty24 rfl) .none rfl rfl B1 ?_
    refine DR.p (.base (t := 12) rfl .nil) (T_loadw ty24 rfl) .none rfl rfl B0 ?_
    refine DR.p (.base (t := 11) rfl .nil) (T_move rfl) .none rfl rfl (nofun) ?_
    refine DR.p (.dep 2 0 rfl rfl rfl .nil) (T_eql rfl rfl) .none rfl rfl (nofun) ?_
    refine DR.p (.dep 3 0 rfl rfl rfl .nil) (T_move rfl) .none rfl rfl (nofun) ?_
    refine DR.x (.dep 4 0 rfl rfl rfl .nil) rfl rfl hqc10 rfl rfl ?_
    refine DR.x (.dep 4 1 rfl rfl rfl .nil) rfl rfl hqc10 rfl rfl ?_
    refine DR.p (.dep 4 2 rfl rfl rfl (.dep 6 0 rfl rfl rfl .nil)) (T_pickF rfl hqc10 rfl) .none rfl rfl (nofun) ?_
    refine DR.w (κ := [Ent.box b1 r_api_Tree (⟨0, 0, []⟩ : api_Tree)]) (ε := [Ent.box b1 r_api_Tree x6.1]) (.base (t := 6) rfl (.dep 0 7 rfl rfl rfl .nil)) (T_store ty24 rfl (.mk rfl) (SetF.self lay_api_Tree)) .none ?_
    refine DR.w (κ := [Ent.box b2 r_api_Tree (⟨0, 0, []⟩ : api_Tree)]) (ε := [Ent.box b2 r_api_Tree x8.1]) (.base (t := 7) rfl (.dep 1 7 rfl rfl rfl .nil)) (T_store ty24 rfl (.mk rfl) (SetF.self lay_api_Tree)) .none ?_
    refine DR.tail (by kernel_rfl) (.refl _) rfl ?_
    simp only [List.reverse_cons, List.reverse_nil, List.nil_append, List.cons_append, DT]
    refine JLp (T_assign rfl) rfl (nofun) .none ?_
    refine JL_nil (KJ_hid hK ?_)
    exact KJ.sub KJ_end (.cons rfl (.cons rfl (.cons rfl (.nil _))))
  ·refine KJ_nrm_then (KJ_J ?_)
   refine J_ret ?_
   obtain rfl := inj h
   exact KJ_retnc () [Ent.box b2 r_api_Tree x8.1, Ent.box b1 r_api_Tree x6.1, Ent.box b9 r_api_Tree x8.1, Ent.box b7 r_api_Tree x6.1] rfl Try.results26 (.cell ty24 rfl (by simp) (.cell ty24 rfl (by simp) (.tmp (.mk rfl) Rv.nil))) rfl (by simp) rfl
end Go.Proofs.Ytogflgcngfghpaa
end
section
set_option maxHeartbeats 1000000
set_option linter.unusedVariables false
set_option linter.unusedSimpArgs false
namespace Go.Proofs.Ytogflgcngfghpaa
open Go.J
theorem wrap_U64 (x : Int) : U64 (IntKind.u64.wrap x) := by
  unfold U64
  simp only [IntKind.wrap, IntKind.bits, IntKind.signed]
  simp
  omega
theorem fin_U64 (h : Int) : U64 (finS h) := wrap_U64 _
theorem up_U64 : ∀ {l : List Int}, (∀ x ∈ l, U64 x) → ∀ x ∈ upS l, U64 x
  | [], _, x, hx => by simp [upS] at hx
  | [a], h, x, hx => h x (by simpa [upS] using hx)
  | a :: b :: r, h, x, hx => by
    rcases List.mem_cons.1 (show x ∈ pairS a b :: upS r from hx) with rfl | hx
    · exact fin_U64 _
    · exact up_U64 (fun y hy => h y (by simp [hy])) x hx
theorem lvS_U64 : ∀ (n : Nat) {l : List Int}, (∀ x ∈ l, U64 x) → ∀ m ∈ lvS n l, ∀ x ∈ m, U64 x
  | 0, l, h, m, hm, x, hx => by simp [lvS] at hm; subst hm; exact h x hx
  | n + 1, l, h, m, hm, x, hx => by
    simp only [lvS] at hm
    split at hm
    · simp at hm; subst hm; exact h x hx
    · rcases List.mem_cons.1 hm with rfl | hm
      · exact h x hx
      · exact lvS_U64 n (up_U64 h) m hm x hx
theorem lvS_shp : ∀ (n : Nat) (l : List Int), 1 ≤ l.length → l.length ≤ n → shp (lvS n l) l.length = true
  | 0, l, h, h2 => by omega
  | n + 1, l, h, h2 => by
    simp only [lvS]
    split
    · simp [shp]; omega
    · rename_i h3
      have hu := upS_len l
      have := lvS_shp n (upS l) (by omega) (by omega)
      rw [hu] at this
      cases hc : lvS n (upS l) with
      | nil => rw [hc] at this; simp [shp] at this
      | cons a r =>
        rw [hc] at this
        simp [shp, this]; omega
theorem lvS_head (n : Nat) (l : List Int) : (lvS n l).headD [] = l := by
  cases n with
  | zero => rfl
  | succ n => simp only [lvS]; split <;> rfl
theorem lvS_up : ∀ (n : Nat) (l : List Int) (i : Nat), i + 1 < (lvS n l).length → (lvS n l).getD (i + 1) [] = upS ((lvS n l).getD i [])
  | 0, l, i, h => by simp [lvS] at h
  | n + 1, l, i, h => by
    simp only [lvS] at h ⊢
    split at h
    · simp at h
    · rename_i h2
      rw [if_neg h2]
      cases i with
      | zero =>
        have := lvS_head n (upS l)
        cases hc : lvS n (upS l) with
        | nil => rw [hc] at h; simp at h
        | cons a r => rw [hc] at this; simpa using this
      | succ i =>
        have := lvS_up n (upS l) i (by simpa using h)
        simpa using this
theorem leaves_nat {n c : Nat} : leavesS (n : Int) (c : Int) = (n + c - 1) / c := by
  unfold leavesS
  by_cases h : n + c = 0
  · have h1 : n = 0 := by omega
    have h2 : c = 0 := by omega
    subst h1; subst h2; rfl
  · rw [show ((n : Int) + (c : Int) - 1) = ((n + c - 1 : Nat) : Int) by omega]
    rw [← Int.natCast_ediv]; rfl
theorem sectors1_eq {l : List (List Int)} (h : ∀ x ∈ l, x.length = 8) : f_checksum_Sectors_1 l = some l.flatten := by
  unfold f_checksum_Sectors_1
  have := rangeW_inv (β := Int) (ρ := Unit) (b := fun (i13 : Int) (x17 : List Int) (s1 : Unit) => thenP (capN 8 (countW (σ := Unit) (ρ := Rd (Unit) (Unit)) (β := Int) (fun i32 s20 => (idx x17 i32).bind fun x36 => emitP x36 (some ([], Rd.next ()))) ((8 : Int) - 0).toNat 0 ())) fun s20 => some ([], Rd.next ())) (fun _ => ()) (fun _ x => x) (l := l) (fun pre x suf hp => by
    have hx := h x (by rw [hp]; simp)
    have hc := countW_inv (β := Int) (ρ := Rd Unit Unit) (b := fun i32 (s20 : Unit) => (idx x i32).bind fun x36 => emitP x36 (some ([], Rd.next ()))) (fun _ => ()) (fun k => [x.getD k 0]) (n := 8) (fun k hk => by
      skip
      rw [idx_get (show k < x.length by omega)]
      simp only [Option.bind_some]
      rw [List.getD_eq_getElem?_getD, List.getElem?_eq_getElem (by omega)]
      rfl) 8 0 rfl
    rw [show ((0 : Nat) : Int) = 0 from rfl] at hc
    rw [show ((8 : Int) - 0).toNat = 8 from rfl, hc]
    unfold capN
    rw [if_pos (by omega)]
    have e : (List.range' 0 8).flatMap (fun k => [x.getD k 0]) = x := by
      match x, hx with
      | [a, b, c, d, e, f, g, i], _ => rfl
    simp only [thenP, Option.bind_some, Option.map_some, List.append_nil, e]) (fun pre => pre.flatten) rfl (fun pre x suf _ => by simp)
  rw [this]
  simp [thenP]
theorem sectors_eq {l : List (List Int)} (h : ∀ x ∈ l, x.length = 8) : f_checksum_Sectors l = some (finS (digestS l.flatten)) := by
  unfold f_checksum_Sectors
  rw [sectors1_eq h]
  simp only [Option.bind_some, digest_eq]
def sumsS (v : List (List Int)) (c : Nat) : List Int := (chunksS v c).map fun l => finS (digestS l.flatten)
theorem sums_len (v : List (List Int)) (c : Nat) : (sumsS v c).length = (v.length + c - 1) / c := by simp [sumsS, chunksS]
def builtS (v : List (List Int)) (c : Nat) : api_Tree := ⟨v.length, c, lvS (sumsS v c).length (sumsS v c)⟩
theorem build_eq {v : List (List Int)} {c : Nat} (h : ∀ x ∈ v, x.length = 8) (hv : v.length ≤ 100) (hc : 1 ≤ c) (hc2 : c ≤ 100) : f_hashtree_Build v (c : Int) = some (if v.length = 0 then (⟨0, 0, []⟩, 2) else (builtS v c, 0)) := by
  unfold f_hashtree_Build f_hashtree_limits
  by_cases h0 : v.length = 0
  · simp [h0]
  · have e1 : decide ((v.length : Int) < 1) = false := by simp; omega
    have e2 : decide (4096 < (v.length : Int)) = false := by simp; omega
    have e3 : decide ((c : Int) < 1) = false := by simp; omega
    have e4 : decide (4096 < (c : Int)) = false := by simp; omega
    simp only [e1, e2, e3, e4, Bool.false_eq_true, if_false, Option.bind_some, decide_true, Bool.not_true]
    unfold f_slices_Chunk_api_Sector_api_Sector f_slices_Chunk_api_Sector_api_Sector_1
    simp only [e3, Bool.false_eq_true, if_false, Option.bind_some, Fl.then_go]
    obtain ⟨e, he⟩ := chunk_way v c hc (by omega) (by omega)
    rw [he]
    simp only [thenP, Option.bind_some, Option.map_some, List.append_nil]
    have hdiv : (v.length + c - 1) / c ≤ v.length := by
      refine Nat.div_le_of_le_mul ?_
      have : v.length - 1 ≤ c * (v.length - 1) := Nat.le_mul_of_pos_left _ hc
      have e : c * v.length = c * (v.length - 1) + c := by
        rw [← Nat.mul_succ]; congr 1; omega
      omega
    have hch : (chunksS v c).length ≤ 100 := by simp [chunksS]; omega
    have hcm : ∀ l ∈ chunksS v c, ∀ x ∈ l, x.length = 8 := fun l hl x hx => by
      obtain ⟨k, _, rfl⟩ := List.mem_map.1 hl
      exact h x (List.mem_of_mem_drop (List.mem_of_mem_take hx))
    have key := eachN_inv (b := fun (x8 : List (List Int)) (s6 : List Int) => (f_checksum_Sectors x8).bind fun x13 => (app 8 s6 [x13]).bind fun x14 => some (Rd.next x14)) (fun pre => pre.map fun l => finS (digestS l.flatten)) (l := chunksS v c) (fun pre x suf hp => by
      have hpl : pre.length ≤ 100 := by rw [hp] at hch; simp at hch; omega
      rw [sectors_eq (hcm x (by rw [hp]; simp))]
      simp only [Option.bind_some]
      rw [app_ok (by simp [lim]; omega) (by simp [lim]; omega)]
      simp)
    rw [show ([] : List (List (List Int))).map (fun l => finS (digestS l.flatten)) = [] from rfl] at key
    rw [key]
    simp only [Option.bind_some]
    have hsl := sums_len v c
    have hs1 : 1 ≤ (v.length + c - 1) / c := (Nat.le_div_iff_mul_le (by omega)).2 (by omega)
    rw [show ((chunksS v c).map fun l => finS (digestS l.flatten)) = sumsS v c from rfl, above_eq (by omega) (by omega)]
    simp [h0, builtS]
theorem built_good {v : List (List Int)} {c : Nat} (h0 : v.length ≠ 0) (hv : v.length ≤ 100) (hc : 1 ≤ c) (hc2 : c ≤ 100) : checkS (builtS v c) = 0 := by
  have hsl := sums_len v c
  have hs1 : 1 ≤ (v.length + c - 1) / c := (Nat.le_div_iff_mul_le (by omega)).2 (by omega)
  unfold checkS
  have e1 : (builtS v c).Size = (v.length : Int) := rfl
  have e2 : (builtS v c).Leaf = (c : Int) := rfl
  have e3 : (builtS v c).Levels = lvS (sumsS v c).length (sumsS v c) := rfl
  rw [e1, e2, e3, if_neg (by omega), if_neg (by omega), leaves_nat, ← hsl, if_pos (lvS_shp _ _ (by omega) (Nat.le_refl _)), lvS_head, if_pos rfl]
theorem built_U64 (v : List (List Int)) (c : Nat) : ∀ l ∈ (builtS v c).Levels, ∀ x ∈ l, U64 x := lvS_U64 _ (fun x hx => by
  obtain ⟨l, _, rfl⟩ := List.mem_map.1 hx
  exact fin_U64 _)
theorem built_few {v : List (List Int)} {c : Nat} (hv : v.length ≤ 100) (hc : 1 ≤ c) : ∀ l ∈ (builtS v c).Levels, l.length ≤ 100 := fun l hl => by
  have := lv_mem _ _ l hl
  have hsl := sums_len v c
  have hdiv : (v.length + c - 1) / c ≤ v.length := by
    rcases Nat.eq_zero_or_pos v.length with h | h
    · rw [h, Nat.div_eq_of_lt (by omega)]; omega
    refine Nat.div_le_of_le_mul ?_
    have : v.length - 1 ≤ c * (v.length - 1) := Nat.le_mul_of_pos_left _ hc
    have e : c * v.length = c * (v.length - 1) + c := by
      rw [← Nat.mul_succ]; congr 1; omega
    omega
  omega
/-- The trees of the laws: none, or two good trees of one shape. -/
theorem trees_eq {a0 a1 : List (List Int)} {a2 : Int} (h0 : ∀ x ∈ a0, x.length = 8) (h1 : ∀ x ∈ a1, x.length = 8) (h2 : 0 ≤ a2 ∧ a2 ≤ 255) :
    (∃ t1 t2, f_law44_trees a0 a1 a2 = some (t1, t2, false)) ∨ ∃ c, 1 ≤ c ∧ c ≤ 100 ∧ a0.length ≠ 0 ∧ a0.length ≤ 100 ∧ a1.length = a0.length ∧ f_law44_trees a0 a1 a2 = some (builtS a0 c, builtS a1 c, true) := by
  unfold f_law44_trees
  by_cases g1 : a0.length ≤ 100
  · by_cases g2 : a0.length = a1.length
    · have e1 : decide (100 < (a0.length : Int)) = false := by simp; omega
      have e2 : (!decide ((a0.length : Int) = (a1.length : Int))) = false := by simp; omega
      simp only [e1, e2, Bool.false_eq_true, if_false, Option.bind_some]
      have hm : a2.tmod 12 = a2 % 12 := Int.tmod_eq_emod_of_nonneg h2.1
      rw [hm, w64 (n := a2 % 12) (by omega) (by omega), w64 (n := a2 % 12 + 1) (by omega) (by omega)]
      obtain ⟨c, hc⟩ : ∃ c : Nat, (c : Int) = a2 % 12 + 1 := ⟨(a2 % 12 + 1).toNat, by omega⟩
      rw [← hc, build_eq h0 g1 (by omega) (by omega), build_eq h1 (by omega) (by omega) (by omega)]
      simp only [Option.bind_some]
      by_cases g3 : a0.length = 0
      · left
        rw [if_pos g3]
        exact ⟨_, _, rfl⟩
      · right
        rw [if_neg g3, if_neg (show ¬ a1.length = 0 by omega)]
        exact ⟨c, by omega, by omega, g3, g1, g2.symm, rfl⟩
    · have e1 : decide (100 < (a0.length : Int)) = false := by simp; omega
      have e2 : (!decide ((a0.length : Int) = (a1.length : Int))) = true := by simp; omega
      simp only [e1, e2, Bool.false_eq_true, if_false, if_true, Option.bind_some]
      exact .inl ⟨_, _, rfl⟩
  · have e1 : decide (100 < (a0.length : Int)) = true := by simp; omega
    simp only [e1, if_true, Option.bind_some]
    exact .inl ⟨_, _, rfl⟩
/-! ### What differs at a level -/
def valS (t : api_Tree) (i : Nat) (n : Int) : Int := (t.Levels.getD i []).getD n.toNat 0
def df (t1 t2 : api_Tree) (i : Nat) (n : Int) : Bool := decide (valS t1 i n ≠ valS t2 i n)
theorem range_filter {α : Type} (p : α → Bool) (l : List α) (g : Nat → List α) (hg : ∀ i (h : i < l.length), g i = if p l[i] = true then [l[i]] else []) : (List.range l.length).flatMap g = l.filter p := by
  have key : ∀ k, k ≤ l.length → (List.range k).flatMap g = (l.take k).filter p := by
    intro k
    induction k with
    | zero => intro _; simp
    | succ k ih =>
      intro hk
      rw [List.range_succ, List.flatMap_append, List.take_succ_eq_append_getElem (by omega), List.filter_append, ih (by omega)]
      simp only [List.flatMap_cons, List.flatMap_nil, List.append_nil]
      rw [hg k (by omega)]
      congr 1
      cases hp : p l[k] <;> simp [hp]
  have := key l.length (Nat.le_refl _)
  rwa [List.take_length] at this
theorem chunk_at {α : Type} (f : α → List Int) (h : ∀ x, (f x).length = 8) : ∀ (l : List α) (i : Nat) (hi : i < l.length), ((l.flatMap f).drop (8 * i)).take 8 = f l[i]
  | x :: l, 0, _ => by
    have := h x
    simp only [List.flatMap_cons, Nat.mul_zero, List.drop_zero, List.getElem_cons_zero]
    rw [List.take_append_of_le_length (by omega), List.take_of_length_le (by omega)]
  | x :: l, i + 1, hi => by
    have hx := h x
    have ih := chunk_at f h l i (by simpa using hi)
    simp only [List.flatMap_cons, List.getElem_cons_succ]
    rw [show 8 * (i + 1) = (f x).length + 8 * i by omega, List.drop_append, List.drop_of_length_le (by omega), List.nil_append, Nat.add_sub_cancel_left, ih]
theorem bytes_inj {a b : Int} (ha : U64 a) (hb : U64 b) : bytesS a = bytesS b ↔ a = b :=
  ⟨fun h => by rw [← bytes_asm ha, h, bytes_asm hb], fun h => by rw [h]⟩
theorem val_U64 {t : api_Tree} (h : ∀ l ∈ t.Levels, ∀ x ∈ l, U64 x) (i : Nat) (n : Int) : U64 (valS t i n) := by
  unfold valS
  rw [List.getD_eq_getElem?_getD]
  cases hx : (t.Levels.getD i [])[n.toNat]? with
  | none => exact ⟨by simp, by simp⟩
  | some x =>
    rw [List.getD_eq_getElem?_getD] at hx
    cases hl : t.Levels[i]? with
    | none => rw [hl] at hx; simp at hx
    | some l => rw [hl] at hx; exact h l (List.mem_of_getElem? hl) x (List.mem_of_getElem? hx)
theorem diff_filter {nodes body level level2 : List Int} (hb : body = nodes.flatMap fun n => bytesS (level2.getD n.toNat 0)) (hu : ∀ n ∈ nodes, U64 (level.getD n.toNat 0) ∧ U64 (level2.getD n.toNat 0)) :
    differS nodes body level = nodes.filter fun n => decide (level.getD n.toNat 0 ≠ level2.getD n.toNat 0) := by
  unfold differS
  refine range_filter _ _ _ fun i hi => ?_
  have e1 : nodes.getD i 0 = nodes[i] := by simp [List.getD_eq_getElem?_getD, hi]
  have e2 : (body.drop (8 * i)).take 8 = bytesS (level2.getD (nodes[i]).toNat 0) := by
    rw [hb]
    exact chunk_at (fun n => bytesS (level2.getD n.toNat 0)) (fun n => bytes_len _) nodes i hi
  obtain ⟨u1, u2⟩ := hu nodes[i] (List.getElem_mem _)
  have hbi := bytes_inj u2 u1
  unfold diffAt
  rw [e1, e2]
  by_cases he : level.getD (nodes[i]).toNat 0 = level2.getD (nodes[i]).toNat 0
  · rw [if_pos (hbi.2 he.symm), if_neg (by simp only [he, ne_eq, not_true_eq_false, decide_false]; decide)]
  · rw [if_neg (fun e => he (hbi.1 e).symm), if_pos (decide_eq_true he)]
theorem dOf_eq {t2 : api_Tree} {w : api_Walk} (h1 : ∀ l ∈ w.Tree.Levels, ∀ x ∈ l, U64 x) (h2 : ∀ l ∈ t2.Levels, ∀ x ∈ l, U64 x) : dOf t2 w = (nodesS w.Pending).filter (df w.Tree t2 w.Level.toNat) := by
  have := diff_filter (nodes := nodesS w.Pending) (body := bodyS t2 w) (level := levelS w) (level2 := t2.Levels.getD w.Level.toNat []) (by unfold bodyS; rfl) (fun n hn => ⟨val_U64 h1 w.Level.toNat n, val_U64 h2 w.Level.toNat n⟩)
  exact this
end Go.Proofs.Ytogflgcngfghpaa
end
section
set_option maxHeartbeats 1000000
set_option linter.unusedVariables false
set_option linter.unusedSimpArgs false
namespace Go.Proofs.Ytogflgcngfghpaa
open Go.J
theorem Twin.symm {t1 t2 : api_Tree} (h : Twin t1 t2) : Twin t2 t1 := ⟨h.g2, h.g1, h.s.symm, h.l.symm⟩
theorem runS_twin {t1 t2 : api_Tree} (ht : Twin t1 t2) : runS t1 t2 = ((runW t2 (t1.Levels.length - 1) (firstW t1)).Found, (runW t2 (t1.Levels.length - 1) (firstW t1)).Sent, 0) := by
  unfold runS
  rw [if_neg (by simp [ht.g1]), if_neg (by simp [ht.g2]), if_neg (by simp [ht.s, ht.l])]
end Go.Proofs.Ytogflgcngfghpaa
end
section
set_option maxHeartbeats 1000000
set_option linter.unusedVariables false
set_option linter.unusedSimpArgs false
namespace Go.Proofs.Ytogflgcngfghpaa
open Go.J
/-! ### Sums -/
def T (f : Nat → Int) : Nat → Nat → Int
  | _, 0 => 0
  | i, m + 1 => f i + T f (i + 1) m
theorem T_snoc (f : Nat → Int) : ∀ (m i : Nat), T f i (m + 1) = T f i m + f (i + m)
  | 0, i => by simp [T]
  | m + 1, i => by
    rw [T, T_snoc f m (i + 1), T, show i + 1 + m = i + (m + 1) by omega]; omega
/-! ### A node that differs has a node below that differs -/
theorem up_getD : ∀ (l : List Int) (k : Nat), 2 * k < l.length → (upS l).getD k 0 = if 2 * k + 1 < l.length then pairS (l.getD (2 * k) 0) (l.getD (2 * k + 1) 0) else l.getD (2 * k) 0
  | [], k, h => by simp at h
  | [a], k, h => by
    have : k = 0 := by simp at h; omega
    subst this; simp [upS]
  | a :: b :: r, 0, h => by simp [upS]
  | a :: b :: r, k + 1, h => by
    have ih := up_getD r k (by simp at h; omega)
    have e1 : 2 * (k + 1) = 2 * k + 1 + 1 := by omega
    simp only [upS, List.getD_cons_succ, e1, List.length_cons]
    rw [ih]
    by_cases h2 : 2 * k + 1 < r.length
    · rw [if_pos h2, if_pos (by omega)]
    · rw [if_neg h2, if_neg (by omega)]
theorem good_lvS {t : api_Tree} (h : checkS t = 0) : lvS (t.Levels.headD []).length (t.Levels.headD []) = t.Levels := by
  unfold checkS at h
  split at h
  · cases h
  · split at h
    · cases h
    · split at h
      · split at h
        · rename_i h4; exact h4
        · cases h
      · cases h
theorem good_up {t : api_Tree} (h : checkS t = 0) {i : Nat} (hi : i + 1 < t.Levels.length) : t.Levels.getD (i + 1) [] = upS (t.Levels.getD i []) := by
  have e := good_lvS h
  have := lvS_up (t.Levels.headD []).length (t.Levels.headD []) i (by rw [e]; exact hi)
  rwa [e] at this
theorem df_below {t1 t2 : api_Tree} (ht : Twin t1 t2) {i : Nat} (hi : i + 1 < t1.Levels.length) {n : Int} (h0 : 0 ≤ n) (hn : 2 * n < (lvLen t1 i : Int)) (hd : df t1 t2 (i + 1) n = true) :
    df t1 t2 i (2 * n) = true ∨ (2 * n + 1 < (lvLen t1 i : Int) ∧ df t1 t2 i (2 * n + 1) = true) := by
  obtain ⟨s1, s2⟩ := ht.shape
  have hl := s2 i
  have e1 := good_up ht.g1 hi
  have e2 := good_up ht.g2 (i := i) (by omega)
  unfold lvLen at hn hl
  have hl1 : 2 * n.toNat < (t1.Levels.getD i []).length := by omega
  have v1 := up_getD (t1.Levels.getD i []) n.toNat hl1
  have v2 := up_getD (t2.Levels.getD i []) n.toNat (by omega)
  have w1 : valS t1 (i + 1) n = (upS (t1.Levels.getD i [])).getD n.toNat 0 := by unfold valS; rw [e1]
  have w2 : valS t2 (i + 1) n = (upS (t2.Levels.getD i [])).getD n.toNat 0 := by unfold valS; rw [e2]
  have c1 : (2 * n).toNat = 2 * n.toNat := by omega
  have c2 : (2 * n + 1).toNat = 2 * n.toNat + 1 := by omega
  unfold df at hd ⊢
  simp only [decide_eq_true_eq] at hd ⊢
  rw [w1, w2, v1, v2, ← hl] at hd
  unfold valS lvLen
  rw [c1, c2]
  by_cases a : (t1.Levels.getD i []).getD (2 * n.toNat) 0 = (t2.Levels.getD i []).getD (2 * n.toNat) 0
  · right
    rw [a] at hd
    by_cases b : 2 * n.toNat + 1 < (t1.Levels.getD i []).length
    · rw [if_pos b, if_pos b] at hd
      refine ⟨by omega, fun e => hd ?_⟩
      rw [e]
    · rw [if_neg b, if_neg b] at hd
      exact absurd rfl hd
  · exact .inl a
theorem below_more {len : Nat} {p : Int → Bool} : ∀ {d : List Int}, (∀ n ∈ d, (2 * n < (len : Int) ∧ p (2 * n) = true) ∨ (2 * n + 1 < (len : Int) ∧ p (2 * n + 1) = true)) → d.length ≤ ((belowS len d).filter p).length
  | [], _ => by simp
  | n :: d, h => by
    have ih := below_more (d := d) fun m hm => h m (by simp [hm])
    have e : belowS len (n :: d) = ([2 * n, 2 * n + 1].filter fun x => decide (x < (len : Int))) ++ belowS len d := by unfold belowS; rw [List.flatMap_cons]
    rw [e, List.filter_append, List.length_append, List.length_cons]
    have h1 : 1 ≤ (([2 * n, 2 * n + 1].filter fun x => decide (x < (len : Int))).filter p).length := by
      rcases h n (by simp) with ⟨a, b⟩ | ⟨a, b⟩
      · exact List.length_pos_of_mem (a := 2 * n) (by simp [a, b])
      · exact List.length_pos_of_mem (a := 2 * n + 1) (by simp [a, b])
    omega
theorem below_two {len : Nat} : ∀ (d : List Int), (belowS len d).length ≤ 2 * d.length
  | [] => by simp [belowS]
  | n :: d => by
    have ih := below_two (len := len) d
    have e : belowS len (n :: d) = ([2 * n, 2 * n + 1].filter fun x => decide (x < (len : Int))) ++ belowS len d := by unfold belowS; rw [List.flatMap_cons]
    have h1 : ([2 * n, 2 * n + 1].filter fun x => decide (x < (len : Int))).length ≤ 2 := List.length_filter_le _ _
    rw [e, List.length_append, List.length_cons]
    omega
/-! ### The digests sent -/
def lenI (t : api_Tree) (i : Nat) : Int := (lvLen t i : Int)
def capI (t : api_Tree) (c : Int) (i : Nat) : Int := min (lenI t i) (2 * min c (lenI t (i + 1)))
theorem T_nonneg {f : Nat → Int} (h : ∀ j, 0 ≤ f j) : ∀ (m i : Nat), 0 ≤ T f i m
  | 0, _ => Int.le_refl _
  | m + 1, i => by rw [T]; have := T_nonneg h m (i + 1); have := h i; omega
theorem run_bound {t1 t2 : api_Tree} (ht : Twin t1 t2) (u1 : ∀ l ∈ t1.Levels, ∀ x ∈ l, U64 x) (u2 : ∀ l ∈ t2.Levels, ∀ x ∈ l, U64 x) : ∀ (k : Nat) (w : api_Walk), RI t1 w → w.Level = (k : Int) →
    sentD w ≤ (runW t2 k w).Sent ∧ (runW t2 k w).Sent ≤ sentD w + T (lenI t1) 0 k ∧
    ∃ d0, (runW t2 k w).Found = foldX (secs t1.Size t1.Leaf d0) ∧ Rising d0 ∧ (∀ n ∈ d0, 0 ≤ n ∧ n.toNat < lvLen t1 0) ∧ (dOf t2 w).length ≤ d0.length ∧ (runW t2 k w).Sent ≤ sentD w + T (capI t1 (d0.length : Int)) 0 k
  | 0, w, h, hk => by
    obtain ⟨r1, r2, r3⟩ := h.op.rise (ansM t2 w)
    have e : runW t2 0 w = (⟨w.Tree, [], 0, foldX (secs w.Tree.Size w.Tree.Leaf (dOf t2 w)), sentD w, true⟩ : api_Walk) := by
      rw [runW]; unfold moveS; rw [if_pos (by omega)]
    rw [e]
    refine ⟨Int.le_refl _, by simp [T], dOf t2 w, by rw [h.tree], r1, fun n hn => ?_, Nat.le_refl _, by simp [T]⟩
    have := r2 n hn
    unfold levelS at this
    rw [hk, h.tree] at this
    exact this
  | k + 1, w, h, hk => by
    have h0 : w.Level ≠ 0 := by omega
    obtain ⟨r1, r2, r3⟩ := h.op.rise (ansM t2 w)
    by_cases hd : dOf t2 w = []
    · have e : runW t2 (k + 1) w = (⟨w.Tree, [], 0, [], sentD w, true⟩ : api_Walk) := by
        rw [runW, if_pos hd]; unfold moveS; rw [if_neg h0, if_pos hd]
      rw [e]
      have t0 : ∀ c : Nat, 0 ≤ T (capI t1 (c : Int)) 0 (k + 1) := fun c => T_nonneg (fun j => by unfold capI lenI; omega) _ _
      have t00 : 0 ≤ T (lenI t1) 0 (k + 1) := T_nonneg (fun j => by unfold lenI; omega) _ _
      refine ⟨Int.le_refl _, by show sentD w ≤ _; omega, [], rfl, by simp [Rising], fun n hn => by simp at hn, by rw [hd]; simp, ?_⟩
      show sentD w ≤ _
      have := t0 0
      simp only [List.length_nil]
      omega
    · have hw : RI t1 (downS w (dOf t2 w)) := h.down h0 hd
      have e : runW t2 (k + 1) w = runW t2 k (downS w (dOf t2 w)) := by rw [runW, if_neg hd]
      rw [e]
      have hk' : (downS w (dOf t2 w)).Level = (k : Int) := by show w.Level - 1 = (k : Int); omega
      obtain ⟨b1, b2, d0, f1, f2, f3, f4, f5⟩ := run_bound ht u1 u2 k (downS w (dOf t2 w)) hw hk'
      have hl := h.op.lv
      rw [h.tree] at hl
      have hk2 : (w.Level - 1).toNat = k := by omega
      have hpn : nodesS (downS w (dOf t2 w)).Pending = belowS (lvLen t1 k) (dOf t2 w) := by
        have := foldX_nodes (below_rising (len := (w.Tree.Levels.getD (w.Level - 1).toNat []).length) r1) (below_bd (h.op.below h0).2 fun n hn => by have := r2 n hn; have := h.op.len; omega)
        rw [h.tree, hk2] at this
        show nodesS (foldX (oneS (belowS (w.Tree.Levels.getD (w.Level - 1).toNat []).length (dOf t2 w)))) = _
        rw [h.tree, hk2]
        exact this
      have hsd : sentD (downS w (dOf t2 w)) = sentD w + ((belowS (lvLen t1 k) (dOf t2 w)).length : Int) := by
        show sentD w + ((nodesS (downS w (dOf t2 w)).Pending).length : Int) = _
        rw [hpn]
      -- the nodes of this level
      have hlen1 : (levelS w).length = lvLen t1 (k + 1) := by
        unfold levelS lvLen
        rw [h.tree, show w.Level.toNat = k + 1 by omega]
      have hdl : ((dOf t2 w).length : Int) ≤ lenI t1 (k + 1) := by
        have := rising_len (lo := 0) (hi := (lvLen t1 (k + 1) : Int)) r1 (fun n hn => by have := r2 n hn; rw [hlen1] at this; omega) (by omega)
        unfold lenI
        have e2 : dOf t2 w = stepD w (ansM t2 w) := rfl
        rw [e2]; omega
      have hbl : ((belowS (lvLen t1 k) (dOf t2 w)).length : Int) ≤ lenI t1 k := by
        have := rising_len (lo := 0) (hi := (lvLen t1 k : Int)) (below_rising (len := lvLen t1 k) r1) (fun n hn => by
          obtain ⟨x1, m, hm, x2⟩ := below_mem.1 hn
          have := r2 m hm
          omega) (by omega)
        unfold lenI
        have e2 : dOf t2 w = stepD w (ansM t2 w) := rfl
        rw [e2]; omega
      have hb2 := below_two (len := lvLen t1 k) (dOf t2 w)
      -- every node that differs has one below
      have hmore : (dOf t2 w).length ≤ (dOf t2 (downS w (dOf t2 w))).length := by
        have ed : dOf t2 (downS w (dOf t2 w)) = (belowS (lvLen t1 k) (dOf t2 w)).filter (df t1 t2 k) := by
          rw [dOf_eq (w := downS w (dOf t2 w)) (by rw [hw.tree]; exact u1) u2, hpn, hk', hw.tree]; rfl
        rw [ed]
        refine below_more fun n hn => ?_
        have hn' := hn
        rw [dOf_eq (by rw [h.tree]; exact u1) u2, h.tree] at hn'
        have hdf := (List.mem_filter.1 hn').2
        rw [show w.Level.toNat = k + 1 by omega] at hdf
        have hr := r2 n hn
        rw [hlen1] at hr
        obtain ⟨_, _, _, _, s1, _⟩ := good_levels ht.g1
        have hhalf := (shp_half _ _ s1 k (by omega)).1
        have hhalf : lvLen t1 (k + 1) = (lvLen t1 k + 1) / 2 := hhalf
        rcases df_below ht (i := k) (by omega) hr.1 (by omega) hdf with x | x
        · exact .inl ⟨by omega, x⟩
        · exact .inr x
      have es : T (lenI t1) 0 (k + 1) = T (lenI t1) 0 k + lenI t1 k := by rw [T_snoc]; simp
      have ec : T (capI t1 (d0.length : Int)) 0 (k + 1) = T (capI t1 (d0.length : Int)) 0 k + capI t1 (d0.length : Int) k := by rw [T_snoc]; simp
      have hcap : ((belowS (lvLen t1 k) (dOf t2 w)).length : Int) ≤ capI t1 (d0.length : Int) k := by
        unfold capI
        omega
      refine ⟨by omega, by omega, d0, f1, f2, f3, by omega, by omega⟩
end Go.Proofs.Ytogflgcngfghpaa
end
